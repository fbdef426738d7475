/- The law ProdPlays, walked, from Pids' contract. No condition but this contract, which is named. -/
import Derived.Test.YtnnoicacpcahfaaSameT
import Derived.Test.YtnnoicacpcahfaaSameB
namespace Go.Proofs.Ytnnoicacpcahfaa
open Go.RowKit

/-- An operation of the script. -/
structure Po where
  kind : Int
  b : Bt
def Po.cells (o : Po) : List Value := .int .i64 o.kind :: o.b.cells
theorem Po.len (o : Po) : o.cells.length = 10 := rfl

theorem poCells {w : World} {g off k n : Nat} {l : List Po} {o : Po} (h : ∀ j, j < n * 10 → w.cell? ⟨g, off + j, none⟩ = (l.flatMap Po.cells)[j]?) (hn : l.length = n) (hb : l[k]? = some o) :
    w.cell? ⟨g, off + k * 10, none⟩ = some (.int .i64 o.kind) ∧
    w.cell? ⟨g, off + k * 10 + 1, none⟩ = some (.int .i64 o.b.base) ∧ w.cell? ⟨g, off + k * 10 + 2, none⟩ = some (.int .i64 o.b.ep) ∧ w.cell? ⟨g, off + k * 10 + 3, none⟩ = some (.int .u64 o.b.pid) ∧
    w.cell? ⟨g, off + k * 10 + 4, none⟩ = some (.int .i64 o.b.pe) ∧ w.cell? ⟨g, off + k * 10 + 5, none⟩ = some (.int .i64 o.b.sq) ∧ w.cell? ⟨g, off + k * 10 + 6, none⟩ = some (.bool o.b.txn) ∧
    w.cell? ⟨g, off + k * 10 + 7, none⟩ = some (.bool o.b.ctl) ∧ w.cell? ⟨g, off + k * 10 + 8, none⟩ = some (.bool o.b.com) ∧ w.cell? ⟨g, off + k * 10 + 9, none⟩ = some (.slice o.b.va o.b.vn o.b.vc) := by
  have hk : k < l.length := (List.getElem?_eq_some_iff.1 hb).1
  have key : ∀ j, j < 10 → w.cell? ⟨g, off + k * 10 + j, none⟩ = o.cells[j]? := fun j hj => by
    rw [Nat.add_assoc, h _ (by omega), flat_get Po.cells Po.len l k j o hb hj]
  exact ⟨key 0 (by omega), key 1 (by omega), key 2 (by omega), key 3 (by omega), key 4 (by omega), key 5 (by omega), key 6 (by omega), key 7 (by omega), key 8 (by omega), key 9 (by omega)⟩

set_option maxRecDepth 100000 in
set_option maxHeartbeats 6400000 in
theorem prodPlays_walk (HP : PidsOk) (w : World) (la : Option Addr) (lc : Nat) (l : List Po) (hrd : Rd w 10 (.slice la l.length lc) l.length (l.flatMap Po.cells)) (hin : ∀ o ∈ l, o.b.okIn w) (hn : l.length * 80 ≤ 140737488355328) :
    Calls Try.prog 4 #[.slice la l.length lc] w
      fun e w' => e = .returned (.bool true) ∧ Mods Nil w w' := by
  go_enter Try.func4, Try.ntmps4
  go_wp2_with fail
  refine (prodNew_walk _).mono ?_
  rintro e w1 ⟨bt, d, addr, F, rfl, hT, hF, hm1⟩
  go_wp2_with fail
  have hno := hT.2.1
  have hr2 := heap_new w1 (.cells #[.slice none 0 0] 27)
  have hm2 : Mods Nil w1 (w1.alloc (.cells #[.slice none 0 0] 27)) := Mods.refl.alloc _
  generalize hrt : w1.heap.size = rt at *
  generalize w1.alloc (.cells #[.slice none 0 0] 27) = w2 at *
  refine (awake_walk _).mono ?_
  rintro e w3 ⟨rfl, hm3⟩
  have hm23 := hm2.trans hm3 (fun _ _ h => h)
  have hT3 := hT.keep hm23 (fun _ _ => id)
  have hR3 : RefT w3 rt [] (fun k => k = rt) := ⟨rfl, fun k hk => by have := ltOf (hm3.keep hr2 id); omega, none, 0, hm3.keep hr2 id, Sl.nil _ _ _, by simp⟩
  have hmw3 : Mods Nil w w3 := hm1.trans hm23 (fun _ _ h => h)
  have hw1 := hm1.size
  have hdj : ∀ j, F j → j ≠ rt := fun j hj e => by have := hno _ hj; omega
  have hwr : w.heap.size ≤ rt := by omega
  clear hT hr2 hm1 hm2 hm3 hm23 hno
  go_wp2_with fail
  go_loopw [25] (fun s25 wr => ∃ (k : Nat) (T : Tab) (addr : Int → Nat) (F F2 : Nat → Prop) (l' : List Bt), k ≤ l.length ∧ s25 = .int .i64 k ∧ TabRep wr bt T addr F ∧ RefT wr rt l' F2 ∧ Hid (Agree T l' ∧ AgreeL T l' ∧ ∀ b ∈ l', b.pid ≠ 0) ∧ l'.length ≤ k ∧ (∀ j, F j → w.heap.size ≤ j) ∧ (∀ j, F2 j → w.heap.size ≤ j) ∧ (∀ j, F j → ¬ F2 j) ∧ Mods Nil w wr) (fun s25 _ => l.length - (intOf s25).toNat)
  case atStart => exact ⟨0, _, addr, F, (fun k => k = rt), [], by omega, rfl, hT3, hR3, ⟨Agree.nil d, AgreeL.nil d, by simp⟩, by simp, hF, fun j hj => by omega, hdj, hmw3⟩
  case round =>
    clear hT3 hR3 hF hdj hmw3
    obtain ⟨k, T, addr, F, F2, l', hk, rfl, hT, hR, hA, hl', hF, hF2, hdj, hm⟩ := hrel
    by_cases hlt : k < l.length
    · obtain ⟨g, off, rfl, hg, hcells⟩ := (rdKeep hrd hm (fun _ _ => id)).form (by omega) (by omega)
      obtain ⟨o, hok⟩ : ∃ o, l[k]? = some o := ⟨_, List.getElem?_eq_getElem hlt⟩
      obtain ⟨c0, c1, c2, c3, c4, c5, c6, c7, c8, c9⟩ := poCells hcells rfl hok
      obtain ⟨⟨vals, G, hv, hx⟩, hvn, hwf, hp0⟩ := hin o (List.mem_of_getElem? hok)
      clear hcells hok
      obtain ⟨kind, b⟩ := o
      dsimp only at *
      have hsz := hm.size
      have hvn2 : b.vn ≤ 4611686018427387904 := by omega
      go_wp2_with fail
      obtain ⟨X, hX⟩ : ∃ X, X = Obj.cells #[.int .i64 kind, Value.int .i64 b.base, .int .i64 b.ep, .int .u64 b.pid, .int .i64 b.pe, .int .i64 b.sq, .bool b.txn, .bool b.ctl, .bool b.com, .slice b.va b.vn b.vc] 43 := ⟨_, rfl⟩
      rw [← hX]
      have hb4 := heap_new wr X
      have hm4 : Mods Nil wr (wr.alloc X) := Mods.refl.alloc _
      subst hX
      generalize wr.alloc (.cells #[.int .i64 kind, Value.int .i64 b.base, .int .i64 b.ep, .int .u64 b.pid, .int .i64 b.pe, .int .i64 b.sq, .bool b.txn, .bool b.ctl, .bool b.com, .slice b.va b.vn b.vc] 43) = w4 at *
      have hv4 := hv.keep (hm.trans hm4 (fun _ _ h => h)) (fun _ _ => id)
      refine (copy_walk _ b vals G hv4 hvn hx).mono ?_
      rintro e w5 ⟨va', vc', rfl, hm5, hv5⟩
      have hb5 := hm5.keep hb4 id
      have hvo5 := hv4.keep hm5 (fun _ _ => id)
      have hm45 := hm4.trans hm5 (fun _ _ h => h)
      clear hm4 hm5 hb4 hv hv4
      have hmw5 : Mods Nil w w5 := hm.trans hm45 (fun _ _ h => h)
      have hT5 := hT.keep hm45 (fun _ _ => id)
      have hR5 := hR.keep hm45 (fun _ _ => id)
      generalize hob : wr.heap.size = ob at *
      have hobF : ¬ F ob := fun h => by have := hT.2.1 _ h; omega
      have hobF2 : ¬ F2 ob := fun h => by have := hR.2.1 _ h; omega
      clear hT hR hm hm45 c0 c1 c2 c3 c4 c5 c6 c7 c8 c9 hg
      have cb5 := cellOf hb5
      have lb5 := ltOf hb5
      go_wp2_with fail
      obtain ⟨X, hX⟩ : ∃ X, X = Obj.cells #[Value.int .i64 b.base, .int .i64 b.ep, .int .u64 b.pid, .int .i64 b.pe, .int .i64 b.sq, .bool b.txn, .bool b.ctl, .bool b.com, .slice va' b.vn vc'] 32 := ⟨_, rfl⟩
      rw [← hX]
      have hc6 := heap_new w5 X
      have hm56 : Mods Nil w5 (w5.alloc X) := Mods.refl.alloc _
      subst hX
      generalize hcb : w5.heap.size = cb at *
      generalize w5.alloc (.cells #[Value.int .i64 b.base, .int .i64 b.ep, .int .u64 b.pid, .int .i64 b.pe, .int .i64 b.sq, .bool b.txn, .bool b.ctl, .bool b.com, .slice va' b.vn vc'] 32) = w6 at *
      have hobc : ob ≠ cb := by omega
      have hb6 := hm56.keep hb5 id
      have hT6 := hT5.keep hm56 (fun _ _ => id)
      have hR6 := hR5.keep hm56 (fun _ _ => id)
      have hcbF : ¬ F cb := fun h => by have := hT5.2.1 _ h; omega
      have hcbF2 : ¬ F2 cb := fun h => by have := hR5.2.1 _ h; omega
      have hv6 := hv5.keep hm56 (fun _ _ => id)
      have hvo6 := hvo5.keep hm56 (fun _ _ => id)
      have hmw6 := hmw5.trans hm56 (fun _ _ h => h)
      clear hm56 hT5 hR5 hv5 hvo5 hb5 cb5 lb5 hmw5
      refine (tabCheck_walk w6 bt T addr F ⟨b.base, b.ep, b.pid, b.pe, b.sq, b.txn, b.ctl, b.com, va', b.vn, vc'⟩ vals _ hT6 hA.out.1.2.1 hwf hv6 hvn2 hp0).mono ?_
      rintro e w7 ⟨rfl, hm7⟩
      have hc := check_agree hA.out.1 hA.out.2.1 b vals
      rw [show T.check ⟨b.base, b.ep, b.pid, b.pe, b.sq, b.txn, b.ctl, b.com, va', b.vn, vc'⟩ (Bt.check ⟨b.base, b.ep, b.pid, b.pe, b.sq, b.txn, b.ctl, b.com, va', b.vn, vc'⟩ vals) = refCheck l' b (b.check vals) from hc]
      clear hc
      obtain ⟨r, hr⟩ : ∃ r, r = refCheck l' b (b.check vals) := ⟨_, rfl⟩
      rw [← hr]
      rw [show chkOut r = .tuple #[.int .i64 r.1, .bool r.2.1, .int .i64 r.2.2] from rfl]
      have hb7 := hm7.keep hb6 id
      have hc7 := hm7.keep hc6 id
      have hT7 := hT6.keep hm7 (fun _ _ => id)
      have hR7 := hR6.keep hm7 (fun _ _ => id)
      have hv7 := hv6.keep hm7 (fun _ _ => id)
      have hvo7 := hvo6.keep hm7 (fun _ _ => id)
      have hmw7 := hmw6.trans hm7 (fun _ _ h => h)
      clear hm7 hb6 hc6 hT6 hR6 hv6 hvo6 hmw6
      replace hr := Lib.hid hr
      have cb7 := cellOf hb7
      have lb7 := ltOf hb7
      go_wp2_with fail
      clear cb7 lb7
      obtain ⟨hR7a, hR7b, ra, rc, hrb7, hrs7, hra7⟩ := id hR7
      refine (refCheck_walk w7 rt ra rc l' b vals G hrb7 hrs7.rd (by omega) hvo7 hvn2 hp0).mono ?_
      clear hR7a hR7b hrb7 hrs7 hra7
      rintro e w8 ⟨rfl, hm8⟩
      rw [← hr.out]
      rw [show chkOut r = .tuple #[.int .i64 r.1, .bool r.2.1, .int .i64 r.2.2] from rfl]
      clear hr
      obtain ⟨rbase, ragain, re⟩ := r
      dsimp only
      have hb8 := hm8.keep hb7 id
      have hc8 := hm8.keep hc7 id
      have hT8 := hT7.keep hm8 (fun _ _ => id)
      have hR8 := hR7.keep hm8 (fun _ _ => id)
      have hv8 := hv7.keep hm8 (fun _ _ => id)
      have hvo8 := hvo7.keep hm8 (fun _ _ => id)
      have hmw8 := hmw7.trans hm8 (fun _ _ h => h)
      clear hm8 hb7 hc7 hT7 hR7 hv7 hvo7 hmw7
      have cb8 := cellOf hb8
      have lb8 := ltOf hb8
      have cc8 := cellOf hc8
      have lc8 := ltOf hc8
      go_wp2_with fail
      refine (sameBatch_walk w8 b va' vc' vals G _ hvo8 hv8 hvn2 hx).mono ?_
      rintro e w9 ⟨rfl, hm9⟩
      have hb9 := hm9.keep hb8 id
      have hc9 := hm9.keep hc8 id
      have hT9 := hT8.keep hm9 (fun _ _ => id)
      have hR9 := hR8.keep hm9 (fun _ _ => id)
      have hmw9 := hmw8.trans hm9 (fun _ _ h => h)
      clear hm9 hb8 hc8 hT8 hR8 hv8 hvo8 hmw8 cb8 lb8 cc8 lc8
      have cb9 := cellOf hb9
      have lb9 := ltOf hb9
      have cc9 := cellOf hc9
      have lc9 := ltOf hc9
      have fin : ∀ (w' : World) (T' : Tab) (addr' : Int → Nat) (F' F2' : Nat → Prop) (l'' : List Bt), TabRep w' bt T' addr' F' → RefT w' rt l'' F2' → (Agree T' l'' ∧ AgreeL T' l'' ∧ ∀ b ∈ l'', b.pid ≠ 0) → l''.length ≤ k + 1 → (∀ j, F' j → w.heap.size ≤ j) → (∀ j, F2' j → w.heap.size ≤ j) → (∀ j, F' j → ¬ F2' j) → Mods Nil w w' →
          ∃ (k' : Nat) (T : Tab) (addr : Int → Nat) (F F2 : Nat → Prop) (l' : List Bt), k' ≤ l.length ∧ Value.int .i64 ((k : Int) + 1) = .int .i64 k' ∧ TabRep w' bt T addr F ∧ RefT w' rt l' F2 ∧ Hid (Agree T l' ∧ AgreeL T l' ∧ ∀ b ∈ l', b.pid ≠ 0) ∧ l'.length ≤ k' ∧ (∀ j, F j → w.heap.size ≤ j) ∧ (∀ j, F2 j → w.heap.size ≤ j) ∧ (∀ j, F j → ¬ F2 j) ∧ Mods Nil w w' :=
        fun w' T' addr' F' F2' l'' a1 a2 a3 a4 a5 a6 a7 a8 => ⟨k + 1, T', addr', F', F2', l'', by omega, by go_num, a1, a2, a3, a4, a5, a6, a7, a8⟩
      replace fin := Lib.hid fin
      by_cases happ : kind = 1 ∨ (kind = 0 ∧ re = 0 ∧ ragain = false)
      · rcases happ with rfl | ⟨rfl, rfl, rfl⟩
        · by_cases h0 : b.pid = 0
          · replace h0 := Lib.hid h0
            go_wp2_with fail
            refine (apply_zero _ bt ⟨b.base, b.ep, b.pid, b.pe, b.sq, b.txn, b.ctl, b.com, va', b.vn, vc'⟩ h0.out).mono ?_
            rintro e wa ⟨rfl, hma⟩
            have hba := hma.keep hb9 id
            have cba := cellOf hba
            have lba := ltOf hba
            clear cb9 lb9 cc9 lc9
            go_wp2_with fail
            refine (refApply_zero _ rt b h0.out).mono ?_
            rintro e wb ⟨rfl, hmb⟩
            have hmab := hma.trans hmb (fun _ _ h => h)
            have hbx := hmb.keep hba id
            have hTx := hT9.keep hmab (fun _ _ => id)
            have hRx := hR9.keep hmab (fun _ _ => id)
            have hAx := hA
            have hlx : l'.length ≤ k + 1 := by omega
            have hFx := hF
            have hF2x := hF2
            have hdjx := hdj
            have hmwx := hmw9.trans hmab (fun _ _ h => h)
            clear hma hmb hmab hba hb9 hT9 hR9 hmw9 cba lba
            have cbx := cellOf hbx
            have lbx := ltOf hbx
            clear hbx
            go_wp2_with fail
            refine (sameT_walk HP _ bt rt _ _ _ _ _ b.pid hTx hRx hAx.out.1 hAx.out.2.2 (by omega) hwf).mono ?_
            rintro e wy ⟨rfl, hmy⟩
            clear cbx lbx
            go_wp2_with fail
            exact ⟨fin.out wy _ _ _ _ _ (hTx.keep hmy (fun _ _ => id)) (hRx.keep hmy (fun _ _ => id)) hAx.out hlx hFx hF2x hdjx (hmwx.trans hmy (fun _ _ h => h)), by simp [intOf]; omega⟩
          · have hp2 : 0 < b.pid := by omega
            have hAw := hA.out.1.wf
            go_wp2_with fail
            refine (apply_walk w9 bt T addr F ⟨b.base, b.ep, b.pid, b.pe, b.sq, b.txn, b.ctl, b.com, va', b.vn, vc'⟩ hT9 (by omega) hA.out.1.2.1 hwf (by simpa using h0)).mono ?_
            rintro e wa ⟨rfl, addra, Fa, hTa, hma, hFa⟩
            have hba := hma.keep hb9 hobF
            have cba := cellOf hba
            have lba := ltOf hba
            have hRa := hR9.keep hma (fun j hj hf => hdj j hf hj)
            have hR9l := hR9.2.1
            clear cb9 lb9 cc9 lc9
            go_wp2_with fail
            refine (refApply_walk wa rt l' F2 b hRa hp2 (by omega)).mono ?_
            rintro e wb ⟨rfl, Fb, hRx, hmb, hFb⟩
            have hbx := hmb.keep hba hobF2
            have hTx : TabRep wb bt (T.apply b) addra Fa := hTa.keep hmb (fun j hj h2 => (hFa j hj).elim (fun h => hdj j h h2) (fun h => by have := hR9l j h2; omega))
            have hAx : Hid (Agree (T.apply b) (l' ++ [b]) ∧ AgreeL (T.apply b) (l' ++ [b]) ∧ ∀ c ∈ l' ++ [b], c.pid ≠ 0) := by
              obtain ⟨x1, x2, x3⟩ := hA.out
              refine ⟨x1.step b h0, AgreeL.step x1 x2 b h0, fun c hc => ?_⟩
              rcases List.mem_append.1 hc with hc | hc
              · exact x3 c hc
              · simp at hc; subst hc; exact h0
            have hlx : (l' ++ [b]).length ≤ k + 1 := by simp; omega
            have hsz9 := hmw9.size
            have hsza := hma.size
            have hFx : ∀ j, Fa j → w.heap.size ≤ j := fun j hj => (hFa j hj).elim (hF j) (fun h => by omega)
            have hF2x : ∀ j, Fb j → w.heap.size ≤ j := fun j hj => (hFb j hj).elim (hF2 j) (fun h => by omega)
            have hdjx : ∀ j, Fa j → ¬ Fb j := by
              intro j hj h7
              rcases hFb j h7 with h2 | h2
              · rcases hFa j hj with h | h
                · exact hdj j h h2
                · have := hR9l j h2; omega
              · have := hTa.2.1 j hj; omega
            have hmwx : Mods Nil w wb := (((hmw9.mono (S' := fun j => w.heap.size ≤ j) (fun _ h => h.elim)).trans hma (fun j _ hj => hF j hj)).trans hmb (fun j _ hj => hF2 j hj)).fresh
            clear hba hb9 hT9 hR9 hmw9 cba lba hRa hTa hR9l hFa hFb hma hmb hAw
            have cbx := cellOf hbx
            have lbx := ltOf hbx
            clear hbx
            go_wp2_with fail
            refine (sameT_walk HP _ bt rt _ _ _ _ _ b.pid hTx hRx hAx.out.1 hAx.out.2.2 (by omega) hwf).mono ?_
            rintro e wy ⟨rfl, hmy⟩
            clear cbx lbx
            go_wp2_with fail
            exact ⟨fin.out wy _ _ _ _ _ (hTx.keep hmy (fun _ _ => id)) (hRx.keep hmy (fun _ _ => id)) hAx.out hlx hFx hF2x hdjx (hmwx.trans hmy (fun _ _ h => h)), by simp [intOf]; omega⟩
        · by_cases h0 : b.pid = 0
          · replace h0 := Lib.hid h0
            go_wp2_with fail
            refine (apply_zero _ bt ⟨b.base, b.ep, b.pid, b.pe, b.sq, b.txn, b.ctl, b.com, va', b.vn, vc'⟩ h0.out).mono ?_
            rintro e wa ⟨rfl, hma⟩
            have hba := hma.keep hb9 id
            have cba := cellOf hba
            have lba := ltOf hba
            clear cb9 lb9 cc9 lc9
            go_wp2_with fail
            refine (refApply_zero _ rt b h0.out).mono ?_
            rintro e wb ⟨rfl, hmb⟩
            have hmab := hma.trans hmb (fun _ _ h => h)
            have hbx := hmb.keep hba id
            have hTx := hT9.keep hmab (fun _ _ => id)
            have hRx := hR9.keep hmab (fun _ _ => id)
            have hAx := hA
            have hlx : l'.length ≤ k + 1 := by omega
            have hFx := hF
            have hF2x := hF2
            have hdjx := hdj
            have hmwx := hmw9.trans hmab (fun _ _ h => h)
            clear hma hmb hmab hba hb9 hT9 hR9 hmw9 cba lba
            have cbx := cellOf hbx
            have lbx := ltOf hbx
            clear hbx
            go_wp2_with fail
            refine (sameT_walk HP _ bt rt _ _ _ _ _ b.pid hTx hRx hAx.out.1 hAx.out.2.2 (by omega) hwf).mono ?_
            rintro e wy ⟨rfl, hmy⟩
            clear cbx lbx
            go_wp2_with fail
            exact ⟨fin.out wy _ _ _ _ _ (hTx.keep hmy (fun _ _ => id)) (hRx.keep hmy (fun _ _ => id)) hAx.out hlx hFx hF2x hdjx (hmwx.trans hmy (fun _ _ h => h)), by simp [intOf]; omega⟩
          · have hp2 : 0 < b.pid := by omega
            have hAw := hA.out.1.wf
            go_wp2_with fail
            refine (apply_walk w9 bt T addr F ⟨b.base, b.ep, b.pid, b.pe, b.sq, b.txn, b.ctl, b.com, va', b.vn, vc'⟩ hT9 (by omega) hA.out.1.2.1 hwf (by simpa using h0)).mono ?_
            rintro e wa ⟨rfl, addra, Fa, hTa, hma, hFa⟩
            have hba := hma.keep hb9 hobF
            have cba := cellOf hba
            have lba := ltOf hba
            have hRa := hR9.keep hma (fun j hj hf => hdj j hf hj)
            have hR9l := hR9.2.1
            clear cb9 lb9 cc9 lc9
            go_wp2_with fail
            refine (refApply_walk wa rt l' F2 b hRa hp2 (by omega)).mono ?_
            rintro e wb ⟨rfl, Fb, hRx, hmb, hFb⟩
            have hbx := hmb.keep hba hobF2
            have hTx : TabRep wb bt (T.apply b) addra Fa := hTa.keep hmb (fun j hj h2 => (hFa j hj).elim (fun h => hdj j h h2) (fun h => by have := hR9l j h2; omega))
            have hAx : Hid (Agree (T.apply b) (l' ++ [b]) ∧ AgreeL (T.apply b) (l' ++ [b]) ∧ ∀ c ∈ l' ++ [b], c.pid ≠ 0) := by
              obtain ⟨x1, x2, x3⟩ := hA.out
              refine ⟨x1.step b h0, AgreeL.step x1 x2 b h0, fun c hc => ?_⟩
              rcases List.mem_append.1 hc with hc | hc
              · exact x3 c hc
              · simp at hc; subst hc; exact h0
            have hlx : (l' ++ [b]).length ≤ k + 1 := by simp; omega
            have hsz9 := hmw9.size
            have hsza := hma.size
            have hFx : ∀ j, Fa j → w.heap.size ≤ j := fun j hj => (hFa j hj).elim (hF j) (fun h => by omega)
            have hF2x : ∀ j, Fb j → w.heap.size ≤ j := fun j hj => (hFb j hj).elim (hF2 j) (fun h => by omega)
            have hdjx : ∀ j, Fa j → ¬ Fb j := by
              intro j hj h7
              rcases hFb j h7 with h2 | h2
              · rcases hFa j hj with h | h
                · exact hdj j h h2
                · have := hR9l j h2; omega
              · have := hTa.2.1 j hj; omega
            have hmwx : Mods Nil w wb := (((hmw9.mono (S' := fun j => w.heap.size ≤ j) (fun _ h => h.elim)).trans hma (fun j _ hj => hF j hj)).trans hmb (fun j _ hj => hF2 j hj)).fresh
            clear hba hb9 hT9 hR9 hmw9 cba lba hRa hTa hR9l hFa hFb hma hmb hAw
            have cbx := cellOf hbx
            have lbx := ltOf hbx
            clear hbx
            go_wp2_with fail
            refine (sameT_walk HP _ bt rt _ _ _ _ _ b.pid hTx hRx hAx.out.1 hAx.out.2.2 (by omega) hwf).mono ?_
            rintro e wy ⟨rfl, hmy⟩
            clear cbx lbx
            go_wp2_with fail
            exact ⟨fin.out wy _ _ _ _ _ (hTx.keep hmy (fun _ _ => id)) (hRx.keep hmy (fun _ _ => id)) hAx.out hlx hFx hF2x hdjx (hmwx.trans hmy (fun _ _ h => h)), by simp [intOf]; omega⟩
      · have h1 : kind ≠ 1 := fun h => happ (.inl h)
        have hbx := hb9
        have hTx := hT9
        have hRx := hR9
        have hAx := hA
        have hlx : l'.length ≤ k + 1 := by omega
        have hFx := hF
        have hF2x := hF2
        have hdjx := hdj
        have hmwx := hmw9
        have hk1 : (kind == 1) = false := by simp [h1]
        by_cases k0 : kind = 0
        · subst k0
          by_cases r0 : re = 0
          · subst r0
            have ha : ragain = true := by
              cases ragain with
              | true => rfl
              | false => exact absurd (.inr ⟨rfl, rfl, rfl⟩) happ
            subst ha
            clear happ h1 hk1 hT9 hR9 hmw9 hb9 cc9 lc9
            clear cb9 lb9
            have cbx := cellOf hbx
            have lbx := ltOf hbx
            clear hbx
            go_wp2_with fail
            refine (sameT_walk HP _ bt rt _ _ _ _ _ b.pid hTx hRx hAx.out.1 hAx.out.2.2 (by omega) hwf).mono ?_
            rintro e wy ⟨rfl, hmy⟩
            clear cbx lbx
            go_wp2_with fail
            exact ⟨fin.out wy _ _ _ _ _ (hTx.keep hmy (fun _ _ => id)) (hRx.keep hmy (fun _ _ => id)) hAx.out hlx hFx hF2x hdjx (hmwx.trans hmy (fun _ _ h => h)), by simp [intOf]; omega⟩
          · have hr0 : (re == 0) = false := by simp [r0]
            clear happ h1 hk1 hT9 hR9 hmw9 hb9 cc9 lc9 r0
            clear cb9 lb9
            have cbx := cellOf hbx
            have lbx := ltOf hbx
            clear hbx
            go_wp2_with fail
            refine (sameT_walk HP _ bt rt _ _ _ _ _ b.pid hTx hRx hAx.out.1 hAx.out.2.2 (by omega) hwf).mono ?_
            rintro e wy ⟨rfl, hmy⟩
            clear cbx lbx
            go_wp2_with fail
            exact ⟨fin.out wy _ _ _ _ _ (hTx.keep hmy (fun _ _ => id)) (hRx.keep hmy (fun _ _ => id)) hAx.out hlx hFx hF2x hdjx (hmwx.trans hmy (fun _ _ h => h)), by simp [intOf]; omega⟩
        · have hk0 : (kind == 0) = false := by simp [k0]
          clear happ h1 hT9 hR9 hmw9 hb9 cc9 lc9 k0
          clear cb9 lb9
          have cbx := cellOf hbx
          have lbx := ltOf hbx
          clear hbx
          go_wp2_with fail
          refine (sameT_walk HP _ bt rt _ _ _ _ _ b.pid hTx hRx hAx.out.1 hAx.out.2.2 (by omega) hwf).mono ?_
          rintro e wy ⟨rfl, hmy⟩
          clear cbx lbx
          go_wp2_with fail
          exact ⟨fin.out wy _ _ _ _ _ (hTx.keep hmy (fun _ _ => id)) (hRx.keep hmy (fun _ _ => id)) hAx.out hlx hFx hF2x hdjx (hmwx.trans hmy (fun _ _ h => h)), by simp [intOf]; omega⟩
    · obtain rfl : k = l.length := by omega
      go_wp2
      go_ret
      exact ⟨rfl, hm⟩
end Go.Proofs.Ytnnoicacpcahfaa
