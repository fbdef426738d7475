/- The law ProdAborts, walked. No condition. -/
import Derived.Test.YtnnoicacpcahfaaProdNew
namespace Go.Proofs.Ytnnoicacpcahfaa
open Go.RowKit

set_option maxRecDepth 100000 in
set_option maxHeartbeats 1600000 in
theorem apply_zero (w : World) (bt : Nat) (b : Bt) (hp : b.pid = 0) :
    Calls Try.prog 8 #[.pointer (some ⟨bt, 0, none⟩), .agg #[.int .i64 b.base, .int .i64 b.ep, .int .u64 b.pid, .int .i64 b.pe, .int .i64 b.sq, .bool b.txn, .bool b.ctl, .bool b.com, .slice b.va b.vn b.vc]] w
      fun e w' => e = .returned (.tuple #[]) ∧ Mods Nil w w' := by
  rw [hp]
  go_enter Try.func8, Try.ntmps8
  go_wp2
  ((try simp only [Exit.inBlock, Exit.then]); refine bodyPost_ret (results_none rfl _ _ _) rfl ?_)
  exact ⟨rfl, Mods.refl.alloc _⟩

theorem Sl.cap {w : World} {e size n n' lc : Nat} {la : Option Addr} {xs : List Value} (h : Sl w e size (.slice la n lc) n' xs) : n ≤ lc := by
  rcases h.2 with ⟨h, _⟩ | ⟨g, off, cap, cur, h, _, h2, _⟩
  · simp at h; omega
  · simp at h; omega

theorem Sl.frz {w : World} {e size n : Nat} {v : Value} {xs : List Value} (h : Sl w e size v n xs) (g : Nat) (hg : v.ownBlock = some g) (o : Nat) : w.frozen? ⟨g, o, none⟩ = false := by
  rcases h.2 with ⟨rfl, _⟩ | ⟨g', off, cap, cur, rfl, hb, _⟩
  · simp [Value.ownBlock] at hg
  · simp [Value.ownBlock] at hg
    subst hg
    exact frzOf hb o
theorem NewSl.poke {B : Nat} {w : World} {e size n lc : Nat} {la : Option Addr} {xs : List Value} (h : NewSl B w e size la n lc xs) {g off : Nat} (hla : la = some ⟨g, off, none⟩) (i : Nat) (v : Value) :
    ∃ xs', NewSl B (w.setCell ⟨g, i, none⟩ v) e size la n lc xs' := by
  obtain ⟨⟨hl, h2⟩, hB⟩ := h
  rcases h2 with ⟨h, _⟩ | ⟨g', off', cap, cur, h, hg, hc, hm, hs, hx⟩
  · rw [hla] at h; simp at h
  · rw [hla] at h
    simp at h
    obtain ⟨⟨rfl, rfl⟩, rfl⟩ := h
    have hg2 := heap_setCell_same hg i v
    have hnc : n * size ≤ lc * size := Nat.mul_le_mul_right _ hc
    refine ⟨((cur.setIfInBounds i v).toList.drop off).take (n * size), ⟨by simp; omega, .inr ⟨g, off, lc, _, by rw [hla], hg2, hc, hm, by simpa using hs, fun j hj => ?_⟩⟩, hB⟩
    rw [List.getElem?_take_of_lt hj, List.getElem?_drop, ← Array.getElem?_toList]

/-- What the law's walk asks of a batch that came in. -/
def Bt.okIn (w : World) (b : Bt) : Prop :=
  (∃ vals G, ValsRd w b.va b.vn b.vc vals G ∧ ∀ x ∈ vals, x.length ≤ 140737488355328) ∧ b.vn * 24 ≤ 140737488355328 ∧ (Lit.int .u64 b.pid).wf = true ∧ 0 ≤ b.pid

set_option maxRecDepth 100000 in
set_option maxHeartbeats 3200000 in
theorem prodAborts_walk (w : World) (la : Option Addr) (lc : Nat) (l : List Bt) (lo hi : Int) (hrd : Rd w 9 (.slice la l.length lc) l.length (l.flatMap Bt.cells)) (hin : ∀ b ∈ l, b.okIn w) (hn : l.length * 72 ≤ 140737488355328) :
    Calls Try.prog 3 #[.slice la l.length lc, .int .i64 lo, .int .i64 hi] w
      fun e w' => e = .returned (.bool true) ∧ Mods Nil w w' := by
  go_enter Try.func3, Try.ntmps3
  go_wp2_with fail
  refine (prodNew_walk _).mono ?_
  rintro e w1 ⟨bt, d, addr, F, rfl, hT, hF, hm1⟩
  go_wp2_with fail
  have hno := hT.2.1
  have hr2 := heap_new w1 (.cells #[.slice none 0 0] 27)
  have hm2 : Mods Nil w1 (w1.alloc (.cells #[.slice none 0 0] 27)) := Mods.refl.alloc _
  generalize hrt : w1.heap.size = rt at *
  generalize w1.alloc (.cells #[.slice none 0 0] 27) = w2 at *
  refine (awake_walk _).mono ?_
  rintro e w3 ⟨rfl, hm3⟩
  have hm23 := hm2.trans hm3 (fun _ _ h => h)
  have hT3 := hT.keep hm23 (fun _ _ => id)
  have hR3 : RefT w3 rt [] (fun k => k = rt) := ⟨rfl, fun k hk => by have := ltOf (hm3.keep hr2 id); omega, none, 0, hm3.keep hr2 id, Sl.nil _ _ _, by simp⟩
  have hmw3 : Mods Nil w w3 := hm1.trans hm23 (fun _ _ h => h)
  have hw1 := hm1.size
  have hdj : ∀ j, F j → j ≠ rt := fun j hj e => by have := hno _ hj; omega
  have hwr : w.heap.size ≤ rt := by omega
  clear hT hr2 hm1 hm2 hm3 hm23 hno
  go_wp2_with fail
  go_loopw [25] (fun s25 wr => ∃ (k : Nat) (T : Tab) (addr : Int → Nat) (F F2 : Nat → Prop) (l' : List Bt), k ≤ l.length ∧ s25 = .int .i64 k ∧ TabRep wr bt T addr F ∧ RefT wr rt l' F2 ∧ Hid (Agree T l') ∧ l'.length ≤ k ∧ (∀ j, F j → w.heap.size ≤ j) ∧ (∀ j, F2 j → w.heap.size ≤ j) ∧ (∀ j, F j → ¬ F2 j) ∧ Mods Nil w wr) (fun s25 _ => l.length - (intOf s25).toNat)
  case atStart => exact ⟨0, _, addr, F, (fun k => k = rt), [], by omega, rfl, hT3, hR3, Agree.nil d, by simp, hF, fun j hj => by omega, hdj, hmw3⟩
  case round =>
    clear hT3 hR3 hF hdj hmw3
    obtain ⟨k, T, addr, F, F2, l', hk, rfl, hT, hR, hA, hl', hF, hF2, hdj, hm⟩ := hrel
    by_cases hlt : k < l.length
    · obtain ⟨g, off, rfl, hg, hcells⟩ := (hrd.keep hm (fun _ _ => id)).form (by omega) (by omega)
      obtain ⟨b, hbk⟩ : ∃ b, l[k]? = some b := ⟨_, List.getElem?_eq_getElem hlt⟩
      obtain ⟨c0, c1, c2, c3, c4, c5, c6, c7, c8⟩ := btCells hcells rfl hbk
      obtain ⟨⟨vals, G, hv, hx⟩, hvn, hwf, hp0⟩ := hin b (List.mem_of_getElem? hbk)
      replace hbk := Lib.hid hbk
      clear hcells
      have hsz := hm.size
      go_wp2_with fail
      generalize hX : Obj.cells #[Value.int .i64 b.base, .int .i64 b.ep, .int .u64 b.pid, .int .i64 b.pe, .int .i64 b.sq, .bool b.txn, .bool b.ctl, .bool b.com, .slice b.va b.vn b.vc] 32 = X
      have hb4 := heap_new wr X
      have hm4 : Mods Nil wr (wr.alloc X) := Mods.refl.alloc _
      subst hX
      generalize wr.alloc (.cells #[Value.int .i64 b.base, .int .i64 b.ep, .int .u64 b.pid, .int .i64 b.pe, .int .i64 b.sq, .bool b.txn, .bool b.ctl, .bool b.com, .slice b.va b.vn b.vc] 32) = w4 at *
      refine (copy_walk _ b vals G (hv.keep (hm.trans hm4 (fun _ _ h => h)) (fun _ _ => id)) hvn hx).mono ?_
      rintro e w5 ⟨va', vc', rfl, hm5, _⟩
      have hm45 := hm4.trans hm5 (fun _ _ h => h)
      have hb5 := hm5.keep hb4 id
      clear hm4 hm5 hb4
      go_wp2_with fail
      generalize hrs : wr.heap.size = rs at *
      have hT5 := hT.keep hm45 (fun _ _ => id)
      have hR5 := hR.keep hm45 (fun _ _ => id)
      have hrF : ¬ F rs := fun h => by have := hT.2.1 _ h; omega
      have hrF2 : ¬ F2 rs := fun h => by have := hR.2.1 _ h; omega
      clear hT hR
      have hAw := hA.out.wf
      by_cases h0 : b.pid = 0
      · replace h0 := Lib.hid h0
        refine (apply_zero _ bt ⟨b.base, b.ep, b.pid, b.pe, b.sq, b.txn, b.ctl, b.com, va', b.vn, vc'⟩ h0.out).mono ?_
        rintro e w6 ⟨rfl, hm6⟩
        have hb6 := hm6.keep hb5 id
        have cb6 := cellOf hb6
        have lb6 := ltOf hb6
        go_wp2_with fail
        refine (refApply_zero _ rt b h0.out).mono ?_
        rintro e w7 ⟨rfl, hm7⟩
        have hm67 := hm6.trans hm7 (fun _ _ h => h)
        clear hb6 cb6 lb6
        go_wp2_with fail
        exact ⟨⟨k + 1, T, addr, F, F2, l', by omega, by go_num, hT5.keep hm67 (fun _ _ => id), hR5.keep hm67 (fun _ _ => id), hA, by omega, hF, hF2, hdj, (hm.trans hm45 (fun _ _ h => h)).trans hm67 (fun _ _ h => h)⟩, by simp [intOf]; omega⟩
      · refine (apply_walk _ bt T addr F ⟨b.base, b.ep, b.pid, b.pe, b.sq, b.txn, b.ctl, b.com, va', b.vn, vc'⟩ hT5 (by omega) hA.out.2.1 hwf (by simpa using h0)).mono ?_
        rintro e w6 ⟨rfl, addr6, F6, hT6, hm6, hF6⟩
        have hb6 := hm6.keep hb5 hrF
        have cb6 := cellOf hb6
        have lb6 := ltOf hb6
        have hR6 := hR5.keep hm6 (fun j hj hf => hdj j hf hj)
        have hR5l := hR5.2.1
        clear hb5
        go_wp2_with fail
        refine (refApply_walk _ rt l' F2 b hR6 (by omega) (by omega)).mono ?_
        rintro e w7 ⟨rfl, F7, hR7, hm7, hF7⟩
        have hT7 := hT6.keep hm7 (fun j hj h2 => (hF6 j hj).elim (fun h => hdj j h h2) (fun h => by have := hR5l j h2; omega))
        have hA7 : Hid (Agree (T.apply b) (l' ++ [b])) := hA.out.step b h0
        clear hb6 cb6 lb6 hR5 hT5
        go_wp2_with fail
        have hmw5 : Mods Nil w w5 := hm.trans hm45 (fun _ _ h => h)
        have hsz5 := hmw5.size
        have hsz6 := hm6.size
        refine ⟨⟨k + 1, T.apply b, addr6, F6, F7, l' ++ [b], by omega, by go_num, hT7, hR7, hA7, by simp; omega, ?_, ?_, ?_, ?_⟩, by simp [intOf]; omega⟩
        · exact fun j hj => (hF6 j hj).elim (hF j) (fun h => by omega)
        · exact fun j hj => (hF7 j hj).elim (hF2 j) (fun h => by omega)
        · intro j hj h7
          rcases hF7 j h7 with h2 | h2
          · rcases hF6 j hj with h | h
            · exact hdj j h h2
            · have := hR5l j h2; omega
          · have := hT6.2.1 j hj; omega
        · exact (((hmw5.mono (S' := fun j => w.heap.size ≤ j) (fun _ h => h.elim)).trans hm6 (fun j _ hj => hF j hj)).trans hm7 (fun j _ hj => hF2 j hj)).fresh
    · obtain rfl : k = l.length := by omega
      go_wp2_with fail
      obtain ⟨mb, aa, ac, hb, hsl, _⟩ := hT.cells
      obtain ⟨_, _, ra, rc, hrb, hrsl, _⟩ := hR
      obtain ⟨L, hL⟩ : ∃ L, L = (abAll l').filter (within lo hi) := ⟨_, rfl⟩
      have hA1 := hA.out.1
      have hAl : (abAll l').length ≤ l'.length := abUpTo_len l' l'.length
      have hLn : L.length ≤ l'.length := by
        rw [hL]
        exact Nat.le_trans (List.length_filter_le (within lo hi) (abAll l')) hAl
      rw [hA1] at hb hsl
      have hcap := hrsl.cap
      clear hA hA1 hT
      have hrdA := hsl.rd
      have hrdR := hrsl.rd
      clear hsl hrsl
      replace hL := Lib.hid hL
      obtain ⟨wl, hwl⟩ : ∃ wl, wl = wr := ⟨_, rfl⟩
      rw [← hwl] at hb hrb hrdA hrdR hm ⊢
      clear hwl
      go_loopw [11] (fun s11 wq => ∃ m : Nat, m ≤ 2 ∧ s11 = .int .i64 m ∧ Mods Nil wl wq) (fun s11 _ => 2 - (intOf s11).toNat)
      case atStart => exact ⟨0, by omega, rfl, Mods.refl⟩
      case round =>
        obtain ⟨m, hm2, rfl, hmq⟩ := hrel
        by_cases hlt2 : m < 2
        · go_wp2_with fail
          refine (aborts_walk _ bt _ aa ac (abAll l') lo hi (hmq.keep hb id) (hrdA.keep hmq (fun _ _ => id)) (by omega)).mono ?_
          rintro e w4 ⟨a4, c4, rfl, hn4, hm4⟩
          rw [← hL.out] at hn4 ⊢
          have hmq4 := hmq.trans hm4 (fun _ _ h => h)
          go_wp2_with fail
          refine (refAborts_walk _ rt ra rc l' lo hi (hmq4.keep hrb id) (hrdR.keep hmq4 (fun _ _ => id)) hcap (by omega)).mono ?_
          rintro e w5 ⟨a5, c5, rfl, hn5, hm5⟩
          rw [← hL.out] at hn5 ⊢
          have hmq5 := hmq4.trans hm5 (fun _ _ h => h)
          have hn45 := hn4.keep hm5 (fun _ _ => id)
          go_wp2_with fail
          refine (sameAborts_walk _ a4 a5 c4 c5 L (by omega) hn45.1.rd hn5.1.rd).mono ?_
          rintro e w6 ⟨rfl, hm6⟩
          have hmq6 := hmq5.trans hm6 (fun _ _ h => h)
          have hn46 := hn45.keep hm6 (fun _ _ => id)
          clear hn4 hn5 hn45 hm4 hm5 hm6
          go_wp2_with fail
          obtain ⟨wi, hwi⟩ : ∃ wi, wi = w6 := ⟨_, rfl⟩
          rw [← hwi] at hmq6 hn46 ⊢
          clear hwi
          obtain ⟨Bq, hBq⟩ : ∃ x, x = wr.heap.size := ⟨_, rfl⟩
          rw [← hBq] at hn46
          have hB4 : wl.heap.size ≤ Bq := by have h2 := hmq.size; omega
          clear hBq
          go_loopw [54] (fun s54 wj => ∃ j : Nat, j ≤ L.length ∧ s54 = .int .i64 j ∧ Mods (fun x => Bq ≤ x) wi wj ∧ ∃ xs, NewSl Bq wj 39 3 a4 L.length c4 xs) (fun s54 _ => L.length - (intOf s54).toNat)
          case atStart => exact ⟨0, by omega, rfl, Mods.refl, _, hn46⟩
          case round =>
            obtain ⟨j, hj, rfl, hmj, xs, hnj⟩ := hrel
            by_cases hlt3 : j < L.length
            · obtain ⟨g, off, rfl, hg, hcells⟩ := hnj.1.rd.form (by omega) (by omega)
              have hxs := hnj.1.1
              have hBg : Bq ≤ g := hnj.2 _ rfl
              obtain ⟨x, hx⟩ : ∃ x, xs[j * 3]? = some x := ⟨_, List.getElem?_eq_getElem (by omega)⟩
              have hc := hcells (j * 3) (by omega)
              rw [hx] at hc
              clear hcells
              have hfr := hnj.1.frz g (by rfl)
              have i0 : (0 : Int) ≤ (j : Int) := by omega
              have i1 : (j : Int) < (L.length : Int) := by omega
              go_wp2_with fail
              have hmc : Mods (fun x => Bq ≤ x) wr (wr.setCell ⟨g, off + j * 3, none⟩ (.int .u64 5)) := Mods.refl.setCell _ (fun _ => hBg)
              exact ⟨⟨j + 1, by omega, by go_num, hmj.trans hmc (fun _ _ h => h), hnj.poke rfl _ _⟩, by simp [intOf]; omega⟩
            · obtain rfl : j = L.length := by omega
              go_wp2
              exact ⟨⟨m + 1, by omega, by go_num, ((hmq6.mono (S' := fun x => wl.heap.size ≤ x) (fun _ h => h.elim)).trans hmj (fun x _ hx => Nat.le_trans hB4 hx)).fresh⟩, by simp [intOf]; omega⟩
        · obtain rfl : m = 2 := by omega
          go_wp2
          go_ret
          exact ⟨rfl, hm.trans hmq (fun _ _ h => h)⟩
end Go.Proofs.Ytnnoicacpcahfaa
