/- The law's 'same' of ProdPlays, walked, from Pids' contract. No condition but this contract, which is named. -/
import Derived.Test.YtnnoicacpcahfaaRefUnst
namespace Go.Proofs.Ytnnoicacpcahfaa
open Go.RowKit

def sortI (l : List Int) : List Int := l.mergeSort fun x y => decide (x ≤ y)
/-- What Pids does. -/
def PidsOk : Prop := ∀ (w : World) (bt : Nat) (T : Tab) (addr : Int → Nat) (F : Nat → Prop), TabRep w bt T addr F → T.keys.length * 8 ≤ 140737488355328 →
  Calls Try.prog 35 #[.pointer (some ⟨bt, 0, none⟩)] w
    fun e w' => ∃ la' lc', e = .returned (.slice la' T.keys.length lc') ∧ NewSl w.heap.size w' 29 1 la' T.keys.length lc' (u64s (sortI T.keys)) ∧ Mods Nil w w'

theorem sorted_unique : ∀ {a b : List Int}, a.Perm b → a.Pairwise (· ≤ ·) → b.Pairwise (· ≤ ·) → a = b
  | [], b, h, _, _ => by rw [h.symm.eq_nil]
  | x :: a, [], h, _, _ => by have := h.eq_nil; cases this
  | x :: a, y :: b, h, ha, hb => by
    obtain ⟨a1, a2⟩ := List.pairwise_cons.1 ha
    obtain ⟨b1, b2⟩ := List.pairwise_cons.1 hb
    have hxy : x = y := by
      have h1 : x ∈ y :: b := h.subset (List.mem_cons_self ..)
      have h2 : y ∈ x :: a := h.symm.subset (List.mem_cons_self ..)
      rcases List.mem_cons.1 h1 with e | e
      · exact e
      · rcases List.mem_cons.1 h2 with e2 | e2
        · exact e2.symm
        · have := a1 y e2; have := b1 x e; omega
    subst hxy
    rw [sorted_unique ((List.perm_cons x).1 h) a2 b2]

theorem sortI_perm (l : List Int) : (sortI l).Perm l := List.mergeSort_perm _ _
theorem sortI_sorted (l : List Int) : (sortI l).Pairwise (· ≤ ·) :=
  (List.pairwise_mergeSort (le := fun x y : Int => decide (x ≤ y)) (fun a b c h1 h2 => by simp at *; omega) (fun a b => by simp; omega) l).imp (fun h => by simpa using h)
theorem Agree.sort {T : Tab} {l : List Bt} (h : Agree T l) (hz : ∀ b ∈ l, b.pid ≠ 0) (hnd : T.keys.Nodup) : sortI T.keys = refPids l :=
  sorted_unique ((sortI_perm _).trans (h.pids hz hnd)) (sortI_sorted _) ((refPids_all l).1.imp (fun h => by omega))

set_option maxRecDepth 100000 in
set_option maxHeartbeats 3200000 in
theorem sameT_walk (HP : PidsOk) (w : World) (bt rt : Nat) (T : Tab) (addr : Int → Nat) (F F2 : Nat → Prop) (l : List Bt) (pid : Int) (hT : TabRep w bt T addr F) (hR : RefT w rt l F2) (hA : Agree T l) (hz : ∀ b ∈ l, b.pid ≠ 0)
    (hlen : l.length * 72 ≤ 140737488355328) (hwf : (Lit.int .u64 pid).wf = true) :
    Calls Try.prog 17 #[.pointer (some ⟨bt, 0, none⟩), .pointer (some ⟨rt, 0, none⟩), .int .u64 pid] w
      fun e w' => e = .returned (.bool true) ∧ Mods Nil w w' := by
  have e1 := known_agree hA pid
  have e2 := unstable_agree hA hz hT.2.2.1
  have e3 := hA.sort hz hT.2.2.1
  have e4 : T.keys.length = (refPids l).length := by rw [← e3]; exact (sortI_perm _).length_eq.symm
  have hal := (refPids_all l).2.2
  obtain ⟨_, _, ra, rc, hrb, hrsl, _⟩ := hR
  have hrd := hrsl.rd
  clear hrsl hA
  go_enter Try.func17, Try.ntmps17
  go_wp2_with fail
  refine (prodKnown_walk _ bt T addr F pid hT hwf).mono ?_
  rintro e w1 ⟨rfl, hm1⟩
  rw [e1]
  obtain ⟨v0, v1, v2, v3, hout⟩ : ∃ a b c d, (known l pid).out = .tuple #[.int .i64 a, .int .i64 b, .int .i64 c, .bool d] := by
    unfold KSt.out; split <;> exact ⟨_, _, _, _, rfl⟩
  replace hout := Lib.hid hout
  rw [hout.out]
  clear e1
  go_wp2_with fail
  refine (refKnown_walk _ rt ra rc l pid (hm1.keep hrb id) (rdKeep hrd hm1 (fun _ _ => id)) (by omega)).mono ?_
  rintro e w2 ⟨rfl, hm2⟩
  rw [hout.out]
  have hm02 := hm1.trans hm2 (fun _ _ h => h)
  clear hm1 hm2 hout
  go_wp2_with fail
  refine (prodUnst_walk _ bt T addr F (hT.keep hm02 (fun _ _ => id))).mono ?_
  rintro e w3 ⟨rfl, hm3⟩
  rw [e2]
  clear e2
  have hm03 := hm02.trans hm3 (fun _ _ h => h)
  clear hm02 hm3
  obtain ⟨u, hu⟩ : ∃ u, u = refUnstable l := ⟨_, rfl⟩
  rw [← hu]
  replace hu := Lib.hid hu
  rw [show uOut u = .tuple #[.int .i64 u.1, .bool u.2] from rfl]
  go_wp2_with fail
  refine (refUnst_walk _ rt ra rc l hz (hm03.keep hrb id) (rdKeep hrd hm03 (fun _ _ => id)) hlen).mono ?_
  rintro e w4 ⟨rfl, hm4⟩
  rw [← hu.out, show uOut u = .tuple #[.int .i64 u.1, .bool u.2] from rfl]
  clear hu
  obtain ⟨u1, u2⟩ := u
  dsimp only
  have hm04 := hm03.trans hm4 (fun _ _ h => h)
  clear hm03 hm4
  have hl8 : T.keys.length * 8 ≤ 140737488355328 := by omega
  replace e3 := Lib.hid e3
  replace e4 := Lib.hid e4
  go_wp2_with fail
  refine (HP _ bt T addr F (hT.keep hm04 (fun _ _ => id)) hl8).mono ?_
  rintro e w5 ⟨pa, pc, rfl, hn5, hm5⟩
  rw [e3.out, e4.out] at hn5
  rw [e4.out]
  have hm05 := hm04.trans hm5 (fun _ _ h => h)
  clear hm5 e3 e4 hl8 hm04
  go_wp2_with fail
  refine (refPids_walk _ rt ra rc l (hm05.keep hrb id) (rdKeep hrd hm05 (fun _ _ => id)) hlen).mono ?_
  rintro e w6 ⟨qa, qc, rfl, hn6, hm6⟩
  have hm06 := hm05.trans hm6 (fun _ _ h => h)
  have r5 := (hn5.keep hm6 (fun _ _ => id)).1.rd
  have r6 := hn6.1.rd
  clear hm6 hn5 hn6 hm05 hrd hrb hT
  generalize refPids l = xs at *
  clear hz
  go_wp2_with fail
  go_loopw [21] (fun s21 wr => ∃ k : Nat, k ≤ xs.length ∧ s21 = .int .i64 k ∧ Mods Nil w6 wr) (fun s21 _ => xs.length - (intOf s21).toNat)
  case atStart => exact ⟨0, by omega, rfl, Mods.refl⟩
  case round =>
    obtain ⟨k, hk, rfl, hm⟩ := hrel
    by_cases hlt : k < xs.length
    · obtain ⟨g, off, rfl, hg, hcells⟩ := (rdKeep r5 hm (fun _ _ => id)).form (by omega) (by omega)
      obtain ⟨g2, off2, rfl, hg2, hcells2⟩ := (rdKeep r6 hm (fun _ _ => id)).form (by omega) (by omega)
      obtain ⟨x, hx⟩ : ∃ x, xs[k]? = some x := ⟨_, List.getElem?_eq_getElem hlt⟩
      have cx : wr.cell? ⟨g, off + k, none⟩ = some (.int .u64 x) := by
        rw [hcells k (by omega), u64s, List.getElem?_map, hx]; rfl
      have cy : wr.cell? ⟨g2, off2 + k, none⟩ = some (.int .u64 x) := by
        rw [hcells2 k (by omega), u64s, List.getElem?_map, hx]; rfl
      clear hcells hcells2 hx
      have i0 : (0 : Int) ≤ (k : Int) := by omega
      have i1 : (k : Int) < (xs.length : Int) := by omega
      go_upto_region 13 with fail
      refine wp_region_plan [(.pure, 0), (.pure, 1), (.pure, 2), (.read, 3), (.pure, 4), (.pure, 5), (.pure, 6), (.read, 7), (.pure, 8)] 9 (fun W => Mods Nil (wr) W) mixed (by kernel_rfl) (by kernel_rfl) (by repeat (first | exact Mods.refl | apply Mods.drew)) ?_
      repeat first
         | (refine reg_pure (v := ?_) rfl rfl ?_ ?_; rotate_left 1; (· (intro W; go_simp <;> with_reducible rfl)); simp only [Act.put, List.setIfInBounds_toArray, List.set_cons_zero, List.set_cons_succ])
         | (refine reg_read (v := ?_) rfl rfl ?_ ?_; rotate_left 1; (· (intro W hW; have hW' := Mods.cells hW; go_simp <;> with_reducible rfl)); simp only [Act.put, List.setIfInBounds_toArray, List.set_cons_zero, List.set_cons_succ])
         | (refine reg_off (by rfl) (by rfl) ?_; simp only [Act.put, List.setIfInBounds_toArray, List.set_cons_zero, List.set_cons_succ])
         | (refine reg_pure_on (v := ?_) rfl (by rfl) ?_ ?_; rotate_left 1; (· (intro W; go_simp <;> with_reducible rfl)); simp only [Act.put, List.setIfInBounds_toArray, List.set_cons_zero, List.set_cons_succ])
         | (refine reg_read_on (v := ?_) rfl (by rfl) ?_ ?_; rotate_left 1; (· (intro W hW; have hW' := Mods.cells hW; go_simp <;> with_reducible rfl)); simp only [Act.put, List.setIfInBounds_toArray, List.set_cons_zero, List.set_cons_succ])
      refine reg_done (qnp_normal ?_)
      clear cx cy hg hg2
      go_wp2
      exact ⟨⟨k + 1, by omega, by go_num, hm.drew⟩, by simp [intOf]; omega⟩
    · obtain rfl : k = xs.length := by omega
      go_wp2
      go_ret
      exact ⟨rfl, hm06.trans hm (fun _ _ h => h)⟩
end Go.Proofs.Ytnnoicacpcahfaa
