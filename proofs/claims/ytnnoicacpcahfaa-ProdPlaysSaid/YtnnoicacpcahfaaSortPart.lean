/- slices.partialInsertionSortOrdered on uint64, walked. No condition. -/
import Derived.Test.YtnnoicacpcahfaaSortHeap
import Derived.Lib.Hide
import Derived.Deep.DeepCutAuto
namespace Go.Proofs.Ytnnoicacpcahfaa
open Go.RowKit Go.Sort

def piBack (a i : Nat) (f : Array Int) : Array Int := if 2 ≤ i - a then shiftDown lz (i - 1) (Sort.swp f i (i - 1)) else Sort.swp f i (i - 1)
def piNext (a b i : Nat) (f : Array Int) : Array Int := if 2 ≤ b - i then shiftUp lz b (i + 1) (piBack a i f) else piBack a i f
theorem pi_succ (a b s i : Nat) (f : Array Int) : partialIns lz a b (s + 1) i f =
    if scanSorted lz f b i = b then (f, true) else if b - a < 50 then (f, false) else partialIns lz a b s (scanSorted lz f b i) (piNext a b (scanSorted lz f b i) f) := by
  rw [partialIns]; rfl
theorem scan_unfold (f : Array Int) (b i : Nat) : scanSorted lz f b i = if i < b ∧ f[i - 1]! ≤ f[i]! then scanSorted lz f b (i + 1) else i := by
  rw [scanSorted]
  by_cases h : i < b ∧ f[i - 1]! ≤ f[i]!
  · rw [if_pos h, if_pos (by simp [lz, ltInt, h.1, h.2])]
  · rw [if_neg h, if_neg (by simp only [lz, ltInt, Bool.and_eq_true, decide_eq_true_eq, Bool.not_eq_true', decide_eq_false_iff_not]; intro h2; exact h ⟨h2.1, by omega⟩)]
theorem down_unfold (f : Array Int) (j : Nat) : shiftDown lz (j + 1) f = if f[j + 1]! < f[j]! then shiftDown lz j (Sort.swp f (j + 1) j) else f := by
  rw [shiftDown]
  by_cases h : f[j + 1]! < f[j]!
  · rw [if_pos h, if_neg (by simp [lz, ltInt, h])]
  · rw [if_neg h, if_pos (by simp [lz, ltInt]; omega)]
theorem up_unfold (f : Array Int) (b j : Nat) : shiftUp lz b j f = if j < b then (if f[j]! < f[j - 1]! then shiftUp lz b (j + 1) (Sort.swp f j (j - 1)) else f) else f := by
  rw [shiftUp]
  by_cases h1 : j < b
  · rw [if_pos h1, if_pos h1]
    by_cases h : f[j]! < f[j - 1]!
    · rw [if_pos h, if_neg (by simp [lz, ltInt, h])]
    · rw [if_neg h, if_pos (by simp [lz, ltInt]; omega)]
  · rw [if_neg h1, if_neg h1]


set_option maxRecDepth 100000 in
set_option maxHeartbeats 6400000 in
theorem partial_walk (w : World) (g off sz cap a b n : Nat) (d : Array Int) (hA : Arr g off sz d w) (hn : d.size = n) (hab : a < b) (hb : b ≤ n) (hsz : n < 4611686018427387904) :
    Calls Try.prog 110 #[.slice (some ⟨g, off, none⟩) n cap, .int .i64 a, .int .i64 b] w
      fun e w' => e = .returned (.bool (partialInsertionSort lz d a b).2) ∧ Arr g off sz (partialInsertionSort lz d a b).1 w' ∧ Mods (fun k => k = g) w w' := by
  replace hn := Lib.hid hn
  obtain ⟨R, hR⟩ : ∃ R, R = partialInsertionSort lz d a b := ⟨_, rfl⟩
  rw [← hR]
  unfold partialInsertionSort at hR
  replace hR := Lib.hid hR
  go_enter Try.func110, Try.ntmps110
  go_wp2_with fail
  go_loopw [7, 8] (fun s7 s8 wr => ∃ (i s : Nat) (f : Array Int), a + 1 ≤ i ∧ i ≤ b ∧ s ≤ 5 ∧ s7 = .int .i64 i ∧ s8 = .int .i64 s ∧ Arr g off sz f wr ∧ Hid (R = partialIns lz a b (5 - s) i f) ∧ f.size = n ∧ Mods (fun k => k = g) w wr) (fun _ s8 _ => 5 - (intOf s8).toNat)
  case atStart => exact ⟨a + 1, 0, d, by omega, by omega, by omega, by go_num, rfl, hA, hR.out, hn.out, Mods.refl⟩
  case round =>
    clear hR
    obtain ⟨i, s, f, hi0, hi1, hs5, rfl, rfl, hAf, hR, hszf0, hm⟩ := hrel
    have hszf := Lib.hid hszf0
    clear hszf0
    by_cases hlt : s < 5
    · have hR2 : R = partialIns lz a b (4 - s + 1) i f := by rw [hR.out, show 5 - s = 4 - s + 1 by omega]
      rw [pi_succ] at hR2
      replace hR2 := Lib.hid hR2
      clear hR
      have hs5b : decide ((s : Int) < 5) = true := by simp; omega
      go_wp2_with fail
      clear hs5b
      obtain ⟨wo, hwo⟩ : ∃ wo, wo = wr := ⟨_, rfl⟩
      rw [← hwo] at hAf hm ⊢
      clear hwo
      go_loopw [7] (fun s7 wr => ∃ j : Nat, i ≤ j ∧ j ≤ b ∧ s7 = .int .i64 j ∧ Hid (scanSorted lz f b i = scanSorted lz f b j) ∧ Mods Nil wo wr) (fun s7 _ => b - (intOf s7).toNat)
      case atStart => exact ⟨i, Nat.le_refl _, hi1, rfl, rfl, Mods.refl⟩
      case round =>
        obtain ⟨j, hj0, hj1, rfl, hsc, hmj⟩ := hrel
        replace hAf := hAf.keep hmj id
        have hmw := hm.trans hmj (fun _ _ h => h.elim)
        clear hm
        by_cases hjb : j < b
        · -- the elements f[j] = x and, one ahead of it, f[q] = y
          obtain ⟨q, hqj⟩ : ∃ q, q = j - 1 := ⟨_, rfl⟩
          have hin : j < f.size := by rw [hszf.out]; omega
          have hjn : q < f.size := by rw [hszf.out]; omega
          have ci := hAf.cell j hin
          have cj := hAf.cell q hjn
          have lg := hAf.lt
          obtain ⟨x, hx⟩ : ∃ x, x = f[j]! := ⟨_, rfl⟩
          obtain ⟨y, hy⟩ : ∃ y, y = f[q]! := ⟨_, rfl⟩
          rw [← hx] at ci
          rw [← hy] at cj
          have i1 : (1 : Int) ≤ (j : Int) := by omega
          have i2 : (j : Int) < (n : Int) := by omega
          have i3 : (0 : Int) ≤ (q : Int) := by omega
          have i4 : (q : Int) < (n : Int) := by omega
          have hwq : IntKind.i64.wrap ((j : Int) - 1) = (q : Int) := wrapN (by omega) (by omega)
          have hsc2 : Hid (scanSorted lz f b i = if x < y then j else scanSorted lz f b (j + 1)) := by
            show _ = _
            rw [hsc.out, scan_unfold, hx, hy, hqj]
            by_cases h : f[j]! < f[j - 1]!
            · rw [if_pos h, if_neg (fun h2 => by omega)]
            · rw [if_neg h, if_pos ⟨hjb, by omega⟩]
          clear hsc
          replace hx := Lib.hid hx
          replace hy := Lib.hid hy
          replace hqj := Lib.hid hqj
          obtain ⟨tb, htb⟩ : ∃ tb, tb = decide (x < y) := ⟨_, rfl⟩
          replace htb := Lib.hid htb
          go_upto_region 5 with fail
          refine wp_region_plan [(.pure, 0), (.pure, 1), (.pure, 2), (.pure, 3), (.pure, 4), (.pure, 5), (.pure, 6), (.read, 7), (.pure, 8), (.pure, 9), (.pure, 10), (.pure, 11), (.read, 12), (.ben, 13), (.pure, 14), (.pure, 15)] 16 (fun W => Mods Nil (wr) W) mixed (by kernel_rfl) (by kernel_rfl) (by repeat (first | exact Mods.refl | apply Mods.drew)) ?_
          repeat first
             | (refine reg_pure (v := ?_) rfl rfl ?_ ?_; rotate_left 1; (· (intro W; go_simp <;> with_reducible rfl)); simp only [Act.put, List.setIfInBounds_toArray, List.set_cons_zero, List.set_cons_succ])
             | (refine reg_read (v := ?_) rfl rfl ?_ ?_; rotate_left 1; (· (intro W hW; have hW' := Mods.cells hW; go_simp <;> with_reducible rfl)); simp only [Act.put, List.setIfInBounds_toArray, List.set_cons_zero, List.set_cons_succ])
             | (refine reg_off (by rfl) (by rfl) ?_; simp only [Act.put, List.setIfInBounds_toArray, List.set_cons_zero, List.set_cons_succ])
             | (refine reg_pure_on (v := ?_) rfl (by rfl) ?_ ?_; rotate_left 1; (· (intro W; go_simp <;> with_reducible rfl)); simp only [Act.put, List.setIfInBounds_toArray, List.set_cons_zero, List.set_cons_succ])
             | (refine reg_read_on (v := ?_) rfl (by rfl) ?_ ?_; rotate_left 1; (· (intro W hW; have hW' := Mods.cells hW; go_simp <;> with_reducible rfl)); simp only [Act.put, List.setIfInBounds_toArray, List.set_cons_zero, List.set_cons_succ])
          refine reg_ben_on (by rfl) (by rfl) (fun K hK => ?_)
          go_simp
          refine (less_walk _ _ _).mono ?_
          rintro ev wl ⟨rfl, rfl⟩
          rw [← htb.out]
          refine hK _ _ (by repeat (first | exact Mods.refl | apply Mods.drew)) ?_
          clear hK K
          try simp only [Act.put, List.setIfInBounds_toArray, List.set_cons_zero, List.set_cons_succ]
          repeat first
             | (refine reg_pure (v := ?_) rfl rfl ?_ ?_; rotate_left 1; (· (intro W; go_simp <;> with_reducible rfl)); simp only [Act.put, List.setIfInBounds_toArray, List.set_cons_zero, List.set_cons_succ])
             | (refine reg_read (v := ?_) rfl rfl ?_ ?_; rotate_left 1; (· (intro W hW; skip; go_simp <;> with_reducible rfl)); simp only [Act.put, List.setIfInBounds_toArray, List.set_cons_zero, List.set_cons_succ])
             | (refine reg_off (by rfl) (by rfl) ?_; simp only [Act.put, List.setIfInBounds_toArray, List.set_cons_zero, List.set_cons_succ])
             | (refine reg_pure_on (v := ?_) rfl (by rfl) ?_ ?_; rotate_left 1; (· (intro W; go_simp <;> with_reducible rfl)); simp only [Act.put, List.setIfInBounds_toArray, List.set_cons_zero, List.set_cons_succ])
             | (refine reg_read_on (v := ?_) rfl (by rfl) ?_ ?_; rotate_left 1; (· (intro W hW; skip; go_simp <;> with_reducible rfl)); simp only [Act.put, List.setIfInBounds_toArray, List.set_cons_zero, List.set_cons_succ])
          refine reg_done (qnp_normal ?_)
          cases tb with
          | false =>
            have hxy : ¬ x < y := of_decide_eq_false htb.out.symm
            have hsc3 : Hid (scanSorted lz f b i = scanSorted lz f b (j + 1)) := by show _ = _; rw [hsc2.out, if_neg hxy]
            clear hsc2 hxy ci cj lg hwq
            go_wp2
            exact ⟨⟨j + 1, by omega, by omega, by go_num, hsc3.out, hmj.drew⟩, by simp [intOf]; omega⟩
          | true =>
            have hxy : x < y := of_decide_eq_true htb.out.symm
            have hsc3 : Hid (scanSorted lz f b i = j) := by show _ = _; rw [hsc2.out, if_pos hxy]
            clear hsc2 hxy
            have hR3 : R = if b - a < 50 then (f, false) else partialIns lz a b (4 - s) j (piNext a b j f) := by
              rw [hR2.out, hsc3.out, if_neg (by omega)]
            replace hR3 := Lib.hid hR3
            clear hR2 hsc3
            have hjb2 : ((j : Int) == (b : Int)) = false := by simp; omega
            go_upto_region 9 with fail
            clear hjb2
            by_cases h50 : b - a < 50
            · have e1 : R = (f, false) := by rw [hR3.out, if_pos h50]
              subst e1
              have h50z : (b : Int) - (a : Int) < 50 := by omega
              clear hR3 h50 ci cj lg hwq
              go_wp2
              go_ret
              exact ⟨rfl, hAf, hmw.drew⟩
            · have h50z : ¬ ((b : Int) - (a : Int) < 50) := by omega
              have hR4 : Hid (R = partialIns lz a b (4 - s) j (piNext a b j f)) := by show _ = _; rw [hR3.out, if_neg h50]
              have hba : 50 ≤ b - a := by omega
              clear hR3 h50
              -- from wr: an exchange of j and q (which hold x and y), in the region 11
              have hAs := hAf.swp j q hin hjn
              have hA1 := hAf.set j hin y
              rw [← hx.out, ← hy.out] at hAs
              have hms : Mods (fun k => k = g) wr ((wr.setCell ⟨g, off + j, none⟩ (.int .u64 y)).setCell ⟨g, off + q, none⟩ (.int .u64 x)) := (Arr.mods g _ wr _).trans (Arr.mods g _ _ _) (fun _ _ h => h)
              go_upto_region 11 with fail
              refine wp_region_plan [(.pure, 0), (.pure, 1), (.pure, 2), (.pure, 3), (.pure, 4), (.pure, 5), (.pure, 6), (.pure, 7), (.pure, 8), (.read, 9), (.pure, 10), (.pure, 11), (.pure, 12), (.read, 13), (.pure, 14), (.eff, 15), (.pure, 16), (.eff, 17)] 15 (fun W => Mods Nil (wr) W) mixed (by kernel_rfl) (by kernel_rfl) (by repeat (first | exact Mods.refl | apply Mods.drew)) ?_
              repeat first
                 | (refine reg_pure (v := ?_) rfl rfl ?_ ?_; rotate_left 1; (· (intro W; go_simp <;> with_reducible rfl)); simp only [Act.put, List.setIfInBounds_toArray, List.set_cons_zero, List.set_cons_succ])
                 | (refine reg_read (v := ?_) rfl rfl ?_ ?_; rotate_left 1; (· (intro W hW; have hW' := Mods.cells hW; go_simp <;> with_reducible rfl)); simp only [Act.put, List.setIfInBounds_toArray, List.set_cons_zero, List.set_cons_succ])
                 | (refine reg_off (by rfl) (by rfl) ?_; simp only [Act.put, List.setIfInBounds_toArray, List.set_cons_zero, List.set_cons_succ])
                 | (refine reg_pure_on (v := ?_) rfl (by rfl) ?_ ?_; rotate_left 1; (· (intro W; go_simp <;> with_reducible rfl)); simp only [Act.put, List.setIfInBounds_toArray, List.set_cons_zero, List.set_cons_succ])
                 | (refine reg_read_on (v := ?_) rfl (by rfl) ?_ ?_; rotate_left 1; (· (intro W hW; have hW' := Mods.cells hW; go_simp <;> with_reducible rfl)); simp only [Act.put, List.setIfInBounds_toArray, List.set_cons_zero, List.set_cons_succ])
              have fi := hAf.frz (off + j)
              refine reg_eff (by rfl) (by rfl) (fun K hK => ?_)
              go_simp
              refine hK _ _ ?_
              clear hK K
              try simp only [Act.put, List.setIfInBounds_toArray, List.set_cons_zero, List.set_cons_succ]
              repeat first
                 | (refine reg_pure (v := ?_) rfl rfl ?_ ?_; rotate_left 1; (· (intro W; go_simp <;> with_reducible rfl)); simp only [Act.put, List.setIfInBounds_toArray, List.set_cons_zero, List.set_cons_succ])
                 | (refine reg_read (v := ?_) rfl rfl ?_ ?_; rotate_left 1; (· (intro W hW; skip; go_simp <;> with_reducible rfl)); simp only [Act.put, List.setIfInBounds_toArray, List.set_cons_zero, List.set_cons_succ])
                 | (refine reg_off (by rfl) (by rfl) ?_; simp only [Act.put, List.setIfInBounds_toArray, List.set_cons_zero, List.set_cons_succ])
                 | (refine reg_pure_on (v := ?_) rfl (by rfl) ?_ ?_; rotate_left 1; (· (intro W; go_simp <;> with_reducible rfl)); simp only [Act.put, List.setIfInBounds_toArray, List.set_cons_zero, List.set_cons_succ])
                 | (refine reg_read_on (v := ?_) rfl (by rfl) ?_ ?_; rotate_left 1; (· (intro W hW; skip; go_simp <;> with_reducible rfl)); simp only [Act.put, List.setIfInBounds_toArray, List.set_cons_zero, List.set_cons_succ])
              have fj := hA1.frz (off + q)
              have cj2 := hA1.cell q (by simpa using hjn)
              have lg2 := hA1.lt
              refine reg_eff (by rfl) (by rfl) (fun K hK => ?_)
              go_simp
              refine hK _ _ (reg_done (qnp_normal ?_))
              clear hK K
              clear fi fj cj2 lg2 hA1
              clear h50z
              have hmz := (hmw.trans hms (fun _ _ h => h)).drew.drew
              have hAz : Arr g off sz (Sort.swp f j q) _ := Arr.drew (Arr.drew hAs)
              have hbk : Hid (piBack a j f = if 2 ≤ j - a then shiftDown lz q (Sort.swp f j q) else Sort.swp f j q) := by
                show _ = _
                rw [piBack, hqj.out]
              have hsw : Hid ((Sort.swp f j q).size = n) := by show _ = _; rw [swp_size]; exact hszf.out
              clear hAs hms hAf ci cj lg hwq hx hy htb hin hjn hmw hszf
              generalize ((wr.setCell ⟨g, off + j, none⟩ (.int .u64 y)).setCell ⟨g, off + q, none⟩ (.int .u64 x)).drew.drew = w2 at *
              obtain ⟨f1, hf1⟩ : ∃ f1, f1 = Sort.swp f j q := ⟨_, rfl⟩
              rw [← hf1] at hAz hbk hsw
              clear hf1
              go_upto_if 61 with fail
              go_cut [] (fun wc => ∃ f2, Arr g off sz f2 wc ∧ Hid (f2 = piBack a j f ∧ f2.size = n) ∧ Mods (fun k => k = g) w2 wc)
              case first =>
                by_cases h2 : 2 ≤ j - a
                · have h2z : decide ((2 : Int) ≤ (j : Int) - (a : Int)) = true := by simp; omega
                  have hbk2 : Hid (piBack a j f = shiftDown lz q f1) := by show _ = _; rw [hbk.out, if_pos h2]
                  have hql : q < n := by have := hqj.out; omega
                  have hqj9 := hqj
                  clear hqj
                  clear hbk hR4
                  go_wp2_with fail
                  rw [h2z]
                  clear h2z
                  go_loopw [9] (fun s9 wr => ∃ (m : Nat) (f2 : Array Int), m ≤ q ∧ s9 = .int .i64 m ∧ Arr g off sz f2 wr ∧ Hid (piBack a j f = shiftDown lz m f2) ∧ f2.size = n ∧ Mods (fun k => k = g) w2 wr) (fun s9 _ => (intOf s9).toNat)
                  case atStart => exact ⟨q, f1, Nat.le_refl _, by rw [show (j : Int) - 1 = (q : Int) by have := hqj9.out; omega], hAz, hbk2.out, hsw.out, Mods.refl⟩
                  case round =>
                    clear hbk2 hAz hsw
                    obtain ⟨m, f2, hmq, rfl, hAf, hbk, hszf0, hmr⟩ := hrel
                    have hszf := Lib.hid hszf0
                    clear hszf0
                    by_cases hm0 : m = 0
                    · subst hm0
                      have hfin : Hid (f2 = piBack a j f ∧ f2.size = n) := ⟨hbk.out.symm, hszf.out⟩
                      clear hbk
                      go_wp2
                      go_meet
                      exact ⟨f2, hAf, hfin, hmr⟩
                    · -- the elements f2[m] = x and, one ahead of it, f2[p] = y
                      obtain ⟨p, hqj⟩ : ∃ q, q = m - 1 := ⟨_, rfl⟩
                      have hin : m < f2.size := by rw [hszf.out]; omega
                      have hjn : p < f2.size := by rw [hszf.out]; omega
                      have ci := hAf.cell m hin
                      have cj := hAf.cell p hjn
                      have lg := hAf.lt
                      obtain ⟨x, hx⟩ : ∃ x, x = f2[m]! := ⟨_, rfl⟩
                      obtain ⟨y, hy⟩ : ∃ y, y = f2[p]! := ⟨_, rfl⟩
                      rw [← hx] at ci
                      rw [← hy] at cj
                      have i1 : (1 : Int) ≤ (m : Int) := by omega
                      have i2 : (m : Int) < (n : Int) := by omega
                      have i3 : (0 : Int) ≤ (p : Int) := by omega
                      have i4 : (p : Int) < (n : Int) := by omega
                      have hwq : IntKind.i64.wrap ((m : Int) - 1) = (p : Int) := wrapN (by omega) (by omega)
                      have hst : Hid (piBack a j f = if x < y then shiftDown lz p (Sort.swp f2 m p) else f2) := by
                        show _ = _
                        obtain rfl : m = p + 1 := by omega
                        rw [hbk.out, down_unfold, hx, hy]
                      clear hbk
                      replace hx := Lib.hid hx
                      replace hy := Lib.hid hy
                      have hpm : p + 1 = m := by omega
                      replace hpm := Lib.hid hpm
                      clear hqj
                      have hm1 : (1 : Int) ≤ (m : Int) := by omega
                      obtain ⟨tb, htb⟩ : ∃ tb, tb = decide (x < y) := ⟨_, rfl⟩
                      replace htb := Lib.hid htb
                      go_upto_region 16 with fail
                      refine wp_region_plan [(.pure, 0), (.pure, 1), (.pure, 2), (.read, 3), (.pure, 4), (.pure, 5), (.pure, 6), (.pure, 7), (.read, 8), (.ben, 9), (.pure, 10)] 11 (fun W => Mods Nil (wr) W) mixed (by kernel_rfl) (by kernel_rfl) (by repeat (first | exact Mods.refl | apply Mods.drew)) ?_
                      repeat first
                         | (refine reg_pure (v := ?_) rfl rfl ?_ ?_; rotate_left 1; (· (intro W; go_simp <;> with_reducible rfl)); simp only [Act.put, List.setIfInBounds_toArray, List.set_cons_zero, List.set_cons_succ])
                         | (refine reg_read (v := ?_) rfl rfl ?_ ?_; rotate_left 1; (· (intro W hW; have hW' := Mods.cells hW; go_simp <;> with_reducible rfl)); simp only [Act.put, List.setIfInBounds_toArray, List.set_cons_zero, List.set_cons_succ])
                         | (refine reg_off (by rfl) (by rfl) ?_; simp only [Act.put, List.setIfInBounds_toArray, List.set_cons_zero, List.set_cons_succ])
                         | (refine reg_pure_on (v := ?_) rfl (by rfl) ?_ ?_; rotate_left 1; (· (intro W; go_simp <;> with_reducible rfl)); simp only [Act.put, List.setIfInBounds_toArray, List.set_cons_zero, List.set_cons_succ])
                         | (refine reg_read_on (v := ?_) rfl (by rfl) ?_ ?_; rotate_left 1; (· (intro W hW; have hW' := Mods.cells hW; go_simp <;> with_reducible rfl)); simp only [Act.put, List.setIfInBounds_toArray, List.set_cons_zero, List.set_cons_succ])
                      refine reg_ben (by rfl) (by rfl) (fun K hK => ?_)
                      go_simp
                      refine (less_walk _ _ _).mono ?_
                      rintro ev wl ⟨rfl, rfl⟩
                      rw [← htb.out]
                      refine hK _ _ (by repeat (first | exact Mods.refl | apply Mods.drew)) ?_
                      clear hK K
                      try simp only [Act.put, List.setIfInBounds_toArray, List.set_cons_zero, List.set_cons_succ]
                      repeat first
                         | (refine reg_pure (v := ?_) rfl rfl ?_ ?_; rotate_left 1; (· (intro W; go_simp <;> with_reducible rfl)); simp only [Act.put, List.setIfInBounds_toArray, List.set_cons_zero, List.set_cons_succ])
                         | (refine reg_read (v := ?_) rfl rfl ?_ ?_; rotate_left 1; (· (intro W hW; skip; go_simp <;> with_reducible rfl)); simp only [Act.put, List.setIfInBounds_toArray, List.set_cons_zero, List.set_cons_succ])
                         | (refine reg_off (by rfl) (by rfl) ?_; simp only [Act.put, List.setIfInBounds_toArray, List.set_cons_zero, List.set_cons_succ])
                         | (refine reg_pure_on (v := ?_) rfl (by rfl) ?_ ?_; rotate_left 1; (· (intro W; go_simp <;> with_reducible rfl)); simp only [Act.put, List.setIfInBounds_toArray, List.set_cons_zero, List.set_cons_succ])
                         | (refine reg_read_on (v := ?_) rfl (by rfl) ?_ ?_; rotate_left 1; (· (intro W hW; skip; go_simp <;> with_reducible rfl)); simp only [Act.put, List.setIfInBounds_toArray, List.set_cons_zero, List.set_cons_succ])
                      refine reg_done (qnp_normal ?_)
                      cases tb with
                      | true =>
                        have hxy : x < y := of_decide_eq_true htb.out.symm
                        have hst2 : Hid (piBack a j f = shiftDown lz p (Sort.swp f2 m p)) := by show _ = _; rw [hst.out, if_pos hxy]
                        clear hst hxy
                        -- from wr: an exchange of m and p (which hold x and y), in the region 17
                        have hAs := hAf.swp m p hin hjn
                        have hA1 := hAf.set m hin y
                        rw [← hx.out, ← hy.out] at hAs
                        have hms : Mods (fun k => k = g) wr ((wr.setCell ⟨g, off + m, none⟩ (.int .u64 y)).setCell ⟨g, off + p, none⟩ (.int .u64 x)) := (Arr.mods g _ wr _).trans (Arr.mods g _ _ _) (fun _ _ h => h)
                        go_upto_region 17 with fail
                        refine wp_region_plan [(.pure, 0), (.pure, 1), (.pure, 2), (.pure, 3), (.pure, 4), (.pure, 5), (.pure, 6), (.pure, 7), (.pure, 8), (.read, 9), (.pure, 10), (.pure, 11), (.pure, 12), (.read, 13), (.pure, 14), (.eff, 15), (.pure, 16), (.eff, 17)] 15 (fun W => Mods Nil (wr) W) mixed (by kernel_rfl) (by kernel_rfl) (by repeat (first | exact Mods.refl | apply Mods.drew)) ?_
                        repeat first
                           | (refine reg_pure (v := ?_) rfl rfl ?_ ?_; rotate_left 1; (· (intro W; go_simp <;> with_reducible rfl)); simp only [Act.put, List.setIfInBounds_toArray, List.set_cons_zero, List.set_cons_succ])
                           | (refine reg_read (v := ?_) rfl rfl ?_ ?_; rotate_left 1; (· (intro W hW; have hW' := Mods.cells hW; go_simp <;> with_reducible rfl)); simp only [Act.put, List.setIfInBounds_toArray, List.set_cons_zero, List.set_cons_succ])
                           | (refine reg_off (by rfl) (by rfl) ?_; simp only [Act.put, List.setIfInBounds_toArray, List.set_cons_zero, List.set_cons_succ])
                           | (refine reg_pure_on (v := ?_) rfl (by rfl) ?_ ?_; rotate_left 1; (· (intro W; go_simp <;> with_reducible rfl)); simp only [Act.put, List.setIfInBounds_toArray, List.set_cons_zero, List.set_cons_succ])
                           | (refine reg_read_on (v := ?_) rfl (by rfl) ?_ ?_; rotate_left 1; (· (intro W hW; have hW' := Mods.cells hW; go_simp <;> with_reducible rfl)); simp only [Act.put, List.setIfInBounds_toArray, List.set_cons_zero, List.set_cons_succ])
                        have fi := hAf.frz (off + m)
                        refine reg_eff (by rfl) (by rfl) (fun K hK => ?_)
                        go_simp
                        refine hK _ _ ?_
                        clear hK K
                        try simp only [Act.put, List.setIfInBounds_toArray, List.set_cons_zero, List.set_cons_succ]
                        repeat first
                           | (refine reg_pure (v := ?_) rfl rfl ?_ ?_; rotate_left 1; (· (intro W; go_simp <;> with_reducible rfl)); simp only [Act.put, List.setIfInBounds_toArray, List.set_cons_zero, List.set_cons_succ])
                           | (refine reg_read (v := ?_) rfl rfl ?_ ?_; rotate_left 1; (· (intro W hW; skip; go_simp <;> with_reducible rfl)); simp only [Act.put, List.setIfInBounds_toArray, List.set_cons_zero, List.set_cons_succ])
                           | (refine reg_off (by rfl) (by rfl) ?_; simp only [Act.put, List.setIfInBounds_toArray, List.set_cons_zero, List.set_cons_succ])
                           | (refine reg_pure_on (v := ?_) rfl (by rfl) ?_ ?_; rotate_left 1; (· (intro W; go_simp <;> with_reducible rfl)); simp only [Act.put, List.setIfInBounds_toArray, List.set_cons_zero, List.set_cons_succ])
                           | (refine reg_read_on (v := ?_) rfl (by rfl) ?_ ?_; rotate_left 1; (· (intro W hW; skip; go_simp <;> with_reducible rfl)); simp only [Act.put, List.setIfInBounds_toArray, List.set_cons_zero, List.set_cons_succ])
                        have fj := hA1.frz (off + p)
                        have cj2 := hA1.cell p (by simpa using hjn)
                        have lg2 := hA1.lt
                        refine reg_eff (by rfl) (by rfl) (fun K hK => ?_)
                        go_simp
                        refine hK _ _ (reg_done (qnp_normal ?_))
                        clear hK K
                        clear fi fj cj2 lg2 hA1
                        clear ci cj lg hwq
                        have hmz := (hmr.trans hms (fun _ _ h => h)).drew.drew
                        have hsw2 : Hid ((Sort.swp f2 m p).size = n) := by show _ = _; rw [swp_size]; exact hszf.out
                        go_wp2
                        exact ⟨⟨p, Sort.swp f2 m p, by have := hpm.out; omega, by rw [show (m : Int) - 1 = (p : Int) by have := hpm.out; omega], hAs, hst2.out, hsw2.out, hmz⟩, by simp [intOf]; have := hpm.out; omega⟩
                      | false =>
                        have hxy : ¬ x < y := of_decide_eq_false htb.out.symm
                        have hfin : Hid (f2 = piBack a j f ∧ f2.size = n) := ⟨by rw [hst.out, if_neg hxy], hszf.out⟩
                        clear hst hxy ci cj lg hwq
                        go_wp2
                        go_meet
                        exact ⟨f2, hAf, hfin, hmr.drew⟩
                · have h2z : (j : Int) - (a : Int) < 2 := by omega
                  have hfin : Hid (f1 = piBack a j f ∧ f1.size = n) := ⟨by rw [hbk.out, if_neg h2], hsw.out⟩
                  clear hbk h2 hR4
                  go_wp2
                  go_meet
                  exact ⟨f1, hAz, hfin, Mods.refl⟩
              case rest =>
                obtain ⟨f2, hA2, hf2, hm2⟩ := hcut
                have hmw2 := hmz.trans hm2 (fun _ _ h => h)
                clear hbk hsw hAz hmz hm2
                have hR5 : Hid (R = partialIns lz a b (4 - s) j (if 2 ≤ b - j then shiftUp lz b (j + 1) f2 else f2)) := by
                  show _ = _
                  rw [hR4.out, piNext, hf2.out.1]
                have hsz2 := Lib.hid hf2.out.2
                clear hR4 hf2
                go_upto_if 98 with fail
                obtain ⟨wb, hwb⟩ : ∃ wb, wb = wc := ⟨_, rfl⟩
                rw [← hwb] at hA2 hmw2 ⊢
                clear hwb
                by_cases h2 : 2 ≤ b - j
                · have h2z : decide ((2 : Int) ≤ (b : Int) - (j : Int)) = true := by simp; omega
                  have hR6 : Hid (R = partialIns lz a b (4 - s) j (shiftUp lz b (j + 1) f2)) := by show _ = _; rw [hR5.out, if_pos h2]
                  clear hR5
                  go_wp2_with fail
                  rw [h2z]
                  clear h2z
                  go_loopw [10] (fun s10 wr => ∃ (m : Nat) (f3 : Array Int), j + 1 ≤ m ∧ m ≤ b ∧ s10 = .int .i64 m ∧ Arr g off sz f3 wr ∧ Hid (R = partialIns lz a b (4 - s) j (shiftUp lz b m f3)) ∧ f3.size = n ∧ Mods (fun k => k = g) wb wr) (fun s10 _ => b - (intOf s10).toNat)
                  case atStart => exact ⟨j + 1, f2, Nat.le_refl _, by omega, by go_num, hA2, hR6.out, hsz2.out, Mods.refl⟩
                  case round =>
                    clear hR6 hA2 hsz2
                    obtain ⟨m, f3, hmj0, hmb, rfl, hAf, hR6, hszf0, hmr⟩ := hrel
                    have hszf := Lib.hid hszf0
                    clear hszf0
                    by_cases hmb2 : m < b
                    · clear hqj
                      -- the elements f3[m] = x and, one ahead of it, f3[p] = y
                      obtain ⟨p, hqj⟩ : ∃ q, q = m - 1 := ⟨_, rfl⟩
                      have hin : m < f3.size := by rw [hszf.out]; omega
                      have hjn : p < f3.size := by rw [hszf.out]; omega
                      have ci := hAf.cell m hin
                      have cj := hAf.cell p hjn
                      have lg := hAf.lt
                      obtain ⟨x, hx⟩ : ∃ x, x = f3[m]! := ⟨_, rfl⟩
                      obtain ⟨y, hy⟩ : ∃ y, y = f3[p]! := ⟨_, rfl⟩
                      rw [← hx] at ci
                      rw [← hy] at cj
                      have i1 : (1 : Int) ≤ (m : Int) := by omega
                      have i2 : (m : Int) < (n : Int) := by omega
                      have i3 : (0 : Int) ≤ (p : Int) := by omega
                      have i4 : (p : Int) < (n : Int) := by omega
                      have hwq : IntKind.i64.wrap ((m : Int) - 1) = (p : Int) := wrapN (by omega) (by omega)
                      have hst : Hid (R = if x < y then partialIns lz a b (4 - s) j (shiftUp lz b (m + 1) (Sort.swp f3 m p)) else partialIns lz a b (4 - s) j f3) := by
                        show _ = _
                        rw [hR6.out, up_unfold, if_pos hmb2, ← hqj, ← hx, ← hy]
                        split <;> rfl
                      clear hR6
                      replace hx := Lib.hid hx
                      replace hy := Lib.hid hy
                      clear hqj
                      obtain ⟨tb, htb⟩ : ∃ tb, tb = decide (x < y) := ⟨_, rfl⟩
                      replace htb := Lib.hid htb
                      go_upto_region 22 with fail
                      refine wp_region_plan [(.pure, 0), (.pure, 1), (.pure, 2), (.read, 3), (.pure, 4), (.pure, 5), (.pure, 6), (.pure, 7), (.read, 8), (.ben, 9), (.pure, 10)] 11 (fun W => Mods Nil (wr) W) mixed (by kernel_rfl) (by kernel_rfl) (by repeat (first | exact Mods.refl | apply Mods.drew)) ?_
                      repeat first
                         | (refine reg_pure (v := ?_) rfl rfl ?_ ?_; rotate_left 1; (· (intro W; go_simp <;> with_reducible rfl)); simp only [Act.put, List.setIfInBounds_toArray, List.set_cons_zero, List.set_cons_succ])
                         | (refine reg_read (v := ?_) rfl rfl ?_ ?_; rotate_left 1; (· (intro W hW; have hW' := Mods.cells hW; go_simp <;> with_reducible rfl)); simp only [Act.put, List.setIfInBounds_toArray, List.set_cons_zero, List.set_cons_succ])
                         | (refine reg_off (by rfl) (by rfl) ?_; simp only [Act.put, List.setIfInBounds_toArray, List.set_cons_zero, List.set_cons_succ])
                         | (refine reg_pure_on (v := ?_) rfl (by rfl) ?_ ?_; rotate_left 1; (· (intro W; go_simp <;> with_reducible rfl)); simp only [Act.put, List.setIfInBounds_toArray, List.set_cons_zero, List.set_cons_succ])
                         | (refine reg_read_on (v := ?_) rfl (by rfl) ?_ ?_; rotate_left 1; (· (intro W hW; have hW' := Mods.cells hW; go_simp <;> with_reducible rfl)); simp only [Act.put, List.setIfInBounds_toArray, List.set_cons_zero, List.set_cons_succ])
                      refine reg_ben (by rfl) (by rfl) (fun K hK => ?_)
                      go_simp
                      refine (less_walk _ _ _).mono ?_
                      rintro ev wl ⟨rfl, rfl⟩
                      rw [← htb.out]
                      refine hK _ _ (by repeat (first | exact Mods.refl | apply Mods.drew)) ?_
                      clear hK K
                      try simp only [Act.put, List.setIfInBounds_toArray, List.set_cons_zero, List.set_cons_succ]
                      repeat first
                         | (refine reg_pure (v := ?_) rfl rfl ?_ ?_; rotate_left 1; (· (intro W; go_simp <;> with_reducible rfl)); simp only [Act.put, List.setIfInBounds_toArray, List.set_cons_zero, List.set_cons_succ])
                         | (refine reg_read (v := ?_) rfl rfl ?_ ?_; rotate_left 1; (· (intro W hW; skip; go_simp <;> with_reducible rfl)); simp only [Act.put, List.setIfInBounds_toArray, List.set_cons_zero, List.set_cons_succ])
                         | (refine reg_off (by rfl) (by rfl) ?_; simp only [Act.put, List.setIfInBounds_toArray, List.set_cons_zero, List.set_cons_succ])
                         | (refine reg_pure_on (v := ?_) rfl (by rfl) ?_ ?_; rotate_left 1; (· (intro W; go_simp <;> with_reducible rfl)); simp only [Act.put, List.setIfInBounds_toArray, List.set_cons_zero, List.set_cons_succ])
                         | (refine reg_read_on (v := ?_) rfl (by rfl) ?_ ?_; rotate_left 1; (· (intro W hW; skip; go_simp <;> with_reducible rfl)); simp only [Act.put, List.setIfInBounds_toArray, List.set_cons_zero, List.set_cons_succ])
                      refine reg_done (qnp_normal ?_)
                      cases tb with
                      | true =>
                        have hxy : x < y := of_decide_eq_true htb.out.symm
                        have hst2 : Hid (R = partialIns lz a b (4 - s) j (shiftUp lz b (m + 1) (Sort.swp f3 m p))) := by show _ = _; rw [hst.out, if_pos hxy]
                        clear hst hxy
                        -- from wr: an exchange of m and p (which hold x and y), in the region 23
                        have hAs := hAf.swp m p hin hjn
                        have hA1 := hAf.set m hin y
                        rw [← hx.out, ← hy.out] at hAs
                        have hms : Mods (fun k => k = g) wr ((wr.setCell ⟨g, off + m, none⟩ (.int .u64 y)).setCell ⟨g, off + p, none⟩ (.int .u64 x)) := (Arr.mods g _ wr _).trans (Arr.mods g _ _ _) (fun _ _ h => h)
                        go_upto_region 23 with fail
                        refine wp_region_plan [(.pure, 0), (.pure, 1), (.pure, 2), (.pure, 3), (.pure, 4), (.pure, 5), (.pure, 6), (.pure, 7), (.pure, 8), (.read, 9), (.pure, 10), (.pure, 11), (.pure, 12), (.read, 13), (.pure, 14), (.eff, 15), (.pure, 16), (.eff, 17)] 15 (fun W => Mods Nil (wr) W) mixed (by kernel_rfl) (by kernel_rfl) (by repeat (first | exact Mods.refl | apply Mods.drew)) ?_
                        repeat first
                           | (refine reg_pure (v := ?_) rfl rfl ?_ ?_; rotate_left 1; (· (intro W; go_simp <;> with_reducible rfl)); simp only [Act.put, List.setIfInBounds_toArray, List.set_cons_zero, List.set_cons_succ])
                           | (refine reg_read (v := ?_) rfl rfl ?_ ?_; rotate_left 1; (· (intro W hW; have hW' := Mods.cells hW; go_simp <;> with_reducible rfl)); simp only [Act.put, List.setIfInBounds_toArray, List.set_cons_zero, List.set_cons_succ])
                           | (refine reg_off (by rfl) (by rfl) ?_; simp only [Act.put, List.setIfInBounds_toArray, List.set_cons_zero, List.set_cons_succ])
                           | (refine reg_pure_on (v := ?_) rfl (by rfl) ?_ ?_; rotate_left 1; (· (intro W; go_simp <;> with_reducible rfl)); simp only [Act.put, List.setIfInBounds_toArray, List.set_cons_zero, List.set_cons_succ])
                           | (refine reg_read_on (v := ?_) rfl (by rfl) ?_ ?_; rotate_left 1; (· (intro W hW; have hW' := Mods.cells hW; go_simp <;> with_reducible rfl)); simp only [Act.put, List.setIfInBounds_toArray, List.set_cons_zero, List.set_cons_succ])
                        have fi := hAf.frz (off + m)
                        refine reg_eff (by rfl) (by rfl) (fun K hK => ?_)
                        go_simp
                        refine hK _ _ ?_
                        clear hK K
                        try simp only [Act.put, List.setIfInBounds_toArray, List.set_cons_zero, List.set_cons_succ]
                        repeat first
                           | (refine reg_pure (v := ?_) rfl rfl ?_ ?_; rotate_left 1; (· (intro W; go_simp <;> with_reducible rfl)); simp only [Act.put, List.setIfInBounds_toArray, List.set_cons_zero, List.set_cons_succ])
                           | (refine reg_read (v := ?_) rfl rfl ?_ ?_; rotate_left 1; (· (intro W hW; skip; go_simp <;> with_reducible rfl)); simp only [Act.put, List.setIfInBounds_toArray, List.set_cons_zero, List.set_cons_succ])
                           | (refine reg_off (by rfl) (by rfl) ?_; simp only [Act.put, List.setIfInBounds_toArray, List.set_cons_zero, List.set_cons_succ])
                           | (refine reg_pure_on (v := ?_) rfl (by rfl) ?_ ?_; rotate_left 1; (· (intro W; go_simp <;> with_reducible rfl)); simp only [Act.put, List.setIfInBounds_toArray, List.set_cons_zero, List.set_cons_succ])
                           | (refine reg_read_on (v := ?_) rfl (by rfl) ?_ ?_; rotate_left 1; (· (intro W hW; skip; go_simp <;> with_reducible rfl)); simp only [Act.put, List.setIfInBounds_toArray, List.set_cons_zero, List.set_cons_succ])
                        have fj := hA1.frz (off + p)
                        have cj2 := hA1.cell p (by simpa using hjn)
                        have lg2 := hA1.lt
                        refine reg_eff (by rfl) (by rfl) (fun K hK => ?_)
                        go_simp
                        refine hK _ _ (reg_done (qnp_normal ?_))
                        clear hK K
                        clear fi fj cj2 lg2 hA1
                        clear ci cj lg hwq
                        have hmz := (hmr.trans hms (fun _ _ h => h)).drew.drew
                        have hsw2 : Hid ((Sort.swp f3 m p).size = n) := by show _ = _; rw [swp_size]; exact hszf.out
                        go_wp2
                        exact ⟨⟨m + 1, Sort.swp f3 m p, by omega, by omega, by go_num, hAs, hst2.out, hsw2.out, hmz⟩, by simp [intOf]; omega⟩
                      | false =>
                        have hxy : ¬ x < y := of_decide_eq_false htb.out.symm
                        have hfin : Hid (R = partialIns lz a b (5 - (s + 1)) j f3 ∧ f3.size = n) := ⟨by rw [hst.out, if_neg hxy, show 5 - (s + 1) = 4 - s by omega], hszf.out⟩
                        clear hst hxy ci cj lg hwq
                        go_wp2
                        exact ⟨⟨j, s + 1, f3, by omega, by omega, by omega, rfl, by go_num, hAf, hfin.out.1, hfin.out.2, hmw2.trans (hmr.drew) (fun _ _ h => h)⟩, by simp [intOf]; omega⟩
                    · have hfin : Hid (R = partialIns lz a b (5 - (s + 1)) j f3 ∧ f3.size = n) := ⟨by rw [hR6.out, up_unfold, if_neg hmb2, show 5 - (s + 1) = 4 - s by omega], hszf.out⟩
                      have hmz : (b : Int) ≤ (m : Int) := by omega
                      clear hR6 hmb2
                      go_wp2
                      exact ⟨⟨j, s + 1, f3, by omega, by omega, by omega, rfl, by go_num, hAf, hfin.out.1, hfin.out.2, hmw2.trans hmr (fun _ _ h => h)⟩, by simp [intOf]; omega⟩
                · have h2z : (b : Int) - (j : Int) < 2 := by omega
                  have hfin : Hid (R = partialIns lz a b (5 - (s + 1)) j f2 ∧ f2.size = n) := ⟨by rw [hR5.out, if_neg h2, show 5 - (s + 1) = 4 - s by omega], hsz2.out⟩
                  clear hR5 h2
                  go_wp2
                  exact ⟨⟨j, s + 1, f2, by omega, by omega, by omega, rfl, by go_num, hA2, hfin.out.1, hfin.out.2, hmw2.trans (Mods.refl) (fun _ _ h => h)⟩, by simp [intOf]; omega⟩
        · have hjb3 : j = b := by omega
          have hsj : scanSorted lz f b j = j := by rw [scan_unfold, if_neg (fun h => hjb h.1)]
          have e1 : R = (f, true) := by rw [hR2.out, hsc.out, hsj, if_pos hjb3]
          subst e1
          have hjb2 : ((j : Int) == (b : Int)) = true := by simp; omega
          have hjb4 : decide (j < b) = false := by simp; omega
          clear hsc hR2 hjb hjb3
          go_upto_region 5 with fail
          refine wp_region_plan [(.pure, 0), (.pure, 1), (.pure, 2), (.pure, 3), (.pure, 4), (.pure, 5), (.pure, 6), (.read, 7), (.pure, 8), (.pure, 9), (.pure, 10), (.pure, 11), (.read, 12), (.ben, 13), (.pure, 14), (.pure, 15)] 16 (fun W => Mods Nil (wr) W) mixed (by kernel_rfl) (by kernel_rfl) (by repeat (first | exact Mods.refl | apply Mods.drew)) ?_
          repeat first
             | (refine reg_pure (v := ?_) rfl rfl ?_ ?_; rotate_left 1; (· (intro W; go_simp <;> with_reducible rfl)); simp only [Act.put, List.setIfInBounds_toArray, List.set_cons_zero, List.set_cons_succ])
             | (refine reg_read (v := ?_) rfl rfl ?_ ?_; rotate_left 1; (· (intro W hW; have hW' := Mods.cells hW; go_simp <;> with_reducible rfl)); simp only [Act.put, List.setIfInBounds_toArray, List.set_cons_zero, List.set_cons_succ])
             | (refine reg_off (by rfl) (by rfl) ?_; simp only [Act.put, List.setIfInBounds_toArray, List.set_cons_zero, List.set_cons_succ])
             | (refine reg_pure_on (v := ?_) rfl (by rfl) ?_ ?_; rotate_left 1; (· (intro W; go_simp <;> with_reducible rfl)); simp only [Act.put, List.setIfInBounds_toArray, List.set_cons_zero, List.set_cons_succ])
             | (refine reg_read_on (v := ?_) rfl (by rfl) ?_ ?_; rotate_left 1; (· (intro W hW; have hW' := Mods.cells hW; go_simp <;> with_reducible rfl)); simp only [Act.put, List.setIfInBounds_toArray, List.set_cons_zero, List.set_cons_succ])
          refine reg_done (qnp_normal ?_)
          go_wp2
          go_ret
          exact ⟨rfl, hAf, hmw.drew⟩
    · obtain rfl : s = 5 := by omega
      have e1 : R = (f, false) := by rw [hR.out]; rfl
      subst e1
      clear hR hlt
      go_wp2
      go_ret
      exact ⟨rfl, hAf, hm⟩
end Go.Proofs.Ytnnoicacpcahfaa
