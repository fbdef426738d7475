/- slices.siftDown and heapSort on uint64, walked. No condition. -/
import Derived.Test.YtnnoicacpcahfaaSortIns
namespace Go.Proofs.Ytnnoicacpcahfaa
open Go.RowKit Go.Sort

theorem wrapN {x : Int} {n : Nat} (h : x = (n : Int)) (hn : n < 9223372036854775808) : IntKind.i64.wrap x = (n : Int) := by
  rw [IntWalk.i64_in _ (by omega)]; exact h

theorem sift_unfold (hi first r : Nat) (e : Array Int) : siftDown lz hi first r e =
    if 2 * r + 1 ≥ hi then e else
    if 2 * r + 2 < hi ∧ e[first + (2 * r + 1)]! < e[first + (2 * r + 2)]! then (if e[first + r]! < e[first + (2 * r + 2)]! then siftDown lz hi first (2 * r + 2) (Sort.swp e (first + r) (first + (2 * r + 2))) else e)
    else (if e[first + r]! < e[first + (2 * r + 1)]! then siftDown lz hi first (2 * r + 1) (Sort.swp e (first + r) (first + (2 * r + 1))) else e) := by
  rw [siftDown]
  by_cases h1 : 2 * r + 1 ≥ hi
  · rw [dif_pos h1, if_pos h1]
  · rw [dif_neg h1, if_neg h1]
    have e2 : first + (2 * r + 1) + 1 = first + (2 * r + 2) := by omega
    rw [e2]
    by_cases h2 : 2 * r + 2 < hi ∧ e[first + (2 * r + 1)]! < e[first + (2 * r + 2)]!
    · rw [if_pos h2, if_pos (by simp only [lz, ltInt, Bool.and_eq_true, decide_eq_true_eq]; exact ⟨by omega, h2.2⟩)]
      by_cases h3 : e[first + r]! < e[first + (2 * r + 2)]!
      · rw [if_pos h3, if_neg (by simp [lz, ltInt, h3]), dif_pos h2.1]
      · rw [if_neg h3, if_pos (by simp [lz, ltInt]; omega)]
    · rw [if_neg h2, if_neg (by simp only [lz, ltInt, Bool.and_eq_true, decide_eq_true_eq]; intro h; exact h2 ⟨by omega, h.2⟩)]
      by_cases h3 : e[first + r]! < e[first + (2 * r + 1)]!
      · rw [if_pos h3, if_neg (by simp [lz, ltInt, h3])]
      · rw [if_neg h3, if_pos (by simp [lz, ltInt]; omega)]

set_option maxRecDepth 100000 in
set_option maxHeartbeats 3200000 in
theorem sift_walk (w : World) (g off sz cap lo hi first n : Nat) (d : Array Int) (hA : Arr g off sz d w) (hn : d.size = n) (hb : first + hi ≤ n) (hsz : n < 4611686018427387904) (hlo : lo < 4611686018427387904) :
    Calls Try.prog 115 #[.slice (some ⟨g, off, none⟩) n cap, .int .i64 lo, .int .i64 hi, .int .i64 first] w
      fun e w' => e = .returned (.tuple #[]) ∧ Arr g off sz (siftDown lz hi first lo d) w' ∧ Mods (fun k => k = g) w w' := by
  replace hn := Lib.hid hn
  go_enter Try.func115, Try.ntmps115
  go_wp2_with fail
  go_loopw [8] (fun s8 wr => ∃ (r : Nat) (f : Array Int), (r < hi ∨ r = lo) ∧ s8 = .int .i64 r ∧ Arr g off sz f wr ∧ Hid (siftDown lz hi first lo d = siftDown lz hi first r f) ∧ f.size = n ∧ Mods (fun k => k = g) w wr) (fun s8 _ => hi - (intOf s8).toNat)
  case atStart => exact ⟨lo, d, .inr rfl, rfl, hA, rfl, hn.out, Mods.refl⟩
  case round =>
    obtain ⟨r, f, hrl, rfl, hAf, heq, hszf0, hmf⟩ := hrel
    have hszf := Lib.hid hszf0
    clear hszf0
    have hrb : r < 4611686018427387904 := by omega
    obtain ⟨c, hc⟩ : ∃ c, c = 2 * r + 1 := ⟨_, rfl⟩
    go_upto_region 2 with fail
    rw [show (2 * (r : Int) + 1) = (c : Int) by omega]
    have hun := sift_unfold hi first r f
    rw [← heq.out, ← hc, show 2 * r + 2 = c + 1 by omega] at hun
    replace hun := Lib.hid hun
    clear heq
    replace hc := Lib.hid hc
    by_cases hge : hi ≤ c
    · have hfin : siftDown lz hi first lo d = f := by rw [hun.out, if_pos hge]
      rw [← hfin] at hAf
      clear hfin hun
      go_wp2
      go_end0
      exact ⟨rfl, hAf, hmf⟩
    · have hrc : r < c := by have := hc.out; omega
      by_cases hc1 : c + 1 < hi
      · obtain ⟨fc, hfc⟩ : ∃ fc, fc = first + c := ⟨_, rfl⟩
        obtain ⟨fd, hfd⟩ : ∃ fd, fd = fc + 1 := ⟨_, rfl⟩
        have ca := hAf.cell fc (by rw [hszf.out]; omega)
        have cb := hAf.cell fd (by rw [hszf.out]; omega)
        have lg := hAf.lt
        obtain ⟨x1, hx1⟩ : ∃ x, x = f[fc]! := ⟨_, rfl⟩
        obtain ⟨x2, hx2⟩ : ∃ x, x = f[fd]! := ⟨_, rfl⟩
        rw [← hx1] at ca
        rw [← hx2] at cb
        have j1 : (0 : Int) ≤ (fc : Int) := by omega
        have j2 : (fc : Int) < (n : Int) := by omega
        have j3 : (0 : Int) ≤ (fd : Int) := by omega
        have j4 : (fd : Int) < (n : Int) := by omega
        obtain ⟨c1, hcc⟩ : ∃ c1, c1 = c + 1 := ⟨_, rfl⟩
        have hw1 : IntKind.i64.wrap ((c : Int) + 1) = (c1 : Int) := wrapN (by omega) (by omega)
        have hw2 : IntKind.i64.wrap ((first : Int) + (c : Int)) = (fc : Int) := wrapN (by omega) (by omega)
        have hw3 : IntKind.i64.wrap ((fc : Int) + 1) = (fd : Int) := wrapN (by omega) (by omega)
        have j5 : (c1 : Int) < (hi : Int) := by omega
        have j6 : (c : Int) < (hi : Int) := by omega
        have hst : Hid ((siftDown lz hi first lo d = if x1 < x2 then (if f[first + r]! < f[first + c1]! then siftDown lz hi first c1 (Sort.swp f (first + r) (first + c1)) else f) else (if f[first + r]! < f[first + c]! then siftDown lz hi first c (Sort.swp f (first + r) (first + c)) else f))) := by
          show _ = _
          rw [hun.out, if_neg hge, hx1, hx2, hfd, hfc, hcc]
          simp only [hc1, true_and, Nat.add_assoc]
        replace hx1 := Lib.hid hx1
        replace hx2 := Lib.hid hx2
        replace hfc := Lib.hid hfc
        replace hfd := Lib.hid hfd
        replace hcc := Lib.hid hcc
        clear hun hge hc1
        go_upto_region 3 with fail
        refine wp_region_plan [(.pure, 0), (.pure, 1), (.pure, 2), (.pure, 3), (.pure, 4), (.pure, 5), (.pure, 6), (.pure, 7), (.pure, 8), (.pure, 9), (.read, 10), (.pure, 11), (.pure, 12), (.pure, 13), (.pure, 14), (.pure, 15), (.pure, 16), (.read, 17), (.ben, 18), (.pure, 19)] 20 (fun W => Mods Nil (wr) W) mixed (by kernel_rfl) (by kernel_rfl) (by repeat (first | exact Mods.refl | apply Mods.drew)) ?_
        repeat first
           | (refine reg_pure (v := ?_) rfl rfl ?_ ?_; rotate_left 1; (· (intro W; go_simp <;> with_reducible rfl)); simp only [Act.put, List.setIfInBounds_toArray, List.set_cons_zero, List.set_cons_succ])
           | (refine reg_read (v := ?_) rfl rfl ?_ ?_; rotate_left 1; (· (intro W hW; have hW' := Mods.cells hW; go_simp <;> with_reducible rfl)); simp only [Act.put, List.setIfInBounds_toArray, List.set_cons_zero, List.set_cons_succ])
           | (refine reg_off (by rfl) (by rfl) ?_; simp only [Act.put, List.setIfInBounds_toArray, List.set_cons_zero, List.set_cons_succ])
           | (refine reg_pure_on (v := ?_) rfl (by rfl) ?_ ?_; rotate_left 1; (· (intro W; go_simp <;> with_reducible rfl)); simp only [Act.put, List.setIfInBounds_toArray, List.set_cons_zero, List.set_cons_succ])
           | (refine reg_read_on (v := ?_) rfl (by rfl) ?_ ?_; rotate_left 1; (· (intro W hW; have hW' := Mods.cells hW; go_simp <;> with_reducible rfl)); simp only [Act.put, List.setIfInBounds_toArray, List.set_cons_zero, List.set_cons_succ])
        refine reg_ben_on (by rfl) (by rfl) (fun K hK => ?_)
        go_simp
        refine (less_walk _ _ _).mono ?_
        rintro ev wl ⟨rfl, rfl⟩
        refine hK _ _ (by repeat (first | exact Mods.refl | apply Mods.drew)) ?_
        clear hK K
        try simp only [Act.put, List.setIfInBounds_toArray, List.set_cons_zero, List.set_cons_succ]
        repeat first
           | (refine reg_pure (v := ?_) rfl rfl ?_ ?_; rotate_left 1; (· (intro W; go_simp <;> with_reducible rfl)); simp only [Act.put, List.setIfInBounds_toArray, List.set_cons_zero, List.set_cons_succ])
           | (refine reg_read (v := ?_) rfl rfl ?_ ?_; rotate_left 1; (· (intro W hW; skip; go_simp <;> with_reducible rfl)); simp only [Act.put, List.setIfInBounds_toArray, List.set_cons_zero, List.set_cons_succ])
           | (refine reg_off (by rfl) (by rfl) ?_; simp only [Act.put, List.setIfInBounds_toArray, List.set_cons_zero, List.set_cons_succ])
           | (refine reg_pure_on (v := ?_) rfl (by rfl) ?_ ?_; rotate_left 1; (· (intro W; go_simp <;> with_reducible rfl)); simp only [Act.put, List.setIfInBounds_toArray, List.set_cons_zero, List.set_cons_succ])
           | (refine reg_read_on (v := ?_) rfl (by rfl) ?_ ?_; rotate_left 1; (· (intro W hW; skip; go_simp <;> with_reducible rfl)); simp only [Act.put, List.setIfInBounds_toArray, List.set_cons_zero, List.set_cons_succ])
        refine reg_done (qnp_normal ?_)
        by_cases h12 : x1 < x2
        · have hstep : Hid (siftDown lz hi first lo d = if f[first + r]! < f[first + c1]! then siftDown lz hi first c1 (Sort.swp f (first + r) (first + c1)) else f) := by
            show _ = _
            rw [hst.out, if_pos h12]
          have hrc1 : r < c1 := by have := hcc.out; omega
          clear hst ca cb hw2 hw3
          go_upto_region 5 with fail
          clear hw1 hcc
          -- the child is c1; its place is fk, the root's fr
          obtain ⟨fr, hfr⟩ : ∃ fr, fr = first + r := ⟨_, rfl⟩
          obtain ⟨fk, hfk⟩ : ∃ fk, fk = first + c1 := ⟨_, rfl⟩
          have hin : fr < f.size := by rw [hszf.out]; omega
          have hjn : fk < f.size := by rw [hszf.out]; omega
          have ci := hAf.cell fr hin
          have cj := hAf.cell fk hjn
          have lg := hAf.lt
          obtain ⟨x, hx⟩ : ∃ x, x = f[fr]! := ⟨_, rfl⟩
          obtain ⟨y, hy⟩ : ∃ y, y = f[fk]! := ⟨_, rfl⟩
          rw [← hx] at ci
          rw [← hy] at cj
          have i1 : (0 : Int) ≤ (fr : Int) := by omega
          have i2 : (fr : Int) < (n : Int) := by omega
          have i3 : (0 : Int) ≤ (fk : Int) := by omega
          have i4 : (fk : Int) < (n : Int) := by omega
          have hwr : IntKind.i64.wrap ((first : Int) + (r : Int)) = (fr : Int) := wrapN (by omega) (by omega)
          have hwk : IntKind.i64.wrap ((first : Int) + (c1 : Int)) = (fk : Int) := wrapN (by omega) (by omega)
          have hst2 : Hid (siftDown lz hi first lo d = if x < y then siftDown lz hi first c1 (Sort.swp f fr fk) else f) := by
            show _ = _
            rw [hstep.out, hx, hy, hfr, hfk]
          clear hstep
          replace hx := Lib.hid hx
          replace hy := Lib.hid hy
          replace hfr := Lib.hid hfr
          replace hfk := Lib.hid hfk
          obtain ⟨tb, htb⟩ : ∃ tb, tb = decide (x < y) := ⟨_, rfl⟩
          replace htb := Lib.hid htb
          refine wp_region_plan [(.pure, 0), (.pure, 1), (.pure, 2), (.pure, 3), (.pure, 4), (.read, 5), (.pure, 6), (.pure, 7), (.pure, 8), (.pure, 9), (.pure, 10), (.read, 11), (.ben, 12), (.pure, 13)] 14 (fun W => Mods Nil (wr) W) mixed (by kernel_rfl) (by kernel_rfl) (by repeat (first | exact Mods.refl | apply Mods.drew)) ?_
          repeat first
             | (refine reg_pure (v := ?_) rfl rfl ?_ ?_; rotate_left 1; (· (intro W; go_simp <;> with_reducible rfl)); simp only [Act.put, List.setIfInBounds_toArray, List.set_cons_zero, List.set_cons_succ])
             | (refine reg_read (v := ?_) rfl rfl ?_ ?_; rotate_left 1; (· (intro W hW; have hW' := Mods.cells hW; go_simp <;> with_reducible rfl)); simp only [Act.put, List.setIfInBounds_toArray, List.set_cons_zero, List.set_cons_succ])
             | (refine reg_off (by rfl) (by rfl) ?_; simp only [Act.put, List.setIfInBounds_toArray, List.set_cons_zero, List.set_cons_succ])
             | (refine reg_pure_on (v := ?_) rfl (by rfl) ?_ ?_; rotate_left 1; (· (intro W; go_simp <;> with_reducible rfl)); simp only [Act.put, List.setIfInBounds_toArray, List.set_cons_zero, List.set_cons_succ])
             | (refine reg_read_on (v := ?_) rfl (by rfl) ?_ ?_; rotate_left 1; (· (intro W hW; have hW' := Mods.cells hW; go_simp <;> with_reducible rfl)); simp only [Act.put, List.setIfInBounds_toArray, List.set_cons_zero, List.set_cons_succ])
          refine reg_ben (by rfl) (by rfl) (fun K hK => ?_)
          go_simp
          refine (less_walk _ _ _).mono ?_
          rintro ev wl ⟨rfl, rfl⟩
          rw [← htb.out]
          refine hK _ _ (by repeat (first | exact Mods.refl | apply Mods.drew)) ?_
          clear hK K
          try simp only [Act.put, List.setIfInBounds_toArray, List.set_cons_zero, List.set_cons_succ]
          repeat first
             | (refine reg_pure (v := ?_) rfl rfl ?_ ?_; rotate_left 1; (· (intro W; go_simp <;> with_reducible rfl)); simp only [Act.put, List.setIfInBounds_toArray, List.set_cons_zero, List.set_cons_succ])
             | (refine reg_read (v := ?_) rfl rfl ?_ ?_; rotate_left 1; (· (intro W hW; skip; go_simp <;> with_reducible rfl)); simp only [Act.put, List.setIfInBounds_toArray, List.set_cons_zero, List.set_cons_succ])
             | (refine reg_off (by rfl) (by rfl) ?_; simp only [Act.put, List.setIfInBounds_toArray, List.set_cons_zero, List.set_cons_succ])
             | (refine reg_pure_on (v := ?_) rfl (by rfl) ?_ ?_; rotate_left 1; (· (intro W; go_simp <;> with_reducible rfl)); simp only [Act.put, List.setIfInBounds_toArray, List.set_cons_zero, List.set_cons_succ])
             | (refine reg_read_on (v := ?_) rfl (by rfl) ?_ ?_; rotate_left 1; (· (intro W hW; skip; go_simp <;> with_reducible rfl)); simp only [Act.put, List.setIfInBounds_toArray, List.set_cons_zero, List.set_cons_succ])
          refine reg_done (qnp_normal ?_)
          cases tb with
          | true =>
            have hxy : x < y := of_decide_eq_true htb.out.symm
            have hgo : Hid (siftDown lz hi first lo d = siftDown lz hi first c1 (Sort.swp f fr fk)) := by
              show _ = _
              rw [hst2.out, if_pos hxy]
            clear hst2
            -- from wr: an exchange of fr and fk (which hold x and y), in the region 6
            have hAs := hAf.swp fr fk hin hjn
            have hA1 := hAf.set fr hin y
            rw [← hx.out, ← hy.out] at hAs
            have hms : Mods (fun k => k = g) wr ((wr.setCell ⟨g, off + fr, none⟩ (.int .u64 y)).setCell ⟨g, off + fk, none⟩ (.int .u64 x)) := (Arr.mods g _ wr _).trans (Arr.mods g _ _ _) (fun _ _ h => h)
            go_upto_region 6 with fail
            refine wp_region_plan [(.pure, 0), (.pure, 1), (.pure, 2), (.pure, 3), (.pure, 4), (.pure, 5), (.pure, 6), (.pure, 7), (.pure, 8), (.pure, 9), (.pure, 10), (.pure, 11), (.pure, 12), (.read, 13), (.pure, 14), (.pure, 15), (.pure, 16), (.pure, 17), (.pure, 18), (.read, 19), (.pure, 20), (.eff, 21), (.pure, 22), (.eff, 23)] 21 (fun W => Mods Nil (wr) W) mixed (by kernel_rfl) (by kernel_rfl) (by repeat (first | exact Mods.refl | apply Mods.drew)) ?_
            repeat first
               | (refine reg_pure (v := ?_) rfl rfl ?_ ?_; rotate_left 1; (· (intro W; go_simp <;> with_reducible rfl)); simp only [Act.put, List.setIfInBounds_toArray, List.set_cons_zero, List.set_cons_succ])
               | (refine reg_read (v := ?_) rfl rfl ?_ ?_; rotate_left 1; (· (intro W hW; have hW' := Mods.cells hW; go_simp <;> with_reducible rfl)); simp only [Act.put, List.setIfInBounds_toArray, List.set_cons_zero, List.set_cons_succ])
               | (refine reg_off (by rfl) (by rfl) ?_; simp only [Act.put, List.setIfInBounds_toArray, List.set_cons_zero, List.set_cons_succ])
               | (refine reg_pure_on (v := ?_) rfl (by rfl) ?_ ?_; rotate_left 1; (· (intro W; go_simp <;> with_reducible rfl)); simp only [Act.put, List.setIfInBounds_toArray, List.set_cons_zero, List.set_cons_succ])
               | (refine reg_read_on (v := ?_) rfl (by rfl) ?_ ?_; rotate_left 1; (· (intro W hW; have hW' := Mods.cells hW; go_simp <;> with_reducible rfl)); simp only [Act.put, List.setIfInBounds_toArray, List.set_cons_zero, List.set_cons_succ])
            have fi := hAf.frz (off + fr)
            refine reg_eff (by rfl) (by rfl) (fun K hK => ?_)
            go_simp
            refine hK _ _ ?_
            clear hK K
            try simp only [Act.put, List.setIfInBounds_toArray, List.set_cons_zero, List.set_cons_succ]
            repeat first
               | (refine reg_pure (v := ?_) rfl rfl ?_ ?_; rotate_left 1; (· (intro W; go_simp <;> with_reducible rfl)); simp only [Act.put, List.setIfInBounds_toArray, List.set_cons_zero, List.set_cons_succ])
               | (refine reg_read (v := ?_) rfl rfl ?_ ?_; rotate_left 1; (· (intro W hW; skip; go_simp <;> with_reducible rfl)); simp only [Act.put, List.setIfInBounds_toArray, List.set_cons_zero, List.set_cons_succ])
               | (refine reg_off (by rfl) (by rfl) ?_; simp only [Act.put, List.setIfInBounds_toArray, List.set_cons_zero, List.set_cons_succ])
               | (refine reg_pure_on (v := ?_) rfl (by rfl) ?_ ?_; rotate_left 1; (· (intro W; go_simp <;> with_reducible rfl)); simp only [Act.put, List.setIfInBounds_toArray, List.set_cons_zero, List.set_cons_succ])
               | (refine reg_read_on (v := ?_) rfl (by rfl) ?_ ?_; rotate_left 1; (· (intro W hW; skip; go_simp <;> with_reducible rfl)); simp only [Act.put, List.setIfInBounds_toArray, List.set_cons_zero, List.set_cons_succ])
            have fj := hA1.frz (off + fk)
            have cj2 := hA1.cell fk (by simpa using hjn)
            have lg2 := hA1.lt
            refine reg_eff (by rfl) (by rfl) (fun K hK => ?_)
            go_simp
            refine hK _ _ (reg_done (qnp_normal ?_))
            clear hK K
            clear fi fj cj2 lg2 hA1
            clear ci cj lg hwr hwk
            have hmz : Mods (fun k => k = g) w _ := hmf.trans hms (fun _ _ h => h)
            go_wp2
            exact ⟨⟨c1, Sort.swp f fr fk, .inl (by omega), rfl, hAs, hgo, by rw [swp_size]; exact hszf.out, hmz.drew.drew.drew⟩, by simp [intOf]; omega⟩
          | false =>
            have hxy : ¬ x < y := of_decide_eq_false htb.out.symm
            have hfin : siftDown lz hi first lo d = f := by rw [hst2.out, if_neg hxy]
            rw [← hfin] at hAf
            clear ci cj lg hwr hwk hfin hst2 hxy
            go_wp2
            ((try simp only [Exit.inBlock, Exit.then]); refine bodyPost_ret (results_none rfl _ _ _) rfl ?_)
            exact ⟨rfl, hAf, hmf.drew.drew⟩
        · have hstep : Hid (siftDown lz hi first lo d = if f[first + r]! < f[first + c]! then siftDown lz hi first c (Sort.swp f (first + r) (first + c)) else f) := by
            show _ = _
            rw [hst.out, if_neg h12]
          clear hst ca cb hw2 hw3 hw1 hcc
          go_upto_region 5 with fail
          -- the child is c; its place is fk, the root's fr
          obtain ⟨fr, hfr⟩ : ∃ fr, fr = first + r := ⟨_, rfl⟩
          obtain ⟨fk, hfk⟩ : ∃ fk, fk = first + c := ⟨_, rfl⟩
          have hin : fr < f.size := by rw [hszf.out]; omega
          have hjn : fk < f.size := by rw [hszf.out]; omega
          have ci := hAf.cell fr hin
          have cj := hAf.cell fk hjn
          have lg := hAf.lt
          obtain ⟨x, hx⟩ : ∃ x, x = f[fr]! := ⟨_, rfl⟩
          obtain ⟨y, hy⟩ : ∃ y, y = f[fk]! := ⟨_, rfl⟩
          rw [← hx] at ci
          rw [← hy] at cj
          have i1 : (0 : Int) ≤ (fr : Int) := by omega
          have i2 : (fr : Int) < (n : Int) := by omega
          have i3 : (0 : Int) ≤ (fk : Int) := by omega
          have i4 : (fk : Int) < (n : Int) := by omega
          have hwr : IntKind.i64.wrap ((first : Int) + (r : Int)) = (fr : Int) := wrapN (by omega) (by omega)
          have hwk : IntKind.i64.wrap ((first : Int) + (c : Int)) = (fk : Int) := wrapN (by omega) (by omega)
          have hst2 : Hid (siftDown lz hi first lo d = if x < y then siftDown lz hi first c (Sort.swp f fr fk) else f) := by
            show _ = _
            rw [hstep.out, hx, hy, hfr, hfk]
          clear hstep
          replace hx := Lib.hid hx
          replace hy := Lib.hid hy
          replace hfr := Lib.hid hfr
          replace hfk := Lib.hid hfk
          obtain ⟨tb, htb⟩ : ∃ tb, tb = decide (x < y) := ⟨_, rfl⟩
          replace htb := Lib.hid htb
          refine wp_region_plan [(.pure, 0), (.pure, 1), (.pure, 2), (.pure, 3), (.pure, 4), (.read, 5), (.pure, 6), (.pure, 7), (.pure, 8), (.pure, 9), (.pure, 10), (.read, 11), (.ben, 12), (.pure, 13)] 14 (fun W => Mods Nil (wr) W) mixed (by kernel_rfl) (by kernel_rfl) (by repeat (first | exact Mods.refl | apply Mods.drew)) ?_
          repeat first
             | (refine reg_pure (v := ?_) rfl rfl ?_ ?_; rotate_left 1; (· (intro W; go_simp <;> with_reducible rfl)); simp only [Act.put, List.setIfInBounds_toArray, List.set_cons_zero, List.set_cons_succ])
             | (refine reg_read (v := ?_) rfl rfl ?_ ?_; rotate_left 1; (· (intro W hW; have hW' := Mods.cells hW; go_simp <;> with_reducible rfl)); simp only [Act.put, List.setIfInBounds_toArray, List.set_cons_zero, List.set_cons_succ])
             | (refine reg_off (by rfl) (by rfl) ?_; simp only [Act.put, List.setIfInBounds_toArray, List.set_cons_zero, List.set_cons_succ])
             | (refine reg_pure_on (v := ?_) rfl (by rfl) ?_ ?_; rotate_left 1; (· (intro W; go_simp <;> with_reducible rfl)); simp only [Act.put, List.setIfInBounds_toArray, List.set_cons_zero, List.set_cons_succ])
             | (refine reg_read_on (v := ?_) rfl (by rfl) ?_ ?_; rotate_left 1; (· (intro W hW; have hW' := Mods.cells hW; go_simp <;> with_reducible rfl)); simp only [Act.put, List.setIfInBounds_toArray, List.set_cons_zero, List.set_cons_succ])
          refine reg_ben (by rfl) (by rfl) (fun K hK => ?_)
          go_simp
          refine (less_walk _ _ _).mono ?_
          rintro ev wl ⟨rfl, rfl⟩
          rw [← htb.out]
          refine hK _ _ (by repeat (first | exact Mods.refl | apply Mods.drew)) ?_
          clear hK K
          try simp only [Act.put, List.setIfInBounds_toArray, List.set_cons_zero, List.set_cons_succ]
          repeat first
             | (refine reg_pure (v := ?_) rfl rfl ?_ ?_; rotate_left 1; (· (intro W; go_simp <;> with_reducible rfl)); simp only [Act.put, List.setIfInBounds_toArray, List.set_cons_zero, List.set_cons_succ])
             | (refine reg_read (v := ?_) rfl rfl ?_ ?_; rotate_left 1; (· (intro W hW; skip; go_simp <;> with_reducible rfl)); simp only [Act.put, List.setIfInBounds_toArray, List.set_cons_zero, List.set_cons_succ])
             | (refine reg_off (by rfl) (by rfl) ?_; simp only [Act.put, List.setIfInBounds_toArray, List.set_cons_zero, List.set_cons_succ])
             | (refine reg_pure_on (v := ?_) rfl (by rfl) ?_ ?_; rotate_left 1; (· (intro W; go_simp <;> with_reducible rfl)); simp only [Act.put, List.setIfInBounds_toArray, List.set_cons_zero, List.set_cons_succ])
             | (refine reg_read_on (v := ?_) rfl (by rfl) ?_ ?_; rotate_left 1; (· (intro W hW; skip; go_simp <;> with_reducible rfl)); simp only [Act.put, List.setIfInBounds_toArray, List.set_cons_zero, List.set_cons_succ])
          refine reg_done (qnp_normal ?_)
          cases tb with
          | true =>
            have hxy : x < y := of_decide_eq_true htb.out.symm
            have hgo : Hid (siftDown lz hi first lo d = siftDown lz hi first c (Sort.swp f fr fk)) := by
              show _ = _
              rw [hst2.out, if_pos hxy]
            clear hst2
            -- from wr: an exchange of fr and fk (which hold x and y), in the region 6
            have hAs := hAf.swp fr fk hin hjn
            have hA1 := hAf.set fr hin y
            rw [← hx.out, ← hy.out] at hAs
            have hms : Mods (fun k => k = g) wr ((wr.setCell ⟨g, off + fr, none⟩ (.int .u64 y)).setCell ⟨g, off + fk, none⟩ (.int .u64 x)) := (Arr.mods g _ wr _).trans (Arr.mods g _ _ _) (fun _ _ h => h)
            go_upto_region 6 with fail
            refine wp_region_plan [(.pure, 0), (.pure, 1), (.pure, 2), (.pure, 3), (.pure, 4), (.pure, 5), (.pure, 6), (.pure, 7), (.pure, 8), (.pure, 9), (.pure, 10), (.pure, 11), (.pure, 12), (.read, 13), (.pure, 14), (.pure, 15), (.pure, 16), (.pure, 17), (.pure, 18), (.read, 19), (.pure, 20), (.eff, 21), (.pure, 22), (.eff, 23)] 21 (fun W => Mods Nil (wr) W) mixed (by kernel_rfl) (by kernel_rfl) (by repeat (first | exact Mods.refl | apply Mods.drew)) ?_
            repeat first
               | (refine reg_pure (v := ?_) rfl rfl ?_ ?_; rotate_left 1; (· (intro W; go_simp <;> with_reducible rfl)); simp only [Act.put, List.setIfInBounds_toArray, List.set_cons_zero, List.set_cons_succ])
               | (refine reg_read (v := ?_) rfl rfl ?_ ?_; rotate_left 1; (· (intro W hW; have hW' := Mods.cells hW; go_simp <;> with_reducible rfl)); simp only [Act.put, List.setIfInBounds_toArray, List.set_cons_zero, List.set_cons_succ])
               | (refine reg_off (by rfl) (by rfl) ?_; simp only [Act.put, List.setIfInBounds_toArray, List.set_cons_zero, List.set_cons_succ])
               | (refine reg_pure_on (v := ?_) rfl (by rfl) ?_ ?_; rotate_left 1; (· (intro W; go_simp <;> with_reducible rfl)); simp only [Act.put, List.setIfInBounds_toArray, List.set_cons_zero, List.set_cons_succ])
               | (refine reg_read_on (v := ?_) rfl (by rfl) ?_ ?_; rotate_left 1; (· (intro W hW; have hW' := Mods.cells hW; go_simp <;> with_reducible rfl)); simp only [Act.put, List.setIfInBounds_toArray, List.set_cons_zero, List.set_cons_succ])
            have fi := hAf.frz (off + fr)
            refine reg_eff (by rfl) (by rfl) (fun K hK => ?_)
            go_simp
            refine hK _ _ ?_
            clear hK K
            try simp only [Act.put, List.setIfInBounds_toArray, List.set_cons_zero, List.set_cons_succ]
            repeat first
               | (refine reg_pure (v := ?_) rfl rfl ?_ ?_; rotate_left 1; (· (intro W; go_simp <;> with_reducible rfl)); simp only [Act.put, List.setIfInBounds_toArray, List.set_cons_zero, List.set_cons_succ])
               | (refine reg_read (v := ?_) rfl rfl ?_ ?_; rotate_left 1; (· (intro W hW; skip; go_simp <;> with_reducible rfl)); simp only [Act.put, List.setIfInBounds_toArray, List.set_cons_zero, List.set_cons_succ])
               | (refine reg_off (by rfl) (by rfl) ?_; simp only [Act.put, List.setIfInBounds_toArray, List.set_cons_zero, List.set_cons_succ])
               | (refine reg_pure_on (v := ?_) rfl (by rfl) ?_ ?_; rotate_left 1; (· (intro W; go_simp <;> with_reducible rfl)); simp only [Act.put, List.setIfInBounds_toArray, List.set_cons_zero, List.set_cons_succ])
               | (refine reg_read_on (v := ?_) rfl (by rfl) ?_ ?_; rotate_left 1; (· (intro W hW; skip; go_simp <;> with_reducible rfl)); simp only [Act.put, List.setIfInBounds_toArray, List.set_cons_zero, List.set_cons_succ])
            have fj := hA1.frz (off + fk)
            have cj2 := hA1.cell fk (by simpa using hjn)
            have lg2 := hA1.lt
            refine reg_eff (by rfl) (by rfl) (fun K hK => ?_)
            go_simp
            refine hK _ _ (reg_done (qnp_normal ?_))
            clear hK K
            clear fi fj cj2 lg2 hA1
            clear ci cj lg hwr hwk
            have hmz : Mods (fun k => k = g) w _ := hmf.trans hms (fun _ _ h => h)
            go_wp2
            exact ⟨⟨c, Sort.swp f fr fk, .inl (by omega), rfl, hAs, hgo, by rw [swp_size]; exact hszf.out, hmz.drew.drew.drew⟩, by simp [intOf]; omega⟩
          | false =>
            have hxy : ¬ x < y := of_decide_eq_false htb.out.symm
            have hfin : siftDown lz hi first lo d = f := by rw [hst2.out, if_neg hxy]
            rw [← hfin] at hAf
            clear ci cj lg hwr hwk hfin hst2 hxy
            go_wp2
            ((try simp only [Exit.inBlock, Exit.then]); refine bodyPost_ret (results_none rfl _ _ _) rfl ?_)
            exact ⟨rfl, hAf, hmf.drew.drew⟩
      · obtain ⟨c1, hcc⟩ : ∃ c1, c1 = c + 1 := ⟨_, rfl⟩
        have hstep : Hid (siftDown lz hi first lo d = if f[first + r]! < f[first + c]! then siftDown lz hi first c (Sort.swp f (first + r) (first + c)) else f) := by
          show _ = _
          rw [hun.out, if_neg hge, if_neg (fun h => hc1 h.1)]
        have hw1 : IntKind.i64.wrap ((c : Int) + 1) = (c1 : Int) := wrapN (by omega) (by omega)
        have j5 : decide (c1 < hi) = false := by simp; omega
        have j6 : (c : Int) < (hi : Int) := by omega
        replace hcc := Lib.hid hcc
        clear hun hge hc1
        go_upto_region 3 with fail
        refine wp_region_plan [(.pure, 0), (.pure, 1), (.pure, 2), (.pure, 3), (.pure, 4), (.pure, 5), (.pure, 6), (.pure, 7), (.pure, 8), (.pure, 9), (.read, 10), (.pure, 11), (.pure, 12), (.pure, 13), (.pure, 14), (.pure, 15), (.pure, 16), (.read, 17), (.ben, 18), (.pure, 19)] 20 (fun W => Mods Nil (wr) W) mixed (by kernel_rfl) (by kernel_rfl) (by repeat (first | exact Mods.refl | apply Mods.drew)) ?_
        repeat first
           | (refine reg_pure (v := ?_) rfl rfl ?_ ?_; rotate_left 1; (· (intro W; go_simp <;> with_reducible rfl)); simp only [Act.put, List.setIfInBounds_toArray, List.set_cons_zero, List.set_cons_succ])
           | (refine reg_read (v := ?_) rfl rfl ?_ ?_; rotate_left 1; (· (intro W hW; have hW' := Mods.cells hW; go_simp <;> with_reducible rfl)); simp only [Act.put, List.setIfInBounds_toArray, List.set_cons_zero, List.set_cons_succ])
           | (refine reg_off (by rfl) (by rfl) ?_; simp only [Act.put, List.setIfInBounds_toArray, List.set_cons_zero, List.set_cons_succ])
           | (refine reg_pure_on (v := ?_) rfl (by rfl) ?_ ?_; rotate_left 1; (· (intro W; go_simp <;> with_reducible rfl)); simp only [Act.put, List.setIfInBounds_toArray, List.set_cons_zero, List.set_cons_succ])
           | (refine reg_read_on (v := ?_) rfl (by rfl) ?_ ?_; rotate_left 1; (· (intro W hW; have hW' := Mods.cells hW; go_simp <;> with_reducible rfl)); simp only [Act.put, List.setIfInBounds_toArray, List.set_cons_zero, List.set_cons_succ])
        refine reg_done (qnp_normal ?_)
        clear hw1 j5
        have j7 : c < hi := by omega
        go_upto_region 5 with fail
        -- the child is c; its place is fk, the root's fr
        obtain ⟨fr, hfr⟩ : ∃ fr, fr = first + r := ⟨_, rfl⟩
        obtain ⟨fk, hfk⟩ : ∃ fk, fk = first + c := ⟨_, rfl⟩
        have hin : fr < f.size := by rw [hszf.out]; omega
        have hjn : fk < f.size := by rw [hszf.out]; omega
        have ci := hAf.cell fr hin
        have cj := hAf.cell fk hjn
        have lg := hAf.lt
        obtain ⟨x, hx⟩ : ∃ x, x = f[fr]! := ⟨_, rfl⟩
        obtain ⟨y, hy⟩ : ∃ y, y = f[fk]! := ⟨_, rfl⟩
        rw [← hx] at ci
        rw [← hy] at cj
        have i1 : (0 : Int) ≤ (fr : Int) := by omega
        have i2 : (fr : Int) < (n : Int) := by omega
        have i3 : (0 : Int) ≤ (fk : Int) := by omega
        have i4 : (fk : Int) < (n : Int) := by omega
        have hwr : IntKind.i64.wrap ((first : Int) + (r : Int)) = (fr : Int) := wrapN (by omega) (by omega)
        have hwk : IntKind.i64.wrap ((first : Int) + (c : Int)) = (fk : Int) := wrapN (by omega) (by omega)
        have hst2 : Hid (siftDown lz hi first lo d = if x < y then siftDown lz hi first c (Sort.swp f fr fk) else f) := by
          show _ = _
          rw [hstep.out, hx, hy, hfr, hfk]
        clear hstep
        replace hx := Lib.hid hx
        replace hy := Lib.hid hy
        replace hfr := Lib.hid hfr
        replace hfk := Lib.hid hfk
        obtain ⟨tb, htb⟩ : ∃ tb, tb = decide (x < y) := ⟨_, rfl⟩
        replace htb := Lib.hid htb
        refine wp_region_plan [(.pure, 0), (.pure, 1), (.pure, 2), (.pure, 3), (.pure, 4), (.read, 5), (.pure, 6), (.pure, 7), (.pure, 8), (.pure, 9), (.pure, 10), (.read, 11), (.ben, 12), (.pure, 13)] 14 (fun W => Mods Nil (wr) W) mixed (by kernel_rfl) (by kernel_rfl) (by repeat (first | exact Mods.refl | apply Mods.drew)) ?_
        repeat first
           | (refine reg_pure (v := ?_) rfl rfl ?_ ?_; rotate_left 1; (· (intro W; go_simp <;> with_reducible rfl)); simp only [Act.put, List.setIfInBounds_toArray, List.set_cons_zero, List.set_cons_succ])
           | (refine reg_read (v := ?_) rfl rfl ?_ ?_; rotate_left 1; (· (intro W hW; have hW' := Mods.cells hW; go_simp <;> with_reducible rfl)); simp only [Act.put, List.setIfInBounds_toArray, List.set_cons_zero, List.set_cons_succ])
           | (refine reg_off (by rfl) (by rfl) ?_; simp only [Act.put, List.setIfInBounds_toArray, List.set_cons_zero, List.set_cons_succ])
           | (refine reg_pure_on (v := ?_) rfl (by rfl) ?_ ?_; rotate_left 1; (· (intro W; go_simp <;> with_reducible rfl)); simp only [Act.put, List.setIfInBounds_toArray, List.set_cons_zero, List.set_cons_succ])
           | (refine reg_read_on (v := ?_) rfl (by rfl) ?_ ?_; rotate_left 1; (· (intro W hW; have hW' := Mods.cells hW; go_simp <;> with_reducible rfl)); simp only [Act.put, List.setIfInBounds_toArray, List.set_cons_zero, List.set_cons_succ])
        refine reg_ben (by rfl) (by rfl) (fun K hK => ?_)
        go_simp
        refine (less_walk _ _ _).mono ?_
        rintro ev wl ⟨rfl, rfl⟩
        rw [← htb.out]
        refine hK _ _ (by repeat (first | exact Mods.refl | apply Mods.drew)) ?_
        clear hK K
        try simp only [Act.put, List.setIfInBounds_toArray, List.set_cons_zero, List.set_cons_succ]
        repeat first
           | (refine reg_pure (v := ?_) rfl rfl ?_ ?_; rotate_left 1; (· (intro W; go_simp <;> with_reducible rfl)); simp only [Act.put, List.setIfInBounds_toArray, List.set_cons_zero, List.set_cons_succ])
           | (refine reg_read (v := ?_) rfl rfl ?_ ?_; rotate_left 1; (· (intro W hW; skip; go_simp <;> with_reducible rfl)); simp only [Act.put, List.setIfInBounds_toArray, List.set_cons_zero, List.set_cons_succ])
           | (refine reg_off (by rfl) (by rfl) ?_; simp only [Act.put, List.setIfInBounds_toArray, List.set_cons_zero, List.set_cons_succ])
           | (refine reg_pure_on (v := ?_) rfl (by rfl) ?_ ?_; rotate_left 1; (· (intro W; go_simp <;> with_reducible rfl)); simp only [Act.put, List.setIfInBounds_toArray, List.set_cons_zero, List.set_cons_succ])
           | (refine reg_read_on (v := ?_) rfl (by rfl) ?_ ?_; rotate_left 1; (· (intro W hW; skip; go_simp <;> with_reducible rfl)); simp only [Act.put, List.setIfInBounds_toArray, List.set_cons_zero, List.set_cons_succ])
        refine reg_done (qnp_normal ?_)
        cases tb with
        | true =>
          have hxy : x < y := of_decide_eq_true htb.out.symm
          have hgo : Hid (siftDown lz hi first lo d = siftDown lz hi first c (Sort.swp f fr fk)) := by
            show _ = _
            rw [hst2.out, if_pos hxy]
          clear hst2
          -- from wr: an exchange of fr and fk (which hold x and y), in the region 6
          have hAs := hAf.swp fr fk hin hjn
          have hA1 := hAf.set fr hin y
          rw [← hx.out, ← hy.out] at hAs
          have hms : Mods (fun k => k = g) wr ((wr.setCell ⟨g, off + fr, none⟩ (.int .u64 y)).setCell ⟨g, off + fk, none⟩ (.int .u64 x)) := (Arr.mods g _ wr _).trans (Arr.mods g _ _ _) (fun _ _ h => h)
          go_upto_region 6 with fail
          refine wp_region_plan [(.pure, 0), (.pure, 1), (.pure, 2), (.pure, 3), (.pure, 4), (.pure, 5), (.pure, 6), (.pure, 7), (.pure, 8), (.pure, 9), (.pure, 10), (.pure, 11), (.pure, 12), (.read, 13), (.pure, 14), (.pure, 15), (.pure, 16), (.pure, 17), (.pure, 18), (.read, 19), (.pure, 20), (.eff, 21), (.pure, 22), (.eff, 23)] 21 (fun W => Mods Nil (wr) W) mixed (by kernel_rfl) (by kernel_rfl) (by repeat (first | exact Mods.refl | apply Mods.drew)) ?_
          repeat first
             | (refine reg_pure (v := ?_) rfl rfl ?_ ?_; rotate_left 1; (· (intro W; go_simp <;> with_reducible rfl)); simp only [Act.put, List.setIfInBounds_toArray, List.set_cons_zero, List.set_cons_succ])
             | (refine reg_read (v := ?_) rfl rfl ?_ ?_; rotate_left 1; (· (intro W hW; have hW' := Mods.cells hW; go_simp <;> with_reducible rfl)); simp only [Act.put, List.setIfInBounds_toArray, List.set_cons_zero, List.set_cons_succ])
             | (refine reg_off (by rfl) (by rfl) ?_; simp only [Act.put, List.setIfInBounds_toArray, List.set_cons_zero, List.set_cons_succ])
             | (refine reg_pure_on (v := ?_) rfl (by rfl) ?_ ?_; rotate_left 1; (· (intro W; go_simp <;> with_reducible rfl)); simp only [Act.put, List.setIfInBounds_toArray, List.set_cons_zero, List.set_cons_succ])
             | (refine reg_read_on (v := ?_) rfl (by rfl) ?_ ?_; rotate_left 1; (· (intro W hW; have hW' := Mods.cells hW; go_simp <;> with_reducible rfl)); simp only [Act.put, List.setIfInBounds_toArray, List.set_cons_zero, List.set_cons_succ])
          have fi := hAf.frz (off + fr)
          refine reg_eff (by rfl) (by rfl) (fun K hK => ?_)
          go_simp
          refine hK _ _ ?_
          clear hK K
          try simp only [Act.put, List.setIfInBounds_toArray, List.set_cons_zero, List.set_cons_succ]
          repeat first
             | (refine reg_pure (v := ?_) rfl rfl ?_ ?_; rotate_left 1; (· (intro W; go_simp <;> with_reducible rfl)); simp only [Act.put, List.setIfInBounds_toArray, List.set_cons_zero, List.set_cons_succ])
             | (refine reg_read (v := ?_) rfl rfl ?_ ?_; rotate_left 1; (· (intro W hW; skip; go_simp <;> with_reducible rfl)); simp only [Act.put, List.setIfInBounds_toArray, List.set_cons_zero, List.set_cons_succ])
             | (refine reg_off (by rfl) (by rfl) ?_; simp only [Act.put, List.setIfInBounds_toArray, List.set_cons_zero, List.set_cons_succ])
             | (refine reg_pure_on (v := ?_) rfl (by rfl) ?_ ?_; rotate_left 1; (· (intro W; go_simp <;> with_reducible rfl)); simp only [Act.put, List.setIfInBounds_toArray, List.set_cons_zero, List.set_cons_succ])
             | (refine reg_read_on (v := ?_) rfl (by rfl) ?_ ?_; rotate_left 1; (· (intro W hW; skip; go_simp <;> with_reducible rfl)); simp only [Act.put, List.setIfInBounds_toArray, List.set_cons_zero, List.set_cons_succ])
          have fj := hA1.frz (off + fk)
          have cj2 := hA1.cell fk (by simpa using hjn)
          have lg2 := hA1.lt
          refine reg_eff (by rfl) (by rfl) (fun K hK => ?_)
          go_simp
          refine hK _ _ (reg_done (qnp_normal ?_))
          clear hK K
          clear fi fj cj2 lg2 hA1
          clear ci cj lg hwr hwk
          have hmz : Mods (fun k => k = g) w _ := hmf.trans hms (fun _ _ h => h)
          go_wp2
          exact ⟨⟨c, Sort.swp f fr fk, .inl (by omega), rfl, hAs, hgo, by rw [swp_size]; exact hszf.out, hmz.drew.drew.drew⟩, by simp [intOf]; omega⟩
        | false =>
          have hxy : ¬ x < y := of_decide_eq_false htb.out.symm
          have hfin : siftDown lz hi first lo d = f := by rw [hst2.out, if_neg hxy]
          rw [← hfin] at hAf
          clear ci cj lg hwr hwk hfin hst2 hxy
          go_wp2
          ((try simp only [Exit.inBlock, Exit.then]); refine bodyPost_ret (results_none rfl _ _ _) rfl ?_)
          exact ⟨rfl, hAf, hmf.drew.drew⟩
end Go.Proofs.Ytnnoicacpcahfaa

namespace Go.Proofs.Ytnnoicacpcahfaa
open Go.RowKit Go.Sort


theorem sift_size (hi first : Nat) : ∀ (n r : Nat) (e : Array Int), hi - r ≤ n → (siftDown lz hi first r e).size = e.size
  | 0, r, e, h => by rw [sift_unfold, if_pos (by omega)]
  | n + 1, r, e, h => by
    rw [sift_unfold]
    split
    · rfl
    · split
      · split
        · rw [sift_size hi first n _ _ (by omega), swp_size]
        · rfl
      · split
        · rw [sift_size hi first n _ _ (by omega), swp_size]
        · rfl

set_option maxRecDepth 100000 in
set_option maxHeartbeats 3200000 in
theorem heap_walk (w : World) (g off sz cap a b n : Nat) (d : Array Int) (hA : Arr g off sz d w) (hn : d.size = n) (hab : a < b) (hb : b ≤ n) (hsz : n < 4611686018427387904) :
    Calls Try.prog 106 #[.slice (some ⟨g, off, none⟩) n cap, .int .i64 a, .int .i64 b] w
      fun e w' => e = .returned (.tuple #[]) ∧ Arr g off sz (heapSort lz d a b) w' ∧ Mods (fun k => k = g) w w' := by
  replace hn := Lib.hid hn
  obtain ⟨hi, hhi⟩ : ∃ hi, hi = b - a := ⟨_, rfl⟩
  obtain ⟨k0, hk0⟩ : ∃ k0, k0 = (hi - 1) / 2 + 1 := ⟨_, rfl⟩
  have hres : Hid (heapSort lz d a b = heapPop lz a hi (heapBuild lz hi a k0 d)) := by
    show _ = _
    rw [heapSort, hk0, hhi]
  have hk1 : k0 ≤ hi := by omega
  have hhn : a + hi ≤ n := by omega
  have hhb : (b : Int) - (a : Int) = (hi : Int) := by omega
  have hkk : ((hi : Int) - 1) / 2 = (k0 : Int) - 1 := by omega
  have hq : (0 : Int) ≤ (hi : Int) - 1 := by omega
  replace hhi := Lib.hid hhi
  replace hk0 := Lib.hid hk0
  replace hhb := Lib.hid hhb
  replace hkk := Lib.hid hkk
  go_enter Try.func106, Try.ntmps106
  go_upto_region 3 with fail
  rw [hhb.out]
  go_wp2_with fail
  go_loopw [9] (fun s9 wr => ∃ (k : Nat) (f : Array Int), k ≤ hi ∧ s9 = .int .i64 ((k : Int) - 1) ∧ Arr g off sz f wr ∧ Hid (heapBuild lz hi a k0 d = heapBuild lz hi a k f) ∧ f.size = n ∧ Mods (fun k => k = g) w wr) (fun s9 _ => (intOf s9 + 1).toNat)
  case atStart => exact ⟨k0, d, hk1, by rw [hkk.out], hA, rfl, hn.out, Mods.refl⟩
  case round =>
    obtain ⟨k, f, hk, rfl, hAf, heq, hszf0, hmf⟩ := hrel
    have hszf := Lib.hid hszf0
    clear hszf0
    cases k with
    | succ m =>
      rw [show (((m + 1 : Nat) : Int) - 1) = (m : Int) by omega]
      go_wp2_with fail
      refine (sift_walk _ g off sz cap m hi a n f hAf hszf.out hhn hsz (by omega)).mono ?_
      rintro e w1 ⟨rfl, hA1, hm1⟩
      have hs2 : Hid ((siftDown lz hi a m f).size = n) := (sift_size hi a _ m f (Nat.le_refl _)).trans hszf.out
      go_wp2
      exact ⟨⟨m, _, by omega, rfl, hA1, heq.out, hs2.out, hmf.trans hm1 (fun _ _ h => h)⟩, by simp [intOf] <;> omega⟩
    | zero =>
      have hbase : Hid (heapSort lz d a b = heapPop lz a hi f) := by
        show _ = _
        rw [hres.out, heq.out]; rfl
      clear heq
      rw [show (((0 : Nat) : Int) - 1) = -1 from rfl]
      go_wp2_with fail
      obtain ⟨wo, hwo⟩ : ∃ wo, wo = wr := ⟨_, rfl⟩
      rw [← hwo] at hAf hmf ⊢
      clear hwo
      go_loopw [10] (fun s10 wr => ∃ (k : Nat) (f : Array Int), k ≤ hi ∧ s10 = .int .i64 ((k : Int) - 1) ∧ Arr g off sz f wr ∧ Hid (heapSort lz d a b = heapPop lz a k f) ∧ f.size = n ∧ Mods (fun k => k = g) w wr) (fun s10 _ => (intOf s10 + 1).toNat)
      case atStart => exact ⟨hi, f, Nat.le_refl _, rfl, hAf, hbase.out, hszf.out, hmf⟩
      case round =>
        clear hbase hszf hAf hmf
        obtain ⟨k, f, hk, rfl, hAf, heq, hszf0, hmf⟩ := hrel
        have hszf := Lib.hid hszf0
        clear hszf0
        cases k with
        | succ m =>
          rw [show (((m + 1 : Nat) : Int) - 1) = (m : Int) by omega]
          obtain ⟨fk, hfk⟩ : ∃ fk, fk = a + m := ⟨_, rfl⟩
          have hin : a < f.size := by rw [hszf.out]; omega
          have hjn : fk < f.size := by rw [hszf.out]; omega
          have ci := hAf.cell a hin
          have cj := hAf.cell fk hjn
          have lg := hAf.lt
          obtain ⟨x, hx⟩ : ∃ x, x = f[a]! := ⟨_, rfl⟩
          obtain ⟨y, hy⟩ : ∃ y, y = f[fk]! := ⟨_, rfl⟩
          rw [← hx] at ci
          rw [← hy] at cj
          have i1 : (0 : Int) ≤ (a : Int) := by omega
          have i2 : (a : Int) < (n : Int) := by omega
          have i3 : (0 : Int) ≤ (fk : Int) := by omega
          have i4 : (fk : Int) < (n : Int) := by omega
          have hwk : IntKind.i64.wrap ((a : Int) + (m : Int)) = (fk : Int) := wrapN (by omega) (by omega)
          have hnx : Hid (heapSort lz d a b = heapPop lz a m (siftDown lz m a 0 (Sort.swp f a fk))) := by
            show _ = _
            rw [heq.out, hfk]; rfl
          clear heq
          replace hx := Lib.hid hx
          replace hy := Lib.hid hy
          replace hfk := Lib.hid hfk
          -- from wr: an exchange of a and fk (which hold x and y), in the region 10
          have hAs := hAf.swp a fk hin hjn
          have hA1 := hAf.set a hin y
          rw [← hx.out, ← hy.out] at hAs
          have hms : Mods (fun k => k = g) wr ((wr.setCell ⟨g, off + a, none⟩ (.int .u64 y)).setCell ⟨g, off + fk, none⟩ (.int .u64 x)) := (Arr.mods g _ wr _).trans (Arr.mods g _ _ _) (fun _ _ h => h)
          go_upto_region 10 with fail
          refine wp_region_plan [(.pure, 0), (.pure, 1), (.pure, 2), (.pure, 3), (.pure, 4), (.pure, 5), (.pure, 6), (.pure, 7), (.pure, 8), (.pure, 9), (.pure, 10), (.read, 11), (.pure, 12), (.pure, 13), (.pure, 14), (.read, 15), (.pure, 16), (.eff, 17), (.pure, 18), (.eff, 19)] 17 (fun W => Mods Nil (wr) W) mixed (by kernel_rfl) (by kernel_rfl) (by repeat (first | exact Mods.refl | apply Mods.drew)) ?_
          repeat first
             | (refine reg_pure (v := ?_) rfl rfl ?_ ?_; rotate_left 1; (· (intro W; go_simp <;> with_reducible rfl)); simp only [Act.put, List.setIfInBounds_toArray, List.set_cons_zero, List.set_cons_succ])
             | (refine reg_read (v := ?_) rfl rfl ?_ ?_; rotate_left 1; (· (intro W hW; have hW' := Mods.cells hW; go_simp <;> with_reducible rfl)); simp only [Act.put, List.setIfInBounds_toArray, List.set_cons_zero, List.set_cons_succ])
             | (refine reg_off (by rfl) (by rfl) ?_; simp only [Act.put, List.setIfInBounds_toArray, List.set_cons_zero, List.set_cons_succ])
             | (refine reg_pure_on (v := ?_) rfl (by rfl) ?_ ?_; rotate_left 1; (· (intro W; go_simp <;> with_reducible rfl)); simp only [Act.put, List.setIfInBounds_toArray, List.set_cons_zero, List.set_cons_succ])
             | (refine reg_read_on (v := ?_) rfl (by rfl) ?_ ?_; rotate_left 1; (· (intro W hW; have hW' := Mods.cells hW; go_simp <;> with_reducible rfl)); simp only [Act.put, List.setIfInBounds_toArray, List.set_cons_zero, List.set_cons_succ])
          have fi := hAf.frz (off + a)
          refine reg_eff (by rfl) (by rfl) (fun K hK => ?_)
          go_simp
          refine hK _ _ ?_
          clear hK K
          try simp only [Act.put, List.setIfInBounds_toArray, List.set_cons_zero, List.set_cons_succ]
          repeat first
             | (refine reg_pure (v := ?_) rfl rfl ?_ ?_; rotate_left 1; (· (intro W; go_simp <;> with_reducible rfl)); simp only [Act.put, List.setIfInBounds_toArray, List.set_cons_zero, List.set_cons_succ])
             | (refine reg_read (v := ?_) rfl rfl ?_ ?_; rotate_left 1; (· (intro W hW; skip; go_simp <;> with_reducible rfl)); simp only [Act.put, List.setIfInBounds_toArray, List.set_cons_zero, List.set_cons_succ])
             | (refine reg_off (by rfl) (by rfl) ?_; simp only [Act.put, List.setIfInBounds_toArray, List.set_cons_zero, List.set_cons_succ])
             | (refine reg_pure_on (v := ?_) rfl (by rfl) ?_ ?_; rotate_left 1; (· (intro W; go_simp <;> with_reducible rfl)); simp only [Act.put, List.setIfInBounds_toArray, List.set_cons_zero, List.set_cons_succ])
             | (refine reg_read_on (v := ?_) rfl (by rfl) ?_ ?_; rotate_left 1; (· (intro W hW; skip; go_simp <;> with_reducible rfl)); simp only [Act.put, List.setIfInBounds_toArray, List.set_cons_zero, List.set_cons_succ])
          have fj := hA1.frz (off + fk)
          have cj2 := hA1.cell fk (by simpa using hjn)
          have lg2 := hA1.lt
          refine reg_eff (by rfl) (by rfl) (fun K hK => ?_)
          go_simp
          refine hK _ _ (reg_done (qnp_normal ?_))
          clear hK K
          clear fi fj cj2 lg2 hA1
          clear ci cj lg hwk
          have hAd : Arr g off sz (Sort.swp f a fk) _ := Arr.drew hAs
          have hmd := (hmf.trans hms (fun _ _ h => h)).drew
          clear hAs hms hAf
          generalize ((wr.setCell ⟨g, off + a, none⟩ (.int .u64 y)).setCell ⟨g, off + fk, none⟩ (.int .u64 x)).drew = w2 at *
          have hsw : Hid ((Sort.swp f a fk).size = n) := by show _ = _; rw [swp_size]; exact hszf.out
          go_wp2_with fail
          refine (sift_walk w2 g off sz cap 0 m a n _ hAd hsw.out (by omega) hsz (by omega)).mono ?_
          rintro e w3 ⟨rfl, hA3, hm3⟩
          have hs2 : Hid ((siftDown lz m a 0 (Sort.swp f a fk)).size = n) := (sift_size m a _ 0 _ (Nat.le_refl _)).trans hsw.out
          go_wp2
          exact ⟨⟨m, _, by omega, rfl, hA3, hnx.out, hs2.out, hmd.trans hm3 (fun _ _ h => h)⟩, by simp [intOf] <;> omega⟩
        | zero =>
          have hfin : heapSort lz d a b = f := heq.out
          rw [← hfin] at hAf
          clear heq hfin
          go_wp2
          go_end0
          exact ⟨rfl, hAf, hmf⟩
end Go.Proofs.Ytnnoicacpcahfaa
