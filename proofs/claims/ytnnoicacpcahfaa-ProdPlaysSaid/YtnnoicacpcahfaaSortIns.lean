/- slices.insertionSortOrdered on uint64, walked. No condition. -/
import Derived.Test.YtnnoicacpcahfaaU64Arr
import Derived.IntWalk
namespace Go.Proofs.Ytnnoicacpcahfaa
open Go.RowKit Go.Sort

set_option maxRecDepth 100000 in
set_option maxHeartbeats 3200000 in
theorem insertion_walk (w : World) (g off sz cap a b : Nat) (d : Array Int) (hA : Arr g off sz d w) (hab : a ≤ b) (hb : b ≤ d.size) (hsz : d.size < 4611686018427387904) :
    Calls Try.prog 105 #[.slice (some ⟨g, off, none⟩) d.size cap, .int .i64 a, .int .i64 b] w
      fun e w' => e = .returned (.tuple #[]) ∧ ∃ d', Arr g off sz d' w' ∧ PermIn a b d d' ∧ SortedIn lz a b d' ∧ Mods (fun k => k = g) w w' := by
  obtain ⟨n, hn⟩ : ∃ n, n = d.size := ⟨_, rfl⟩
  rw [← hn] at hb hsz ⊢
  replace hn := Lib.hid hn
  go_enter Try.func105, Try.ntmps105
  go_wp2_with fail
  go_loopw [6] (fun s6 wr => ∃ (i : Nat) (e : Array Int), a + 1 ≤ i ∧ (i ≤ b ∨ i = a + 1) ∧ s6 = .int .i64 i ∧ Arr g off sz e wr ∧ Hid (PermIn a b d e ∧ SortedIn lz a i e) ∧ Mods (fun k => k = g) w wr) (fun s6 _ => b - (intOf s6).toNat)
  case atStart => exact ⟨a + 1, d, by omega, .inr rfl, by go_num, hA, ⟨permIn_refl _ _ _, fun i j h1 h2 h3 => by omega⟩, Mods.refl⟩
  case round =>
    obtain ⟨i, e, hi0, hi1, rfl, hAe, hq, hm⟩ := hrel
    have hsz2 : e.size = n := by rw [hq.out.1.1, hn.out]
    by_cases hlt : i < b
    · go_wp2_with fail
      obtain ⟨wo, hwo⟩ : ∃ wo, wo = wr := ⟨_, rfl⟩
      rw [← hwo] at hAe hm ⊢
      clear hwo
      replace hsz2 := Lib.hid hsz2
      go_loopw [7] (fun s7 wr => ∃ (j : Nat) (f : Array Int), a ≤ j ∧ j ≤ i ∧ s7 = .int .i64 j ∧ Arr g off sz f wr ∧ Hid (PermIn a b d f ∧ Ins lz a j i f) ∧ Mods (fun k => k = g) wo wr) (fun s7 _ => (intOf s7).toNat)
      case atStart => exact ⟨i, e, by omega, Nat.le_refl _, rfl, hAe, ⟨hq.out.1, ⟨fun p q h1 h2 h3 h4 h5 => hq.out.2 p q h1 h2 (by omega), fun q h1 h2 => by omega⟩⟩, Mods.refl⟩
      case round =>
        obtain ⟨j, f, hj0, hj1, rfl, hAf, hqf, hmf⟩ := hrel
        have hszf : Hid (f.size = n) := by rw [hqf.out.1.1, hn.out]; exact rfl
        by_cases hja : a < j
        · have cj := hAf.cell j (by rw [hszf.out]; omega)
          obtain ⟨q, hqj⟩ : ∃ q, q = j - 1 := ⟨_, rfl⟩
          have cj1 := hAf.cell q (by rw [hszf.out]; omega)
          have lg := hAf.lt
          obtain ⟨x, hx⟩ : ∃ x, x = f[j]! := ⟨_, rfl⟩
          obtain ⟨y, hy⟩ : ∃ y, y = f[q]! := ⟨_, rfl⟩
          rw [← hx] at cj
          rw [← hy] at cj1
          replace hx := Lib.hid hx
          replace hy := Lib.hid hy
          have i1 : (1 : Int) ≤ (j : Int) := by omega
          have i2 : (j : Int) < (n : Int) := by omega
          have i3 : (a : Int) < (j : Int) := by omega
          have i4 : (q : Int) < (n : Int) := by omega
          have hwq : IntKind.i64.wrap ((j : Int) - 1) = (q : Int) := by rw [IntWalk.i64_in _ (by omega)]; omega
          have hq1 : q + 1 = j := by omega
          replace hq1 := Lib.hid hq1
          clear hqj
          go_upto_region 4 with fail
          refine wp_region_plan [(.pure, 0), (.pure, 1), (.pure, 2), (.pure, 3), (.pure, 4), (.pure, 5), (.pure, 6), (.read, 7), (.pure, 8), (.pure, 9), (.pure, 10), (.pure, 11), (.read, 12), (.ben, 13), (.pure, 14)] 15 (fun W => Mods Nil (wr) W) mixed (by kernel_rfl) (by kernel_rfl) (by repeat (first | exact Mods.refl | apply Mods.drew)) ?_
          repeat first
             | (refine reg_pure (v := ?_) rfl rfl ?_ ?_; rotate_left 1; (· (intro W; go_simp <;> with_reducible rfl)); simp only [Act.put, List.setIfInBounds_toArray, List.set_cons_zero, List.set_cons_succ])
             | (refine reg_read (v := ?_) rfl rfl ?_ ?_; rotate_left 1; (· (intro W hW; have hW' := Mods.cells hW; go_simp <;> with_reducible rfl)); simp only [Act.put, List.setIfInBounds_toArray, List.set_cons_zero, List.set_cons_succ])
             | (refine reg_off (by rfl) (by rfl) ?_; simp only [Act.put, List.setIfInBounds_toArray, List.set_cons_zero, List.set_cons_succ])
             | (refine reg_pure_on (v := ?_) rfl (by rfl) ?_ ?_; rotate_left 1; (· (intro W; go_simp <;> with_reducible rfl)); simp only [Act.put, List.setIfInBounds_toArray, List.set_cons_zero, List.set_cons_succ])
             | (refine reg_read_on (v := ?_) rfl (by rfl) ?_ ?_; rotate_left 1; (· (intro W hW; have hW' := Mods.cells hW; go_simp <;> with_reducible rfl)); simp only [Act.put, List.setIfInBounds_toArray, List.set_cons_zero, List.set_cons_succ])
          refine reg_ben_on (by rfl) (by rfl) (fun K hK => ?_)
          go_simp
          refine (less_walk _ _ _).mono ?_
          rintro ev wl ⟨rfl, rfl⟩
          refine hK _ _ (by repeat (first | exact Mods.refl | apply Mods.drew)) ?_
          clear hK K
          try simp only [Act.put, List.setIfInBounds_toArray, List.set_cons_zero, List.set_cons_succ]
          repeat first
             | (refine reg_pure (v := ?_) rfl rfl ?_ ?_; rotate_left 1; (· (intro W; go_simp <;> with_reducible rfl)); simp only [Act.put, List.setIfInBounds_toArray, List.set_cons_zero, List.set_cons_succ])
             | (refine reg_read (v := ?_) rfl rfl ?_ ?_; rotate_left 1; (· (intro W hW; skip; go_simp <;> with_reducible rfl)); simp only [Act.put, List.setIfInBounds_toArray, List.set_cons_zero, List.set_cons_succ])
             | (refine reg_off (by rfl) (by rfl) ?_; simp only [Act.put, List.setIfInBounds_toArray, List.set_cons_zero, List.set_cons_succ])
             | (refine reg_pure_on (v := ?_) rfl (by rfl) ?_ ?_; rotate_left 1; (· (intro W; go_simp <;> with_reducible rfl)); simp only [Act.put, List.setIfInBounds_toArray, List.set_cons_zero, List.set_cons_succ])
             | (refine reg_read_on (v := ?_) rfl (by rfl) ?_ ?_; rotate_left 1; (· (intro W hW; skip; go_simp <;> with_reducible rfl)); simp only [Act.put, List.setIfInBounds_toArray, List.set_cons_zero, List.set_cons_succ])
          refine reg_done (qnp_normal ?_)
          by_cases hxy : x < y
          · have hins : Hid (PermIn a b d (Sort.swp f j q) ∧ Ins lz a q i (Sort.swp f j q)) := by
              obtain ⟨q1, q2⟩ := hqf.out
              obtain rfl := hq1.out
              refine ⟨permIn_trans _ _ _ _ _ q1 (swp_permIn _ _ _ _ _ hj0 (by omega) (by omega) (by omega) (by rw [hszf.out]; omega)), ?_⟩
              exact Ins.step q2 (by rw [lz_true]; rw [← hx.out, ← hy.out]; exact hxy) (by omega) (by rw [hszf.out]; omega)
            have hin : j < f.size := by rw [hszf.out]; omega
            have hjn : q < f.size := by rw [hszf.out]; omega
            -- from wr, <d>: an exchange of j and q (which hold x and y), in the region 6
            have hAs := hAf.swp j q hin hjn
            have hA1 := hAf.set j hin y
            rw [← hx.out, ← hy.out] at hAs
            have hms : Mods (fun k => k = g) wr ((wr.setCell ⟨g, off + j, none⟩ (.int .u64 y)).setCell ⟨g, off + q, none⟩ (.int .u64 x)) := (Arr.mods g _ wr _).trans (Arr.mods g _ _ _) (fun _ _ h => h)
            go_upto_region 6 with fail
            refine wp_region_plan [(.pure, 0), (.pure, 1), (.pure, 2), (.pure, 3), (.pure, 4), (.pure, 5), (.pure, 6), (.pure, 7), (.pure, 8), (.read, 9), (.pure, 10), (.pure, 11), (.pure, 12), (.read, 13), (.pure, 14), (.eff, 15), (.pure, 16), (.eff, 17)] 15 (fun W => Mods Nil (wr) W) mixed (by kernel_rfl) (by kernel_rfl) (by repeat (first | exact Mods.refl | apply Mods.drew)) ?_
            repeat first
               | (refine reg_pure (v := ?_) rfl rfl ?_ ?_; rotate_left 1; (· (intro W; go_simp <;> with_reducible rfl)); simp only [Act.put, List.setIfInBounds_toArray, List.set_cons_zero, List.set_cons_succ])
               | (refine reg_read (v := ?_) rfl rfl ?_ ?_; rotate_left 1; (· (intro W hW; have hW' := Mods.cells hW; go_simp <;> with_reducible rfl)); simp only [Act.put, List.setIfInBounds_toArray, List.set_cons_zero, List.set_cons_succ])
               | (refine reg_off (by rfl) (by rfl) ?_; simp only [Act.put, List.setIfInBounds_toArray, List.set_cons_zero, List.set_cons_succ])
               | (refine reg_pure_on (v := ?_) rfl (by rfl) ?_ ?_; rotate_left 1; (· (intro W; go_simp <;> with_reducible rfl)); simp only [Act.put, List.setIfInBounds_toArray, List.set_cons_zero, List.set_cons_succ])
               | (refine reg_read_on (v := ?_) rfl (by rfl) ?_ ?_; rotate_left 1; (· (intro W hW; have hW' := Mods.cells hW; go_simp <;> with_reducible rfl)); simp only [Act.put, List.setIfInBounds_toArray, List.set_cons_zero, List.set_cons_succ])
            have fi := hAf.frz (off + j)
            refine reg_eff (by rfl) (by rfl) (fun K hK => ?_)
            go_simp
            refine hK _ _ ?_
            clear hK K
            try simp only [Act.put, List.setIfInBounds_toArray, List.set_cons_zero, List.set_cons_succ]
            repeat first
               | (refine reg_pure (v := ?_) rfl rfl ?_ ?_; rotate_left 1; (· (intro W; go_simp <;> with_reducible rfl)); simp only [Act.put, List.setIfInBounds_toArray, List.set_cons_zero, List.set_cons_succ])
               | (refine reg_read (v := ?_) rfl rfl ?_ ?_; rotate_left 1; (· (intro W hW; skip; go_simp <;> with_reducible rfl)); simp only [Act.put, List.setIfInBounds_toArray, List.set_cons_zero, List.set_cons_succ])
               | (refine reg_off (by rfl) (by rfl) ?_; simp only [Act.put, List.setIfInBounds_toArray, List.set_cons_zero, List.set_cons_succ])
               | (refine reg_pure_on (v := ?_) rfl (by rfl) ?_ ?_; rotate_left 1; (· (intro W; go_simp <;> with_reducible rfl)); simp only [Act.put, List.setIfInBounds_toArray, List.set_cons_zero, List.set_cons_succ])
               | (refine reg_read_on (v := ?_) rfl (by rfl) ?_ ?_; rotate_left 1; (· (intro W hW; skip; go_simp <;> with_reducible rfl)); simp only [Act.put, List.setIfInBounds_toArray, List.set_cons_zero, List.set_cons_succ])
            have fj := hA1.frz (off + q)
            have cj2 := hA1.cell q (by simpa using hjn)
            have lg2 := hA1.lt
            refine reg_eff (by rfl) (by rfl) (fun K hK => ?_)
            go_simp
            refine hK _ _ (reg_done (qnp_normal ?_))
            clear hK K
            clear fi fj cj2 lg2 hA1
            clear cj cj1 lg
            have hmz : Mods (fun k => k = g) wo _ := hmf.trans hms (fun _ _ h => h)
            go_wp2
            exact ⟨⟨q, Sort.swp f j q, by have := hq1.out; omega, by have := hq1.out; omega, rfl, hAs, hins, hmz.drew.drew⟩, by simp [intOf]; have := hq1.out; omega⟩
          · have hsrt : SortedIn lz a (i + 1) f := by
              obtain rfl := hq1.out
              exact Ins.stop swo_ltInt hqf.out.2 (.inr (by
                have : lz f[q + 1]! f[q]! = false := by rw [lz_false, ← hx.out, ← hy.out]; omega
                simpa using this))
            have hfin := Lib.hid (And.intro hqf.out.1 hsrt)
            clear cj cj1 lg hsrt
            go_wp2
            exact ⟨⟨i + 1, f, by omega, by omega, by go_num, hAf, hfin.out, (hm.trans hmf (fun _ _ h => h)).drew⟩, by simp [intOf]; omega⟩
        · obtain rfl : j = a := by omega
          have hfin := Lib.hid (And.intro hqf.out.1 (Ins.stop swo_ltInt hqf.out.2 (.inl (Nat.le_refl _))))
          clear hja
          go_upto_region 4 with fail
          refine wp_region_plan [(.pure, 0), (.pure, 1), (.pure, 2), (.pure, 3), (.pure, 4), (.pure, 5), (.pure, 6), (.read, 7), (.pure, 8), (.pure, 9), (.pure, 10), (.pure, 11), (.read, 12), (.ben, 13), (.pure, 14)] 15 (fun W => Mods Nil (wr) W) mixed (by kernel_rfl) (by kernel_rfl) (by repeat (first | exact Mods.refl | apply Mods.drew)) ?_
          repeat first
             | (refine reg_pure (v := ?_) rfl rfl ?_ ?_; rotate_left 1; (· (intro W; go_simp <;> with_reducible rfl)); simp only [Act.put, List.setIfInBounds_toArray, List.set_cons_zero, List.set_cons_succ])
             | (refine reg_read (v := ?_) rfl rfl ?_ ?_; rotate_left 1; (· (intro W hW; have hW' := Mods.cells hW; go_simp <;> with_reducible rfl)); simp only [Act.put, List.setIfInBounds_toArray, List.set_cons_zero, List.set_cons_succ])
             | (refine reg_off (by rfl) (by rfl) ?_; simp only [Act.put, List.setIfInBounds_toArray, List.set_cons_zero, List.set_cons_succ])
             | (refine reg_pure_on (v := ?_) rfl (by rfl) ?_ ?_; rotate_left 1; (· (intro W; go_simp <;> with_reducible rfl)); simp only [Act.put, List.setIfInBounds_toArray, List.set_cons_zero, List.set_cons_succ])
             | (refine reg_read_on (v := ?_) rfl (by rfl) ?_ ?_; rotate_left 1; (· (intro W hW; have hW' := Mods.cells hW; go_simp <;> with_reducible rfl)); simp only [Act.put, List.setIfInBounds_toArray, List.set_cons_zero, List.set_cons_succ])
          refine reg_done (qnp_normal ?_)
          go_wp2
          exact ⟨⟨i + 1, f, by omega, by omega, by go_num, hAf, hfin.out, (hm.trans hmf (fun _ _ h => h)).drew⟩, by simp [intOf]; omega⟩
    · have hfin : PermIn a b d e ∧ SortedIn lz a b e := by
        obtain ⟨q1, q2⟩ := hq.out
        exact ⟨q1, fun p q h1 h2 h3 => q2 p q h1 h2 (by omega)⟩
      have hib : (b : Int) ≤ (i : Int) := by omega
      clear hlt
      go_wp2
      go_end0
      exact ⟨rfl, e, hAe, hfin.1, hfin.2, hm⟩
end Go.Proofs.Ytnnoicacpcahfaa
