/- slices.partitionEqualOrdered on uint64, walked. No condition. -/
import Derived.Test.YtnnoicacpcahfaaSortPtn
import Derived.Deep.CutBlock
namespace Go.Proofs.Ytnnoicacpcahfaa
open Go.RowKit Go.Sort



set_option maxRecDepth 100000 in
set_option maxHeartbeats 6400000 in
theorem partEqual_walk (w : World) (g off sz cap a b pv n : Nat) (d : Array Int) (hA : Arr g off sz d w) (hn : d.size = n) (hap : a ≤ pv) (hpb : pv < b) (hb : b ≤ n) (hsz : n < 4611686018427387904) :
    Calls Try.prog 112 #[.slice (some ⟨g, off, none⟩) n cap, .int .i64 a, .int .i64 b, .int .i64 pv] w
      fun e w' => ∃ (mid : Nat) (d' : Array Int), e = .returned (.int .i64 mid) ∧ Arr g off sz d' w' ∧ PartE a b d d[pv]! mid d' ∧ Mods (fun k => k = g) w w' := by
  have hszf := Lib.hid hn
  clear hn
  obtain ⟨px, hpx⟩ : ∃ px, px = d[pv]! := ⟨_, rfl⟩
  rw [← hpx]
  have hpx0 : Hid ((Sort.swp d a pv)[a]! = px) := by
    show _ = _
    rw [swp_get d (show a < d.size by rw [hszf.out]; omega) (show pv < d.size by rw [hszf.out]; omega), hpx]
    by_cases e : a = pv
    · subst e; simp
    · simp [e]
  clear hpx
  go_enter Try.func112, Try.ntmps112
  have hAf := hA
  -- the elements d[a] = x and d[pv] = y
  have hin : a < d.size := by rw [hszf.out]; omega
  have hjn : pv < d.size := by rw [hszf.out]; omega
  have ci := hAf.cell a hin
  have cj := hAf.cell pv hjn
  have lg := hAf.lt
  obtain ⟨x, hx⟩ : ∃ x, x = d[a]! := ⟨_, rfl⟩
  obtain ⟨y, hy⟩ : ∃ y, y = d[pv]! := ⟨_, rfl⟩
  rw [← hx] at ci
  rw [← hy] at cj
  replace hx := Lib.hid hx
  replace hy := Lib.hid hy
  have i1 : (0 : Int) ≤ (a : Int) := by omega
  have i2 : (a : Int) < (n : Int) := by omega
  have i3 : (0 : Int) ≤ (pv : Int) := by omega
  have i4 : (pv : Int) < (n : Int) := by omega
  -- from w: an exchange of a and pv (which hold x and y), in the region 1
  have hAs := hAf.swp a pv hin hjn
  have hA1 := hAf.set a hin y
  rw [← hx.out, ← hy.out] at hAs
  have hms : Mods (fun k => k = g) w ((w.setCell ⟨g, off + a, none⟩ (.int .u64 y)).setCell ⟨g, off + pv, none⟩ (.int .u64 x)) := (Arr.mods g _ w _).trans (Arr.mods g _ _ _) (fun _ _ h => h)
  go_upto_region 1 with fail
  refine wp_region_plan [(.pure, 0), (.pure, 1), (.pure, 2), (.pure, 3), (.pure, 4), (.pure, 5), (.pure, 6), (.read, 7), (.pure, 8), (.pure, 9), (.pure, 10), (.read, 11), (.pure, 12), (.eff, 13), (.pure, 14), (.eff, 15)] 13 (fun W => Mods Nil (w) W) mixed (by kernel_rfl) (by kernel_rfl) (by repeat (first | exact Mods.refl | apply Mods.drew)) ?_
  repeat first
     | (refine reg_pure (v := ?_) rfl rfl ?_ ?_; rotate_left 1; (· (intro W; go_simp <;> with_reducible rfl)); simp only [Act.put, List.setIfInBounds_toArray, List.set_cons_zero, List.set_cons_succ])
     | (refine reg_read (v := ?_) rfl rfl ?_ ?_; rotate_left 1; (· (intro W hW; have hW' := Mods.cells hW; go_simp <;> with_reducible rfl)); simp only [Act.put, List.setIfInBounds_toArray, List.set_cons_zero, List.set_cons_succ])
     | (refine reg_off (by rfl) (by rfl) ?_; simp only [Act.put, List.setIfInBounds_toArray, List.set_cons_zero, List.set_cons_succ])
     | (refine reg_pure_on (v := ?_) rfl (by rfl) ?_ ?_; rotate_left 1; (· (intro W; go_simp <;> with_reducible rfl)); simp only [Act.put, List.setIfInBounds_toArray, List.set_cons_zero, List.set_cons_succ])
     | (refine reg_read_on (v := ?_) rfl (by rfl) ?_ ?_; rotate_left 1; (· (intro W hW; have hW' := Mods.cells hW; go_simp <;> with_reducible rfl)); simp only [Act.put, List.setIfInBounds_toArray, List.set_cons_zero, List.set_cons_succ])
  have fi := hAf.frz (off + a)
  refine reg_eff (by rfl) (by rfl) (fun K hK => ?_)
  go_simp
  refine hK _ _ ?_
  clear hK K
  try simp only [Act.put, List.setIfInBounds_toArray, List.set_cons_zero, List.set_cons_succ]
  repeat first
     | (refine reg_pure (v := ?_) rfl rfl ?_ ?_; rotate_left 1; (· (intro W; go_simp <;> with_reducible rfl)); simp only [Act.put, List.setIfInBounds_toArray, List.set_cons_zero, List.set_cons_succ])
     | (refine reg_read (v := ?_) rfl rfl ?_ ?_; rotate_left 1; (· (intro W hW; skip; go_simp <;> with_reducible rfl)); simp only [Act.put, List.setIfInBounds_toArray, List.set_cons_zero, List.set_cons_succ])
     | (refine reg_off (by rfl) (by rfl) ?_; simp only [Act.put, List.setIfInBounds_toArray, List.set_cons_zero, List.set_cons_succ])
     | (refine reg_pure_on (v := ?_) rfl (by rfl) ?_ ?_; rotate_left 1; (· (intro W; go_simp <;> with_reducible rfl)); simp only [Act.put, List.setIfInBounds_toArray, List.set_cons_zero, List.set_cons_succ])
     | (refine reg_read_on (v := ?_) rfl (by rfl) ?_ ?_; rotate_left 1; (· (intro W hW; skip; go_simp <;> with_reducible rfl)); simp only [Act.put, List.setIfInBounds_toArray, List.set_cons_zero, List.set_cons_succ])
  have fj := hA1.frz (off + pv)
  have cj2 := hA1.cell pv (by simpa using hjn)
  have lg2 := hA1.lt
  refine reg_eff (by rfl) (by rfl) (fun K hK => ?_)
  go_simp
  refine hK _ _ (reg_done (qnp_normal ?_))
  clear hK K
  clear fi fj cj2 lg2 hA1
  have hm0 := hms.drew
  have hAf : Arr g off sz (Sort.swp d a pv) _ := Arr.drew hAs
  have hMid : Hid (MidE a b d (Sort.swp d a pv) (a + 1) (b - 1)) := MidE.start (swp_permIn _ _ _ _ _ (Nat.le_refl _) (by omega) hap hpb (by rw [hszf.out]; omega)) (by omega)
  have hszf : Hid ((Sort.swp d a pv).size = n) := by show _ = _; rw [swp_size]; exact hszf.out
  clear ci cj lg hin hjn i1 i2 i3 i4 hx hy hAs hms hA
  generalize ((w.setCell ⟨g, off + a, none⟩ (.int .u64 y)).setCell ⟨g, off + pv, none⟩ (.int .u64 x)).drew = w1 at *
  obtain ⟨f1, hf⟩ : ∃ f, f = Sort.swp d a pv := ⟨_, rfl⟩
  rw [← hf] at hAf hMid hszf hpx0
  clear hf
  go_wp2_with fail
  go_loopw [9, 10] (fun s9 s10 wr => ∃ (i0 j0 : Nat) (f : Array Int), s9 = .int .i64 i0 ∧ s10 = .int .i64 j0 ∧ Arr g off sz f wr ∧ Hid (MidE a b d f i0 j0) ∧ Hid (f[a]! = px) ∧ f.size = n ∧ Mods (fun k => k = g) w wr) (fun s9 s10 _ => (intOf s10 + 1 - intOf s9).toNat)
  case atStart => exact ⟨a + 1, b - 1, f1, by go_num, by rw [show (b : Int) - 1 = ((b - 1 : Nat) : Int) by omega], hAf, hMid.out, hpx0.out, hszf.out, hm0⟩
  case round =>
    clear hMid hAf hszf hm0 hpx0
    obtain ⟨i0, j0, f, rfl, rfl, hAf, hMid, hpx, hszf0, hmf⟩ := hrel
    have hszf := Lib.hid hszf0
    clear hszf0
    have hai0 : a < i0 := hMid.out.ai
    have hij0 : i0 ≤ j0 + 1 := hMid.out.ij
    have hjb0 : j0 < b := hMid.out.jb
    obtain ⟨wo, hwo⟩ : ∃ wo, wo = wr := ⟨_, rfl⟩
    rw [← hwo] at hAf hmf ⊢
    clear hwo
    -- the scan from i0 on: world W, array f, hMid : Hid (MidE a b d f i0 j0)
    go_upto_block 2 with fail
    go_cut [9] (fun s9 wc => ∃ i, i0 ≤ i ∧ i ≤ j0 + 1 ∧ s9 = .int .i64 (i : Nat) ∧ Hid (MidE a b d f i j0 ∧ (j0 < i ∨ f[a]! < f[i]!)) ∧ Mods Nil wo wc)
    case first =>
      go_wp2_with fail
      go_loopw [9] (fun s9 wr => ∃ i : Nat, i0 ≤ i ∧ i ≤ j0 + 1 ∧ s9 = .int .i64 i ∧ Hid (MidE a b d f i j0) ∧ Mods Nil wo wr) (fun s9 _ => j0 + 1 - (intOf s9).toNat)
      case atStart => exact ⟨i0, by omega, by omega, rfl, hMid.out, Mods.refl⟩
      case round =>
        clear hMid
        obtain ⟨i, hii, hij1, rfl, hMid, hmr⟩ := hrel
        replace hAf := hAf.keep hmr id
        by_cases hij : i ≤ j0
        · have hijz : decide ((i : Int) ≤ (j0 : Int)) = true := by simp; omega
          -- the elements f[a] = x and f[i] = y
          have hin : a < f.size := by rw [hszf.out]; omega
          have hjn : i < f.size := by rw [hszf.out]; omega
          have ci := hAf.cell a hin
          have cj := hAf.cell i hjn
          have lg := hAf.lt
          obtain ⟨x, hx⟩ : ∃ x, x = f[a]! := ⟨_, rfl⟩
          obtain ⟨y, hy⟩ : ∃ y, y = f[i]! := ⟨_, rfl⟩
          rw [← hx] at ci
          rw [← hy] at cj
          replace hx := Lib.hid hx
          replace hy := Lib.hid hy
          have i1 : (0 : Int) ≤ (a : Int) := by omega
          have i2 : (a : Int) < (n : Int) := by omega
          have i3 : (0 : Int) ≤ (i : Int) := by omega
          have i4 : (i : Int) < (n : Int) := by omega
          obtain ⟨tb, htb⟩ : ∃ tb, tb = decide (x < y) := ⟨_, rfl⟩
          replace htb := Lib.hid htb
          go_upto_region 3 with fail
          refine wp_region_plan [(.pure, 0), (.pure, 1), (.pure, 2), (.pure, 3), (.pure, 4), (.pure, 5), (.pure, 6), (.read, 7), (.pure, 8), (.pure, 9), (.pure, 10), (.read, 11), (.ben, 12), (.pure, 13), (.pure, 14)] 15 (fun W => Mods Nil (wr) W) mixed (by kernel_rfl) (by kernel_rfl) (by repeat (first | exact Mods.refl | apply Mods.drew)) ?_
          repeat first
             | (refine reg_pure (v := ?_) rfl rfl ?_ ?_; rotate_left 1; (· (intro W; go_simp <;> with_reducible rfl)); simp only [Act.put, List.setIfInBounds_toArray, List.set_cons_zero, List.set_cons_succ])
             | (refine reg_read (v := ?_) rfl rfl ?_ ?_; rotate_left 1; (· (intro W hW; have hW' := Mods.cells hW; go_simp <;> with_reducible rfl)); simp only [Act.put, List.setIfInBounds_toArray, List.set_cons_zero, List.set_cons_succ])
             | (refine reg_off (by rfl) (by rfl) ?_; simp only [Act.put, List.setIfInBounds_toArray, List.set_cons_zero, List.set_cons_succ])
             | (refine reg_pure_on (v := ?_) rfl (by rfl) ?_ ?_; rotate_left 1; (· (intro W; go_simp <;> with_reducible rfl)); simp only [Act.put, List.setIfInBounds_toArray, List.set_cons_zero, List.set_cons_succ])
             | (refine reg_read_on (v := ?_) rfl (by rfl) ?_ ?_; rotate_left 1; (· (intro W hW; have hW' := Mods.cells hW; go_simp <;> with_reducible rfl)); simp only [Act.put, List.setIfInBounds_toArray, List.set_cons_zero, List.set_cons_succ])
          refine reg_ben_on (by rfl) (by rfl) (fun K hK => ?_)
          go_simp
          refine (less_walk _ _ _).mono ?_
          rintro ev wl ⟨rfl, rfl⟩
          rw [← htb.out]
          refine hK _ _ (by repeat (first | exact Mods.refl | apply Mods.drew)) ?_
          clear hK K
          try simp only [Act.put, List.setIfInBounds_toArray, List.set_cons_zero, List.set_cons_succ]
          repeat first
             | (refine reg_pure (v := ?_) rfl rfl ?_ ?_; rotate_left 1; (· (intro W; go_simp <;> with_reducible rfl)); simp only [Act.put, List.setIfInBounds_toArray, List.set_cons_zero, List.set_cons_succ])
             | (refine reg_read (v := ?_) rfl rfl ?_ ?_; rotate_left 1; (· (intro W hW; skip; go_simp <;> with_reducible rfl)); simp only [Act.put, List.setIfInBounds_toArray, List.set_cons_zero, List.set_cons_succ])
             | (refine reg_off (by rfl) (by rfl) ?_; simp only [Act.put, List.setIfInBounds_toArray, List.set_cons_zero, List.set_cons_succ])
             | (refine reg_pure_on (v := ?_) rfl (by rfl) ?_ ?_; rotate_left 1; (· (intro W; go_simp <;> with_reducible rfl)); simp only [Act.put, List.setIfInBounds_toArray, List.set_cons_zero, List.set_cons_succ])
             | (refine reg_read_on (v := ?_) rfl (by rfl) ?_ ?_; rotate_left 1; (· (intro W hW; skip; go_simp <;> with_reducible rfl)); simp only [Act.put, List.setIfInBounds_toArray, List.set_cons_zero, List.set_cons_succ])
          refine reg_done (qnp_normal ?_)
          clear ci cj lg hin hjn i1 i2 i3 i4
          cases tb with
          | false =>
            have hxy : ¬ x < y := of_decide_eq_false htb.out.symm
            have hM2 : Hid (MidE a b d f (i + 1) j0) := hMid.out.up hij (by rw [← hx.out, ← hy.out]; omega)
            clear hxy hijz
            go_wp2
            exact ⟨⟨i + 1, by omega, by omega, by go_num, hM2.out, hmr.drew⟩, by simp [intOf]; omega⟩
          | true =>
            have hxy : x < y := of_decide_eq_true htb.out.symm
            have hM2 : Hid (MidE a b d f i j0 ∧ (j0 < i ∨ f[a]! < f[i]!)) := ⟨hMid.out, .inr (by rw [← hx.out, ← hy.out]; exact hxy)⟩
            clear hxy hijz
            go_wp2
            go_meet
            exact ⟨i, hii, hij1, rfl, hM2.out, hmr.drew⟩
        · have hijz : decide (i ≤ j0) = false := by simp; omega
          have hM2 : Hid (MidE a b d f i j0 ∧ (j0 < i ∨ f[a]! < f[i]!)) := ⟨hMid.out, .inl (by omega)⟩
          clear hij
          go_upto_region 3 with fail
          refine wp_region_plan [(.pure, 0), (.pure, 1), (.pure, 2), (.pure, 3), (.pure, 4), (.pure, 5), (.pure, 6), (.read, 7), (.pure, 8), (.pure, 9), (.pure, 10), (.read, 11), (.ben, 12), (.pure, 13), (.pure, 14)] 15 (fun W => Mods Nil (wr) W) mixed (by kernel_rfl) (by kernel_rfl) (by repeat (first | exact Mods.refl | apply Mods.drew)) ?_
          repeat first
             | (refine reg_pure (v := ?_) rfl rfl ?_ ?_; rotate_left 1; (· (intro W; go_simp <;> with_reducible rfl)); simp only [Act.put, List.setIfInBounds_toArray, List.set_cons_zero, List.set_cons_succ])
             | (refine reg_read (v := ?_) rfl rfl ?_ ?_; rotate_left 1; (· (intro W hW; have hW' := Mods.cells hW; go_simp <;> with_reducible rfl)); simp only [Act.put, List.setIfInBounds_toArray, List.set_cons_zero, List.set_cons_succ])
             | (refine reg_off (by rfl) (by rfl) ?_; simp only [Act.put, List.setIfInBounds_toArray, List.set_cons_zero, List.set_cons_succ])
             | (refine reg_pure_on (v := ?_) rfl (by rfl) ?_ ?_; rotate_left 1; (· (intro W; go_simp <;> with_reducible rfl)); simp only [Act.put, List.setIfInBounds_toArray, List.set_cons_zero, List.set_cons_succ])
             | (refine reg_read_on (v := ?_) rfl (by rfl) ?_ ?_; rotate_left 1; (· (intro W hW; have hW' := Mods.cells hW; go_simp <;> with_reducible rfl)); simp only [Act.put, List.setIfInBounds_toArray, List.set_cons_zero, List.set_cons_succ])
          refine reg_done (qnp_normal ?_)
          go_wp2
          go_meet
          exact ⟨i, hii, hij1, rfl, hM2.out, hmr.drew⟩
    case rest =>
      -- from hcut of UP to DOWN
      clear hMid hai0 hij0 hjb0
      obtain ⟨i0, hii, hij0, rfl, hUp, hmu⟩ := hcut
      replace hAf := hAf.keep hmu id
      have hmw := hmf.trans hmu (fun _ _ h => h.elim)
      have hai0 : a < i0 := hUp.out.1.ai
      have hjb0 : j0 < b := hUp.out.1.jb
      clear hmu
      obtain ⟨w2, hw2⟩ : ∃ w2, w2 = wc := ⟨_, rfl⟩
      rw [← hw2] at hAf hmw ⊢
      clear hw2
      -- the scan from j0 down: world W, array f, hUp : Hid (MidE a b d f i0 j0 ∧ ..)
      go_upto_block 4 with fail
      go_cut [10] (fun s10 wc => ∃ j, j ≤ j0 ∧ s10 = .int .i64 (j : Nat) ∧ Hid (MidE a b d f i0 j ∧ (j < i0 ∨ f[a]! < f[i0]!) ∧ (j < i0 ∨ f[j]! ≤ f[a]!)) ∧ Mods Nil w2 wc)
      case first =>
        go_wp2_with fail
        go_loopw [10] (fun s10 wr => ∃ j : Nat, j ≤ j0 ∧ i0 ≤ j + 1 ∧ s10 = .int .i64 j ∧ Hid (MidE a b d f i0 j ∧ (j < i0 ∨ f[a]! < f[i0]!)) ∧ Mods Nil w2 wr) (fun s10 _ => (intOf s10).toNat)
        case atStart => exact ⟨j0, by omega, by omega, rfl, hUp.out, Mods.refl⟩
        case round =>
          clear hUp
          obtain ⟨j, hjj, hij1, rfl, hMid, hmr⟩ := hrel
          replace hAf := hAf.keep hmr id
          by_cases hij : i0 ≤ j
          · have hijz : decide ((i0 : Int) ≤ (j : Int)) = true := by simp; omega
            -- the elements f[a] = x and f[j] = y
            have hin : a < f.size := by rw [hszf.out]; omega
            have hjn : j < f.size := by rw [hszf.out]; omega
            have ci := hAf.cell a hin
            have cj := hAf.cell j hjn
            have lg := hAf.lt
            obtain ⟨x, hx⟩ : ∃ x, x = f[a]! := ⟨_, rfl⟩
            obtain ⟨y, hy⟩ : ∃ y, y = f[j]! := ⟨_, rfl⟩
            rw [← hx] at ci
            rw [← hy] at cj
            replace hx := Lib.hid hx
            replace hy := Lib.hid hy
            have i1 : (0 : Int) ≤ (a : Int) := by omega
            have i2 : (a : Int) < (n : Int) := by omega
            have i3 : (0 : Int) ≤ (j : Int) := by omega
            have i4 : (j : Int) < (n : Int) := by omega
            obtain ⟨tb, htb⟩ : ∃ tb, tb = decide (x < y) := ⟨_, rfl⟩
            replace htb := Lib.hid htb
            go_upto_region 5 with fail
            refine wp_region_plan [(.pure, 0), (.pure, 1), (.pure, 2), (.pure, 3), (.pure, 4), (.pure, 5), (.pure, 6), (.read, 7), (.pure, 8), (.pure, 9), (.pure, 10), (.read, 11), (.ben, 12), (.pure, 13)] 14 (fun W => Mods Nil (wr) W) mixed (by kernel_rfl) (by kernel_rfl) (by repeat (first | exact Mods.refl | apply Mods.drew)) ?_
            repeat first
               | (refine reg_pure (v := ?_) rfl rfl ?_ ?_; rotate_left 1; (· (intro W; go_simp <;> with_reducible rfl)); simp only [Act.put, List.setIfInBounds_toArray, List.set_cons_zero, List.set_cons_succ])
               | (refine reg_read (v := ?_) rfl rfl ?_ ?_; rotate_left 1; (· (intro W hW; have hW' := Mods.cells hW; go_simp <;> with_reducible rfl)); simp only [Act.put, List.setIfInBounds_toArray, List.set_cons_zero, List.set_cons_succ])
               | (refine reg_off (by rfl) (by rfl) ?_; simp only [Act.put, List.setIfInBounds_toArray, List.set_cons_zero, List.set_cons_succ])
               | (refine reg_pure_on (v := ?_) rfl (by rfl) ?_ ?_; rotate_left 1; (· (intro W; go_simp <;> with_reducible rfl)); simp only [Act.put, List.setIfInBounds_toArray, List.set_cons_zero, List.set_cons_succ])
               | (refine reg_read_on (v := ?_) rfl (by rfl) ?_ ?_; rotate_left 1; (· (intro W hW; have hW' := Mods.cells hW; go_simp <;> with_reducible rfl)); simp only [Act.put, List.setIfInBounds_toArray, List.set_cons_zero, List.set_cons_succ])
            refine reg_ben_on (by rfl) (by rfl) (fun K hK => ?_)
            go_simp
            refine (less_walk _ _ _).mono ?_
            rintro ev wl ⟨rfl, rfl⟩
            rw [← htb.out]
            refine hK _ _ (by repeat (first | exact Mods.refl | apply Mods.drew)) ?_
            clear hK K
            try simp only [Act.put, List.setIfInBounds_toArray, List.set_cons_zero, List.set_cons_succ]
            repeat first
               | (refine reg_pure (v := ?_) rfl rfl ?_ ?_; rotate_left 1; (· (intro W; go_simp <;> with_reducible rfl)); simp only [Act.put, List.setIfInBounds_toArray, List.set_cons_zero, List.set_cons_succ])
               | (refine reg_read (v := ?_) rfl rfl ?_ ?_; rotate_left 1; (· (intro W hW; skip; go_simp <;> with_reducible rfl)); simp only [Act.put, List.setIfInBounds_toArray, List.set_cons_zero, List.set_cons_succ])
               | (refine reg_off (by rfl) (by rfl) ?_; simp only [Act.put, List.setIfInBounds_toArray, List.set_cons_zero, List.set_cons_succ])
               | (refine reg_pure_on (v := ?_) rfl (by rfl) ?_ ?_; rotate_left 1; (· (intro W; go_simp <;> with_reducible rfl)); simp only [Act.put, List.setIfInBounds_toArray, List.set_cons_zero, List.set_cons_succ])
               | (refine reg_read_on (v := ?_) rfl (by rfl) ?_ ?_; rotate_left 1; (· (intro W hW; skip; go_simp <;> with_reducible rfl)); simp only [Act.put, List.setIfInBounds_toArray, List.set_cons_zero, List.set_cons_succ])
            refine reg_done (qnp_normal ?_)
            clear ci cj lg hin hjn i1 i2 i3 i4
            cases tb with
            | true =>
              have hxy : x < y := of_decide_eq_true htb.out.symm
              have hM2 : Hid (MidE a b d f i0 (j - 1) ∧ (j - 1 < i0 ∨ f[a]! < f[i0]!)) := ⟨hMid.out.1.down hij (by rw [← hx.out, ← hy.out]; exact hxy), hMid.out.2.imp (by omega) id⟩
              clear hxy hijz
              go_wp2
              exact ⟨⟨j - 1, by omega, by omega, by rw [show (j : Int) - 1 = ((j - 1 : Nat) : Int) by omega], hM2.out, hmr.drew⟩, by simp [intOf]; omega⟩
            | false =>
              have hxy : ¬ x < y := of_decide_eq_false htb.out.symm
              have hM2 : Hid (MidE a b d f i0 j ∧ (j < i0 ∨ f[a]! < f[i0]!) ∧ (j < i0 ∨ f[j]! ≤ f[a]!)) := ⟨hMid.out.1, hMid.out.2, .inr (by rw [← hx.out, ← hy.out]; omega)⟩
              clear hxy hijz
              go_wp2
              go_meet
              exact ⟨j, hjj, rfl, hM2.out, hmr.drew⟩
          · have hijz : decide (i0 ≤ j) = false := by simp; omega
            have hM2 : Hid (MidE a b d f i0 j ∧ (j < i0 ∨ f[a]! < f[i0]!) ∧ (j < i0 ∨ f[j]! ≤ f[a]!)) := ⟨hMid.out.1, hMid.out.2, .inl (by omega)⟩
            clear hij
            go_upto_region 5 with fail
            refine wp_region_plan [(.pure, 0), (.pure, 1), (.pure, 2), (.pure, 3), (.pure, 4), (.pure, 5), (.pure, 6), (.read, 7), (.pure, 8), (.pure, 9), (.pure, 10), (.read, 11), (.ben, 12), (.pure, 13)] 14 (fun W => Mods Nil (wr) W) mixed (by kernel_rfl) (by kernel_rfl) (by repeat (first | exact Mods.refl | apply Mods.drew)) ?_
            repeat first
               | (refine reg_pure (v := ?_) rfl rfl ?_ ?_; rotate_left 1; (· (intro W; go_simp <;> with_reducible rfl)); simp only [Act.put, List.setIfInBounds_toArray, List.set_cons_zero, List.set_cons_succ])
               | (refine reg_read (v := ?_) rfl rfl ?_ ?_; rotate_left 1; (· (intro W hW; have hW' := Mods.cells hW; go_simp <;> with_reducible rfl)); simp only [Act.put, List.setIfInBounds_toArray, List.set_cons_zero, List.set_cons_succ])
               | (refine reg_off (by rfl) (by rfl) ?_; simp only [Act.put, List.setIfInBounds_toArray, List.set_cons_zero, List.set_cons_succ])
               | (refine reg_pure_on (v := ?_) rfl (by rfl) ?_ ?_; rotate_left 1; (· (intro W; go_simp <;> with_reducible rfl)); simp only [Act.put, List.setIfInBounds_toArray, List.set_cons_zero, List.set_cons_succ])
               | (refine reg_read_on (v := ?_) rfl (by rfl) ?_ ?_; rotate_left 1; (· (intro W hW; have hW' := Mods.cells hW; go_simp <;> with_reducible rfl)); simp only [Act.put, List.setIfInBounds_toArray, List.set_cons_zero, List.set_cons_succ])
            refine reg_done (qnp_normal ?_)
            go_wp2
            go_meet
            exact ⟨j, hjj, rfl, hM2.out, hmr.drew⟩
      case rest =>
        -- from hcut of DOWN on
        clear hUp hij0 hjb0
        obtain ⟨j, hjj, rfl, hEnd, hmu⟩ := hcut
        replace hAf := hAf.keep hmu id
        have hmz := hmw.trans hmu (fun _ _ h => h.elim)
        clear hmu hmw
        have hij0 : i0 ≤ j + 1 := hEnd.out.1.ij
        have hjb0 : j < b := hEnd.out.1.jb
        obtain ⟨w3, hw3⟩ : ∃ w3, w3 = wc := ⟨_, rfl⟩
        rw [← hw3] at hAf hmz ⊢
        clear hw3
        by_cases hji : j < i0
        · have hpr : Hid (PartE a b d px i0 f) := by have := hEnd.out.1.fin hji; rw [hpx.out] at this; exact this
          have hjiz : decide ((j : Int) < (i0 : Int)) = true := by simp; omega
          clear hEnd
          go_wp2
          go_ret
          exact ⟨i0, f, rfl, hAf, hpr.out, hmz⟩
        · replace hji : i0 ≤ j := by omega
          have hsw := hEnd.out.1.swap hji (by rw [hszf.out]; exact hb) (hEnd.out.2.1.resolve_left (by omega)) (hEnd.out.2.2.resolve_left (by omega))
          have hij : i0 < j := hsw.1
          have hMid := Lib.hid hsw.2.1
          have hpx2 : Hid ((Sort.swp f i0 j)[a]! = px) := by show _ = _; rw [hsw.2.2]; exact hpx.out
          have hjiz : decide ((j : Int) < (i0 : Int)) = false := by simp; omega
          clear hEnd hsw
          -- the elements f[i0] = x and f[j] = y
          have hin : i0 < f.size := by rw [hszf.out]; omega
          have hjn : j < f.size := by rw [hszf.out]; omega
          have ci := hAf.cell i0 hin
          have cj := hAf.cell j hjn
          have lg := hAf.lt
          obtain ⟨x, hx⟩ : ∃ x, x = f[i0]! := ⟨_, rfl⟩
          obtain ⟨y, hy⟩ : ∃ y, y = f[j]! := ⟨_, rfl⟩
          rw [← hx] at ci
          rw [← hy] at cj
          replace hx := Lib.hid hx
          replace hy := Lib.hid hy
          have i1 : (0 : Int) ≤ (i0 : Int) := by omega
          have i2 : (i0 : Int) < (n : Int) := by omega
          have i3 : (0 : Int) ≤ (j : Int) := by omega
          have i4 : (j : Int) < (n : Int) := by omega
          -- from w3: an exchange of i0 and j (which hold x and y), in the region 8
          have hAs := hAf.swp i0 j hin hjn
          have hA1 := hAf.set i0 hin y
          rw [← hx.out, ← hy.out] at hAs
          have hms : Mods (fun k => k = g) w3 ((w3.setCell ⟨g, off + i0, none⟩ (.int .u64 y)).setCell ⟨g, off + j, none⟩ (.int .u64 x)) := (Arr.mods g _ w3 _).trans (Arr.mods g _ _ _) (fun _ _ h => h)
          go_upto_region 8 with fail
          refine wp_region_plan [(.pure, 0), (.pure, 1), (.pure, 2), (.pure, 3), (.pure, 4), (.pure, 5), (.pure, 6), (.read, 7), (.pure, 8), (.pure, 9), (.pure, 10), (.read, 11), (.pure, 12), (.eff, 13), (.pure, 14), (.eff, 15)] 13 (fun W => Mods Nil (w3) W) mixed (by kernel_rfl) (by kernel_rfl) (by repeat (first | exact Mods.refl | apply Mods.drew)) ?_
          repeat first
             | (refine reg_pure (v := ?_) rfl rfl ?_ ?_; rotate_left 1; (· (intro W; go_simp <;> with_reducible rfl)); simp only [Act.put, List.setIfInBounds_toArray, List.set_cons_zero, List.set_cons_succ])
             | (refine reg_read (v := ?_) rfl rfl ?_ ?_; rotate_left 1; (· (intro W hW; have hW' := Mods.cells hW; go_simp <;> with_reducible rfl)); simp only [Act.put, List.setIfInBounds_toArray, List.set_cons_zero, List.set_cons_succ])
             | (refine reg_off (by rfl) (by rfl) ?_; simp only [Act.put, List.setIfInBounds_toArray, List.set_cons_zero, List.set_cons_succ])
             | (refine reg_pure_on (v := ?_) rfl (by rfl) ?_ ?_; rotate_left 1; (· (intro W; go_simp <;> with_reducible rfl)); simp only [Act.put, List.setIfInBounds_toArray, List.set_cons_zero, List.set_cons_succ])
             | (refine reg_read_on (v := ?_) rfl (by rfl) ?_ ?_; rotate_left 1; (· (intro W hW; have hW' := Mods.cells hW; go_simp <;> with_reducible rfl)); simp only [Act.put, List.setIfInBounds_toArray, List.set_cons_zero, List.set_cons_succ])
          have fi := hAf.frz (off + i0)
          refine reg_eff (by rfl) (by rfl) (fun K hK => ?_)
          go_simp
          refine hK _ _ ?_
          clear hK K
          try simp only [Act.put, List.setIfInBounds_toArray, List.set_cons_zero, List.set_cons_succ]
          repeat first
             | (refine reg_pure (v := ?_) rfl rfl ?_ ?_; rotate_left 1; (· (intro W; go_simp <;> with_reducible rfl)); simp only [Act.put, List.setIfInBounds_toArray, List.set_cons_zero, List.set_cons_succ])
             | (refine reg_read (v := ?_) rfl rfl ?_ ?_; rotate_left 1; (· (intro W hW; skip; go_simp <;> with_reducible rfl)); simp only [Act.put, List.setIfInBounds_toArray, List.set_cons_zero, List.set_cons_succ])
             | (refine reg_off (by rfl) (by rfl) ?_; simp only [Act.put, List.setIfInBounds_toArray, List.set_cons_zero, List.set_cons_succ])
             | (refine reg_pure_on (v := ?_) rfl (by rfl) ?_ ?_; rotate_left 1; (· (intro W; go_simp <;> with_reducible rfl)); simp only [Act.put, List.setIfInBounds_toArray, List.set_cons_zero, List.set_cons_succ])
             | (refine reg_read_on (v := ?_) rfl (by rfl) ?_ ?_; rotate_left 1; (· (intro W hW; skip; go_simp <;> with_reducible rfl)); simp only [Act.put, List.setIfInBounds_toArray, List.set_cons_zero, List.set_cons_succ])
          have fj := hA1.frz (off + j)
          have cj2 := hA1.cell j (by simpa using hjn)
          have lg2 := hA1.lt
          refine reg_eff (by rfl) (by rfl) (fun K hK => ?_)
          go_simp
          refine hK _ _ (reg_done (qnp_normal ?_))
          clear hK K
          clear fi fj cj2 lg2 hA1
          clear ci cj lg hjiz
          have hmf := (hmz.trans hms (fun _ _ h => h)).drew
          have hszg : Hid ((Sort.swp f i0 j).size = n) := by show _ = _; rw [swp_size]; exact hszf.out
          have hAg : Arr g off sz (Sort.swp f i0 j) _ := Arr.drew hAs
          clear hAs hms hAf hin hjn hx hy i1 i2 i3 i4
          go_wp2
          exact ⟨⟨i0 + 1, j - 1, Sort.swp f i0 j, by go_num, by rw [show (j : Int) - 1 = ((j - 1 : Nat) : Int) by omega], hAg, hMid.out, hpx2.out, hszg.out, hmf⟩, by simp [intOf]; omega⟩
end Go.Proofs.Ytnnoicacpcahfaa
