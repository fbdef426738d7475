/- slices.reverseRange, xorshift, nextPowerOfTwo, breakPatternsOrdered on uint64, walked: the part's order alone is turned. No condition. -/
import Derived.Test.YtnnoicacpcahfaaSortPivot
import Derived.Laws.Bits64
import Derived.Laws.Bits64b
import Derived.Sort.Walk7a
import Derived.Sort.WalkA14
import Derived.Sort.LotD1
import Derived.Test.YtnnoicacpcahfaaShelfBits
namespace Go.Proofs.Ytnnoicacpcahfaa
open Go.RowKit Go.Sort


set_option maxRecDepth 100000 in
set_option maxHeartbeats 1600000 in
theorem reverse_walk (w : World) (g off sz cap a b n : Nat) (d : Array Int) (hA : Arr g off sz d w) (hn : d.size = n) (hab : a < b) (hb : b ≤ n) (hsz : n < 4611686018427387904) :
    Calls Try.prog 109 #[.slice (some ⟨g, off, none⟩) n cap, .int .i64 a, .int .i64 b] w
      fun e w' => e = .returned (.tuple #[]) ∧ ∃ d', Arr g off sz d' w' ∧ PermIn a b d d' ∧ Mods (fun k => k = g) w w' := by
  replace hn := Lib.hid hn
  go_enter Try.func109, Try.ntmps109
  go_wp2_with fail
  go_loopw [6, 7] (fun s6 s7 wr => ∃ (i j : Nat) (f : Array Int), a ≤ i ∧ j < b ∧ s6 = .int .i64 i ∧ s7 = .int .i64 j ∧ Arr g off sz f wr ∧ Hid (PermIn a b d f) ∧ Mods (fun k => k = g) w wr) (fun _ s7 _ => (intOf s7).toNat)
  case atStart => exact ⟨a, b - 1, d, Nat.le_refl _, by omega, rfl, by rw [show (b : Int) - 1 = ((b - 1 : Nat) : Int) by omega], hA, permIn_refl _ _ _, Mods.refl⟩
  case round =>
    obtain ⟨i, j, f, hi, hj, rfl, rfl, hAf, hp, hm⟩ := hrel
    have hszf : Hid (f.size = n) := hp.out.1.trans hn.out
    by_cases hij : i < j
    · -- the elements f[i] = x and f[j] = y
      have hin : i < f.size := by rw [hszf.out]; omega
      have hjn : j < f.size := by rw [hszf.out]; omega
      have ci := hAf.cell i hin
      have cj := hAf.cell j hjn
      have lg := hAf.lt
      obtain ⟨x, hx⟩ : ∃ x, x = f[i]! := ⟨_, rfl⟩
      obtain ⟨y, hy⟩ : ∃ y, y = f[j]! := ⟨_, rfl⟩
      rw [← hx] at ci
      rw [← hy] at cj
      replace hx := Lib.hid hx
      replace hy := Lib.hid hy
      have i1 : (0 : Int) ≤ (i : Int) := by omega
      have i2 : (i : Int) < (n : Int) := by omega
      have i3 : (0 : Int) ≤ (j : Int) := by omega
      have i4 : (j : Int) < (n : Int) := by omega
      have hp2 : Hid (PermIn a b d (Sort.swp f i j)) := permIn_trans _ _ _ _ _ hp.out (swp_permIn _ _ _ _ _ hi (by omega) (by omega) hj (by rw [hszf.out]; omega))
      have hijz : decide ((i : Int) < (j : Int)) = true := by simp; omega
      -- from wr: an exchange of i and j (which hold x and y), in the region 3
      have hAs := hAf.swp i j hin hjn
      have hA1 := hAf.set i hin y
      rw [← hx.out, ← hy.out] at hAs
      have hms : Mods (fun k => k = g) wr ((wr.setCell ⟨g, off + i, none⟩ (.int .u64 y)).setCell ⟨g, off + j, none⟩ (.int .u64 x)) := (Arr.mods g _ wr _).trans (Arr.mods g _ _ _) (fun _ _ h => h)
      go_upto_region 3 with fail
      refine wp_region_plan [(.pure, 0), (.pure, 1), (.pure, 2), (.pure, 3), (.pure, 4), (.pure, 5), (.pure, 6), (.read, 7), (.pure, 8), (.pure, 9), (.pure, 10), (.read, 11), (.pure, 12), (.eff, 13), (.pure, 14), (.eff, 15)] 13 (fun W => Mods Nil (wr) W) mixed (by kernel_rfl) (by kernel_rfl) (by repeat (first | exact Mods.refl | apply Mods.drew)) ?_
      repeat first
         | (refine reg_pure (v := ?_) rfl rfl ?_ ?_; rotate_left 1; (· (intro W; go_simp <;> with_reducible rfl)); simp only [Act.put, List.setIfInBounds_toArray, List.set_cons_zero, List.set_cons_succ])
         | (refine reg_read (v := ?_) rfl rfl ?_ ?_; rotate_left 1; (· (intro W hW; have hW' := Mods.cells hW; go_simp <;> with_reducible rfl)); simp only [Act.put, List.setIfInBounds_toArray, List.set_cons_zero, List.set_cons_succ])
         | (refine reg_off (by rfl) (by rfl) ?_; simp only [Act.put, List.setIfInBounds_toArray, List.set_cons_zero, List.set_cons_succ])
         | (refine reg_pure_on (v := ?_) rfl (by rfl) ?_ ?_; rotate_left 1; (· (intro W; go_simp <;> with_reducible rfl)); simp only [Act.put, List.setIfInBounds_toArray, List.set_cons_zero, List.set_cons_succ])
         | (refine reg_read_on (v := ?_) rfl (by rfl) ?_ ?_; rotate_left 1; (· (intro W hW; have hW' := Mods.cells hW; go_simp <;> with_reducible rfl)); simp only [Act.put, List.setIfInBounds_toArray, List.set_cons_zero, List.set_cons_succ])
      have fi := hAf.frz (off + i)
      refine reg_eff (by rfl) (by rfl) (fun K hK => ?_)
      go_simp
      refine hK _ _ ?_
      clear hK K
      try simp only [Act.put, List.setIfInBounds_toArray, List.set_cons_zero, List.set_cons_succ]
      repeat first
         | (refine reg_pure (v := ?_) rfl rfl ?_ ?_; rotate_left 1; (· (intro W; go_simp <;> with_reducible rfl)); simp only [Act.put, List.setIfInBounds_toArray, List.set_cons_zero, List.set_cons_succ])
         | (refine reg_read (v := ?_) rfl rfl ?_ ?_; rotate_left 1; (· (intro W hW; skip; go_simp <;> with_reducible rfl)); simp only [Act.put, List.setIfInBounds_toArray, List.set_cons_zero, List.set_cons_succ])
         | (refine reg_off (by rfl) (by rfl) ?_; simp only [Act.put, List.setIfInBounds_toArray, List.set_cons_zero, List.set_cons_succ])
         | (refine reg_pure_on (v := ?_) rfl (by rfl) ?_ ?_; rotate_left 1; (· (intro W; go_simp <;> with_reducible rfl)); simp only [Act.put, List.setIfInBounds_toArray, List.set_cons_zero, List.set_cons_succ])
         | (refine reg_read_on (v := ?_) rfl (by rfl) ?_ ?_; rotate_left 1; (· (intro W hW; skip; go_simp <;> with_reducible rfl)); simp only [Act.put, List.setIfInBounds_toArray, List.set_cons_zero, List.set_cons_succ])
      have fj := hA1.frz (off + j)
      have cj2 := hA1.cell j (by simpa using hjn)
      have lg2 := hA1.lt
      refine reg_eff (by rfl) (by rfl) (fun K hK => ?_)
      go_simp
      refine hK _ _ (reg_done (qnp_normal ?_))
      clear hK K
      clear fi fj cj2 lg2 hA1
      clear ci cj lg
      have hmz := (hm.trans hms (fun _ _ h => h)).drew
      go_wp2
      exact ⟨⟨i + 1, j - 1, Sort.swp f i j, by omega, by omega, by go_num, by rw [show (j : Int) - 1 = ((j - 1 : Nat) : Int) by omega], hAs, hp2, hmz⟩, by simp [intOf]; omega⟩
    · have hijz : (j : Int) ≤ (i : Int) := by omega
      have hpf := hp.out
      replace hpf := Lib.hid hpf
      clear hij
      go_wp2
      go_end0
      exact ⟨rfl, f, hAf, hpf.out, hm⟩
end Go.Proofs.Ytnnoicacpcahfaa

namespace Go.Proofs.Ytnnoicacpcahfaa
open Go.RowKit Go.Sort

set_option maxRecDepth 100000 in
set_option maxHeartbeats 1600000 in
theorem next_walk (w : World) (rb X t : Nat) (hX : X < 18446744073709551616) (hb : w.heap[rb]? = some (.cells #[.int .u64 X] t (0, 0))) :
    Calls Try.prog 99 #[.pointer (some ⟨rb, 0, none⟩)] w
      fun e w' => ∃ Y : Nat, e = .returned (.int .u64 Y) ∧ Y < 18446744073709551616 ∧ w'.heap[rb]? = some (.cells #[.int .u64 Y] t (0, 0)) ∧ Mods (fun k => k = rb) w w' := by
  obtain ⟨A, hA⟩ : ∃ A : Nat, A = X ^^^ (X * 8192 % 18446744073709551616) := ⟨_, rfl⟩
  obtain ⟨B, hB⟩ : ∃ B : Nat, B = A ^^^ (A / 128) := ⟨_, rfl⟩
  obtain ⟨C, hC⟩ : ∃ C : Nat, C = B ^^^ (B * 131072 % 18446744073709551616) := ⟨_, rfl⟩
  have lA : A < 18446744073709551616 := by rw [hA]; exact Nat.xor_lt_two_pow (n := 64) (by omega) (by omega)
  have lB : B < 18446744073709551616 := by rw [hB]; exact Nat.xor_lt_two_pow (n := 64) (by omega) (by omega)
  have lC : C < 18446744073709551616 := by rw [hC]; exact Nat.xor_lt_two_pow (n := 64) (by omega) (by omega)
  have e1 : bits .xor .u64 (X : Int) (IntKind.u64.wrap ((X : Int) * 8192)) = (A : Int) := by
    rw [IntKind.wrap_u64, show ((X : Int) * 8192 % 18446744073709551616) = ((X * 8192 % 18446744073709551616 : Nat) : Int) by omega, bits_xor_u64_nat _ _ hX (by omega), hA]
  have e2 : bits .xor .u64 (A : Int) ((A : Int) / 128) = (B : Int) := by
    rw [show ((A : Int) / 128) = ((A / 128 : Nat) : Int) by omega, bits_xor_u64_nat _ _ lA (by omega), hB]
  have e3 : bits .xor .u64 (B : Int) (IntKind.u64.wrap ((B : Int) * 131072)) = (C : Int) := by
    rw [IntKind.wrap_u64, show ((B : Int) * 131072 % 18446744073709551616) = ((B * 131072 % 18446744073709551616 : Nat) : Int) by omega, bits_xor_u64_nat _ _ lB (by omega), hC]
  clear hA hB hC
  replace e1 := Lib.hid e1
  replace e2 := Lib.hid e2
  replace e3 := Lib.hid e3
  have cb := cellOf hb
  have lb := ltOf hb
  have fb := frzOf hb
  go_enter Try.func99, Try.ntmps99
  go_upto_region 1 with fail
  refine wp_region_plan [(.pure, 0), (.pure, 1), (.read, 2), (.pure, 3), (.pure, 4), (.read, 5), (.pure, 6), (.pure, 7), (.pure, 8), (.eff, 9)] 9 (fun W => Mods Nil (w) W) mixed (by kernel_rfl) (by kernel_rfl) (by repeat (first | exact Mods.refl | apply Mods.drew)) ?_
  repeat first
     | (refine reg_pure (v := ?_) rfl rfl ?_ ?_; rotate_left 1; (· (intro W; go_simp <;> with_reducible rfl)); simp only [Act.put, List.setIfInBounds_toArray, List.set_cons_zero, List.set_cons_succ])
     | (refine reg_read (v := ?_) rfl rfl ?_ ?_; rotate_left 1; (· (intro W hW; have hW' := Mods.cells hW; go_simp <;> with_reducible rfl)); simp only [Act.put, List.setIfInBounds_toArray, List.set_cons_zero, List.set_cons_succ])
     | (refine reg_off (by rfl) (by rfl) ?_; simp only [Act.put, List.setIfInBounds_toArray, List.set_cons_zero, List.set_cons_succ])
     | (refine reg_pure_on (v := ?_) rfl (by rfl) ?_ ?_; rotate_left 1; (· (intro W; go_simp <;> with_reducible rfl)); simp only [Act.put, List.setIfInBounds_toArray, List.set_cons_zero, List.set_cons_succ])
     | (refine reg_read_on (v := ?_) rfl (by rfl) ?_ ?_; rotate_left 1; (· (intro W hW; have hW' := Mods.cells hW; go_simp <;> with_reducible rfl)); simp only [Act.put, List.setIfInBounds_toArray, List.set_cons_zero, List.set_cons_succ])
  rw [e1.out]
  refine reg_eff (by rfl) (by rfl) (fun K hK => ?_)
  go_simp
  refine hK _ _ (reg_done (qnp_normal ?_))
  clear hK K
  have h1 : (w.setCell ⟨rb, 0, none⟩ (.int .u64 A)).drew.heap[rb]? = some (.cells #[.int .u64 A] t (0, 0)) := heap_setCell_same hb 0 _
  have m1 : Mods (fun k => k = rb) w (w.setCell ⟨rb, 0, none⟩ (.int .u64 A)).drew := (Arr.mods rb 0 w _).drew
  clear cb lb fb hb
  generalize (w.setCell ⟨rb, 0, none⟩ (.int .u64 A)).drew = w1 at *
  have cb := cellOf h1
  have lb := ltOf h1
  have fb := frzOf h1
  go_upto_region 2 with fail
  refine wp_region_plan [(.pure, 0), (.pure, 1), (.read, 2), (.pure, 3), (.pure, 4), (.read, 5), (.pure, 6), (.pure, 7), (.pure, 8), (.eff, 9)] 9 (fun W => Mods Nil (w1) W) mixed (by kernel_rfl) (by kernel_rfl) (by repeat (first | exact Mods.refl | apply Mods.drew)) ?_
  repeat first
     | (refine reg_pure (v := ?_) rfl rfl ?_ ?_; rotate_left 1; (· (intro W; go_simp <;> with_reducible rfl)); simp only [Act.put, List.setIfInBounds_toArray, List.set_cons_zero, List.set_cons_succ])
     | (refine reg_read (v := ?_) rfl rfl ?_ ?_; rotate_left 1; (· (intro W hW; have hW' := Mods.cells hW; go_simp <;> with_reducible rfl)); simp only [Act.put, List.setIfInBounds_toArray, List.set_cons_zero, List.set_cons_succ])
     | (refine reg_off (by rfl) (by rfl) ?_; simp only [Act.put, List.setIfInBounds_toArray, List.set_cons_zero, List.set_cons_succ])
     | (refine reg_pure_on (v := ?_) rfl (by rfl) ?_ ?_; rotate_left 1; (· (intro W; go_simp <;> with_reducible rfl)); simp only [Act.put, List.setIfInBounds_toArray, List.set_cons_zero, List.set_cons_succ])
     | (refine reg_read_on (v := ?_) rfl (by rfl) ?_ ?_; rotate_left 1; (· (intro W hW; have hW' := Mods.cells hW; go_simp <;> with_reducible rfl)); simp only [Act.put, List.setIfInBounds_toArray, List.set_cons_zero, List.set_cons_succ])
  rw [e2.out]
  refine reg_eff (by rfl) (by rfl) (fun K hK => ?_)
  go_simp
  refine hK _ _ (reg_done (qnp_normal ?_))
  clear hK K
  have h2 : (w1.setCell ⟨rb, 0, none⟩ (.int .u64 B)).drew.heap[rb]? = some (.cells #[.int .u64 B] t (0, 0)) := heap_setCell_same h1 0 _
  have m2 : Mods (fun k => k = rb) w (w1.setCell ⟨rb, 0, none⟩ (.int .u64 B)).drew := m1.trans (Arr.mods rb 0 w1 _).drew (fun _ _ h => h)
  clear cb lb fb h1 m1
  generalize (w1.setCell ⟨rb, 0, none⟩ (.int .u64 B)).drew = w2 at *
  have cb := cellOf h2
  have lb := ltOf h2
  have fb := frzOf h2
  go_upto_region 3 with fail
  refine wp_region_plan [(.pure, 0), (.pure, 1), (.read, 2), (.pure, 3), (.pure, 4), (.read, 5), (.pure, 6), (.pure, 7), (.pure, 8), (.eff, 9)] 9 (fun W => Mods Nil (w2) W) mixed (by kernel_rfl) (by kernel_rfl) (by repeat (first | exact Mods.refl | apply Mods.drew)) ?_
  repeat first
     | (refine reg_pure (v := ?_) rfl rfl ?_ ?_; rotate_left 1; (· (intro W; go_simp <;> with_reducible rfl)); simp only [Act.put, List.setIfInBounds_toArray, List.set_cons_zero, List.set_cons_succ])
     | (refine reg_read (v := ?_) rfl rfl ?_ ?_; rotate_left 1; (· (intro W hW; have hW' := Mods.cells hW; go_simp <;> with_reducible rfl)); simp only [Act.put, List.setIfInBounds_toArray, List.set_cons_zero, List.set_cons_succ])
     | (refine reg_off (by rfl) (by rfl) ?_; simp only [Act.put, List.setIfInBounds_toArray, List.set_cons_zero, List.set_cons_succ])
     | (refine reg_pure_on (v := ?_) rfl (by rfl) ?_ ?_; rotate_left 1; (· (intro W; go_simp <;> with_reducible rfl)); simp only [Act.put, List.setIfInBounds_toArray, List.set_cons_zero, List.set_cons_succ])
     | (refine reg_read_on (v := ?_) rfl (by rfl) ?_ ?_; rotate_left 1; (· (intro W hW; have hW' := Mods.cells hW; go_simp <;> with_reducible rfl)); simp only [Act.put, List.setIfInBounds_toArray, List.set_cons_zero, List.set_cons_succ])
  rw [e3.out]
  refine reg_eff (by rfl) (by rfl) (fun K hK => ?_)
  go_simp
  refine hK _ _ (reg_done (qnp_normal ?_))
  clear hK K
  have h3 : (w2.setCell ⟨rb, 0, none⟩ (.int .u64 C)).drew.heap[rb]? = some (.cells #[.int .u64 C] t (0, 0)) := heap_setCell_same h2 0 _
  have m3 : Mods (fun k => k = rb) w (w2.setCell ⟨rb, 0, none⟩ (.int .u64 C)).drew := m2.trans (Arr.mods rb 0 w2 _).drew (fun _ _ h => h)
  clear cb lb fb h2 m2
  generalize (w2.setCell ⟨rb, 0, none⟩ (.int .u64 C)).drew = w3 at *
  have cb := cellOf h3
  have lb := ltOf h3
  go_wp2
  go_ret
  exact ⟨C, rfl, lC, h3, m3⟩

set_option maxHeartbeats 1000000 in
theorem power_walk (n : Nat) (h0 : 0 < n) (hn : n < 4611686018427387904) (w : World) :
    Calls Try.prog 98 #[.int .i64 n] w fun e w' => ∃ m : Nat, e = .returned (.int .u64 m) ∧ 1 ≤ m ∧ m ≤ 2 * n ∧ w' = w := by
  have hLen : ∀ w, Calls Try.prog 64 #[.int .u64 (n : Int)] w fun e w' => e = .returned (.int .i64 (bitsLen n : Nat)) ∧ w' = w := fun w => by
    have h := Try.bits_Len (n : Int) w (by omega) (by omega)
    rwa [Int.toNat_natCast, bitLen_eq _ (by omega)] at h
  have hk : bitsLen n ≤ 62 := (bitsLen_le_iff n 62).2 (by omega)
  have hp := wrap_two_pow (bitsLen n) hk
  have hle := two_pow_bitsLen_le h0
  have wr : IntKind.u64.wrap (n : Int) = n := by simp [IntKind.wrap, IntKind.bits, IntKind.signed]; omega
  have hres : 1 ≤ 1 <<< bitsLen n ∧ 1 <<< bitsLen n ≤ 2 * n := by
    rw [Nat.one_shiftLeft]; exact ⟨Nat.one_le_two_pow, hle⟩
  replace hres := Lib.hid hres
  clear hle
  go_enter Try.func98, Try.ntmps98
  go_wp2_with (first | (go_at_call 64; refine (hLen _).mono ?_; rintro e w' ⟨rfl, rfl⟩))
  go_ret
  exact ⟨_, rfl, hres.out.1, hres.out.2, rfl⟩
end Go.Proofs.Ytnnoicacpcahfaa

namespace Go.Proofs.Ytnnoicacpcahfaa
open Go.RowKit Go.Sort


set_option maxRecDepth 100000 in
set_option maxHeartbeats 3200000 in
theorem break_walk (w : World) (g off sz cap a b n : Nat) (d : Array Int) (hA : Arr g off sz d w) (hn : d.size = n) (hab : a + 8 ≤ b) (hb : b ≤ n) (hsz : n < 4611686018427387904) :
    Calls Try.prog 107 #[.slice (some ⟨g, off, none⟩) n cap, .int .i64 a, .int .i64 b] w
      fun e w' => e = .returned (.tuple #[]) ∧ ∃ d', Arr g off sz d' w' ∧ PermIn a b d d' ∧ Mods (fun k => k = g) w w' := by
  replace hn := Lib.hid hn
  obtain ⟨l, hl⟩ : ∃ l, l = b - a := ⟨_, rfl⟩
  obtain ⟨z, hz⟩ : ∃ z, z = a + l / 4 * 2 - 1 := ⟨_, rfl⟩
  have e0 : (b : Int) - (a : Int) = (l : Int) := by omega
  have e1 : (a : Int) + (l : Int) / 4 * 2 - 1 = (z : Int) := by omega
  have hl8 : 8 ≤ l := by omega
  have hlm : l < 4611686018427387904 := by omega
  have hz1 : a ≤ z := by omega
  have hz2 : z + 2 < b := by omega
  have hal : a + l = b := by omega
  have wr : IntKind.u64.wrap (l : Int) = l := by simp [IntKind.wrap, IntKind.bits, IntKind.signed]; omega
  clear hl hz
  replace e0 := Lib.hid e0
  replace e1 := Lib.hid e1
  replace hal := Lib.hid hal
  go_enter Try.func107, Try.ntmps107
  go_upto_region 1 with fail
  rw [e0.out]
  go_wp2_with fail
  refine (power_walk l (by omega) hlm _).mono ?_
  rintro e w1 ⟨m, rfl, hm1, hm2, rfl⟩
  go_wp2_with fail
  rw [e1.out]
  have hrb := heap_new w (.cells #[.int .u64 l] 166)
  have hmb : Mods (fun k => k = g) w (w.alloc (.cells #[.int .u64 l] 166)) := Mods.refl.alloc _
  have hA1 := hA.keep (Mods.refl.alloc (.cells #[.int .u64 l] 166) : Mods Nil w _) id
  have hne : g ≠ w.heap.size := fun e => by have := hA.lt; omega
  obtain ⟨rb, hrbe⟩ : ∃ rb, rb = w.heap.size := ⟨_, rfl⟩
  have hold : ∀ k, k < w.heap.size → k ≠ rb := fun k hk => by omega
  rw [← hrbe] at hne hrb ⊢
  clear hrbe
  generalize w.alloc (.cells #[.int .u64 l] 166) = w1 at *
  clear hA wr
  obtain ⟨m1, hm⟩ : ∃ m1, m1 + 1 = m := ⟨m - 1, by omega⟩
  go_loopw [9] (fun s9 wr => ∃ (q X : Nat) (f : Array Int), z ≤ q ∧ q ≤ z + 3 ∧ s9 = .int .i64 q ∧ Arr g off sz f wr ∧ Hid (PermIn a b d f) ∧ X < 18446744073709551616 ∧ wr.heap[rb]? = some (.cells #[.int .u64 X] 166 (0, 0)) ∧ Mods (fun k => k = g) w wr) (fun s9 _ => z + 3 - (intOf s9).toNat)
  case atStart => exact ⟨z, l, d, Nat.le_refl _, by omega, rfl, hA1, permIn_refl _ _ _, by omega, hrb, hmb⟩
  case round =>
    clear hA1 hrb hmb
    obtain ⟨q, X, f, hq0, hq1, rfl, hAf, hp, hX, hrb, hmf⟩ := hrel
    by_cases hlt : q < z + 3
    · have htst : (q : Int) ≤ (a : Int) + (l : Int) / 4 * 2 + 1 := by have := e1.out; omega
      go_wp2_with fail
      refine (next_walk wr rb X 166 hX hrb).mono ?_
      rintro e w3 ⟨Y, rfl, hY, hrb3, hm3⟩
      have hA3 := hAf.keep hm3 hne
      have hmf3 : Mods (fun k => k = g) w w3 := hmf.trans (S' := fun k => k = rb) hm3 (fun k hk e => absurd e (hold k hk))
      clear hAf hrb hm3 hmf htst
      obtain ⟨o, ho⟩ : ∃ o, o = Y &&& m1 := ⟨_, rfl⟩
      have hol : o ≤ m1 := by rw [ho]; exact Nat.and_le_right
      have x1 : (m : Int) - 1 = (m1 : Int) := by omega
      have x2 : IntKind.u64.wrap ((m : Int) - 1) = (m1 : Int) := by simp [IntKind.wrap, IntKind.bits, IntKind.signed]; omega
      have x3 : bits .and .u64 (Y : Int) (m1 : Int) = (o : Int) := by rw [bits_and_u64_nat _ _ hY (by omega), ho]
      have x4 : IntKind.i64.wrap (o : Int) = (o : Int) := wrapN rfl (by omega)
      clear ho
      go_upto_region 8 with fail
      clear x1 x2 x3 x4
      have hszf : Hid (f.size = n) := hp.out.1.trans hn.out
      by_cases hlo : l ≤ o
      · obtain ⟨o2, ho2⟩ : ∃ o2, o2 = o - l := ⟨_, rfl⟩
        have x5 : (o : Int) - (l : Int) = (o2 : Int) := by omega
        have ho3 : o2 < l := by omega
        replace x5 := Lib.hid x5
        clear ho2
        go_upto_region 10 with fail
        rw [x5.out]
        obtain ⟨p, hpe⟩ : ∃ p, p = a + o2 := ⟨_, rfl⟩
        have hpb : p < b := by have := hal.out; omega
        have hap : a ≤ p := by omega
        have hwp : IntKind.i64.wrap ((a : Int) + (o2 : Int)) = (p : Int) := wrapN (by omega) (by omega)
        replace hpe := Lib.hid hpe
        replace hAf := hA3
        -- the elements f[q] = x and f[p] = y
        have hin : q < f.size := by rw [hszf.out]; omega
        have hjn : p < f.size := by rw [hszf.out]; omega
        have ci := hAf.cell q hin
        have cj := hAf.cell p hjn
        have lg := hAf.lt
        obtain ⟨x, hx⟩ : ∃ x, x = f[q]! := ⟨_, rfl⟩
        obtain ⟨y, hy⟩ : ∃ y, y = f[p]! := ⟨_, rfl⟩
        rw [← hx] at ci
        rw [← hy] at cj
        replace hx := Lib.hid hx
        replace hy := Lib.hid hy
        have i1 : (0 : Int) ≤ (q : Int) := by omega
        have i2 : (q : Int) < (n : Int) := by omega
        have i3 : (0 : Int) ≤ (p : Int) := by omega
        have i4 : (p : Int) < (n : Int) := by omega
        have hp2 : Hid (PermIn a b d (Sort.swp f q p)) := permIn_trans _ _ _ _ _ hp.out (swp_permIn _ _ _ _ _ (by omega) (by omega) hap hpb (by rw [hszf.out]; omega))
        -- from w3: an exchange of q and p (which hold x and y), in the region 10
        have hAs := hAf.swp q p hin hjn
        have hA1 := hAf.set q hin y
        rw [← hx.out, ← hy.out] at hAs
        have hms : Mods (fun k => k = g) w3 ((w3.setCell ⟨g, off + q, none⟩ (.int .u64 y)).setCell ⟨g, off + p, none⟩ (.int .u64 x)) := (Arr.mods g _ w3 _).trans (Arr.mods g _ _ _) (fun _ _ h => h)
        go_upto_region 10 with fail
        refine wp_region_plan [(.pure, 0), (.pure, 1), (.pure, 2), (.pure, 3), (.pure, 4), (.pure, 5), (.pure, 6), (.pure, 7), (.pure, 8), (.pure, 9), (.pure, 10), (.read, 11), (.pure, 12), (.pure, 13), (.pure, 14), (.read, 15), (.pure, 16), (.eff, 17), (.pure, 18), (.eff, 19)] 17 (fun W => Mods Nil (w3) W) mixed (by kernel_rfl) (by kernel_rfl) (by repeat (first | exact Mods.refl | apply Mods.drew)) ?_
        repeat first
           | (refine reg_pure (v := ?_) rfl rfl ?_ ?_; rotate_left 1; (· (intro W; go_simp <;> with_reducible rfl)); simp only [Act.put, List.setIfInBounds_toArray, List.set_cons_zero, List.set_cons_succ])
           | (refine reg_read (v := ?_) rfl rfl ?_ ?_; rotate_left 1; (· (intro W hW; have hW' := Mods.cells hW; go_simp <;> with_reducible rfl)); simp only [Act.put, List.setIfInBounds_toArray, List.set_cons_zero, List.set_cons_succ])
           | (refine reg_off (by rfl) (by rfl) ?_; simp only [Act.put, List.setIfInBounds_toArray, List.set_cons_zero, List.set_cons_succ])
           | (refine reg_pure_on (v := ?_) rfl (by rfl) ?_ ?_; rotate_left 1; (· (intro W; go_simp <;> with_reducible rfl)); simp only [Act.put, List.setIfInBounds_toArray, List.set_cons_zero, List.set_cons_succ])
           | (refine reg_read_on (v := ?_) rfl (by rfl) ?_ ?_; rotate_left 1; (· (intro W hW; have hW' := Mods.cells hW; go_simp <;> with_reducible rfl)); simp only [Act.put, List.setIfInBounds_toArray, List.set_cons_zero, List.set_cons_succ])
        have fi := hAf.frz (off + q)
        refine reg_eff (by rfl) (by rfl) (fun K hK => ?_)
        go_simp
        refine hK _ _ ?_
        clear hK K
        try simp only [Act.put, List.setIfInBounds_toArray, List.set_cons_zero, List.set_cons_succ]
        repeat first
           | (refine reg_pure (v := ?_) rfl rfl ?_ ?_; rotate_left 1; (· (intro W; go_simp <;> with_reducible rfl)); simp only [Act.put, List.setIfInBounds_toArray, List.set_cons_zero, List.set_cons_succ])
           | (refine reg_read (v := ?_) rfl rfl ?_ ?_; rotate_left 1; (· (intro W hW; skip; go_simp <;> with_reducible rfl)); simp only [Act.put, List.setIfInBounds_toArray, List.set_cons_zero, List.set_cons_succ])
           | (refine reg_off (by rfl) (by rfl) ?_; simp only [Act.put, List.setIfInBounds_toArray, List.set_cons_zero, List.set_cons_succ])
           | (refine reg_pure_on (v := ?_) rfl (by rfl) ?_ ?_; rotate_left 1; (· (intro W; go_simp <;> with_reducible rfl)); simp only [Act.put, List.setIfInBounds_toArray, List.set_cons_zero, List.set_cons_succ])
           | (refine reg_read_on (v := ?_) rfl (by rfl) ?_ ?_; rotate_left 1; (· (intro W hW; skip; go_simp <;> with_reducible rfl)); simp only [Act.put, List.setIfInBounds_toArray, List.set_cons_zero, List.set_cons_succ])
        have fj := hA1.frz (off + p)
        have cj2 := hA1.cell p (by simpa using hjn)
        have lg2 := hA1.lt
        refine reg_eff (by rfl) (by rfl) (fun K hK => ?_)
        go_simp
        refine hK _ _ (reg_done (qnp_normal ?_))
        clear hK K
        clear fi fj cj2 lg2 hA1
        clear ci cj lg hwp
        have hmz := (hmf3.trans hms (fun _ _ h => h)).drew
        have hrbz := (Mods.drew hms).keep hrb3 (Ne.symm hne)
        go_wp2
        exact ⟨⟨q + 1, Y, Sort.swp f q p, by omega, by omega, by go_num, hAs, hp2, hY, hrbz, hmz⟩, by simp [intOf]; omega⟩
      · have hlo2 : (o : Int) < (l : Int) := by omega
        have ho3 : o < l := by omega
        clear hlo
        go_upto_region 10 with fail
        obtain ⟨p, hpe⟩ : ∃ p, p = a + o := ⟨_, rfl⟩
        have hpb : p < b := by have := hal.out; omega
        have hap : a ≤ p := by omega
        have hwp : IntKind.i64.wrap ((a : Int) + (o : Int)) = (p : Int) := wrapN (by omega) (by omega)
        replace hpe := Lib.hid hpe
        replace hAf := hA3
        -- the elements f[q] = x and f[p] = y
        have hin : q < f.size := by rw [hszf.out]; omega
        have hjn : p < f.size := by rw [hszf.out]; omega
        have ci := hAf.cell q hin
        have cj := hAf.cell p hjn
        have lg := hAf.lt
        obtain ⟨x, hx⟩ : ∃ x, x = f[q]! := ⟨_, rfl⟩
        obtain ⟨y, hy⟩ : ∃ y, y = f[p]! := ⟨_, rfl⟩
        rw [← hx] at ci
        rw [← hy] at cj
        replace hx := Lib.hid hx
        replace hy := Lib.hid hy
        have i1 : (0 : Int) ≤ (q : Int) := by omega
        have i2 : (q : Int) < (n : Int) := by omega
        have i3 : (0 : Int) ≤ (p : Int) := by omega
        have i4 : (p : Int) < (n : Int) := by omega
        have hp2 : Hid (PermIn a b d (Sort.swp f q p)) := permIn_trans _ _ _ _ _ hp.out (swp_permIn _ _ _ _ _ (by omega) (by omega) hap hpb (by rw [hszf.out]; omega))
        -- from w3: an exchange of q and p (which hold x and y), in the region 10
        have hAs := hAf.swp q p hin hjn
        have hA1 := hAf.set q hin y
        rw [← hx.out, ← hy.out] at hAs
        have hms : Mods (fun k => k = g) w3 ((w3.setCell ⟨g, off + q, none⟩ (.int .u64 y)).setCell ⟨g, off + p, none⟩ (.int .u64 x)) := (Arr.mods g _ w3 _).trans (Arr.mods g _ _ _) (fun _ _ h => h)
        go_upto_region 10 with fail
        refine wp_region_plan [(.pure, 0), (.pure, 1), (.pure, 2), (.pure, 3), (.pure, 4), (.pure, 5), (.pure, 6), (.pure, 7), (.pure, 8), (.pure, 9), (.pure, 10), (.read, 11), (.pure, 12), (.pure, 13), (.pure, 14), (.read, 15), (.pure, 16), (.eff, 17), (.pure, 18), (.eff, 19)] 17 (fun W => Mods Nil (w3) W) mixed (by kernel_rfl) (by kernel_rfl) (by repeat (first | exact Mods.refl | apply Mods.drew)) ?_
        repeat first
           | (refine reg_pure (v := ?_) rfl rfl ?_ ?_; rotate_left 1; (· (intro W; go_simp <;> with_reducible rfl)); simp only [Act.put, List.setIfInBounds_toArray, List.set_cons_zero, List.set_cons_succ])
           | (refine reg_read (v := ?_) rfl rfl ?_ ?_; rotate_left 1; (· (intro W hW; have hW' := Mods.cells hW; go_simp <;> with_reducible rfl)); simp only [Act.put, List.setIfInBounds_toArray, List.set_cons_zero, List.set_cons_succ])
           | (refine reg_off (by rfl) (by rfl) ?_; simp only [Act.put, List.setIfInBounds_toArray, List.set_cons_zero, List.set_cons_succ])
           | (refine reg_pure_on (v := ?_) rfl (by rfl) ?_ ?_; rotate_left 1; (· (intro W; go_simp <;> with_reducible rfl)); simp only [Act.put, List.setIfInBounds_toArray, List.set_cons_zero, List.set_cons_succ])
           | (refine reg_read_on (v := ?_) rfl (by rfl) ?_ ?_; rotate_left 1; (· (intro W hW; have hW' := Mods.cells hW; go_simp <;> with_reducible rfl)); simp only [Act.put, List.setIfInBounds_toArray, List.set_cons_zero, List.set_cons_succ])
        have fi := hAf.frz (off + q)
        refine reg_eff (by rfl) (by rfl) (fun K hK => ?_)
        go_simp
        refine hK _ _ ?_
        clear hK K
        try simp only [Act.put, List.setIfInBounds_toArray, List.set_cons_zero, List.set_cons_succ]
        repeat first
           | (refine reg_pure (v := ?_) rfl rfl ?_ ?_; rotate_left 1; (· (intro W; go_simp <;> with_reducible rfl)); simp only [Act.put, List.setIfInBounds_toArray, List.set_cons_zero, List.set_cons_succ])
           | (refine reg_read (v := ?_) rfl rfl ?_ ?_; rotate_left 1; (· (intro W hW; skip; go_simp <;> with_reducible rfl)); simp only [Act.put, List.setIfInBounds_toArray, List.set_cons_zero, List.set_cons_succ])
           | (refine reg_off (by rfl) (by rfl) ?_; simp only [Act.put, List.setIfInBounds_toArray, List.set_cons_zero, List.set_cons_succ])
           | (refine reg_pure_on (v := ?_) rfl (by rfl) ?_ ?_; rotate_left 1; (· (intro W; go_simp <;> with_reducible rfl)); simp only [Act.put, List.setIfInBounds_toArray, List.set_cons_zero, List.set_cons_succ])
           | (refine reg_read_on (v := ?_) rfl (by rfl) ?_ ?_; rotate_left 1; (· (intro W hW; skip; go_simp <;> with_reducible rfl)); simp only [Act.put, List.setIfInBounds_toArray, List.set_cons_zero, List.set_cons_succ])
        have fj := hA1.frz (off + p)
        have cj2 := hA1.cell p (by simpa using hjn)
        have lg2 := hA1.lt
        refine reg_eff (by rfl) (by rfl) (fun K hK => ?_)
        go_simp
        refine hK _ _ (reg_done (qnp_normal ?_))
        clear hK K
        clear fi fj cj2 lg2 hA1
        clear ci cj lg hwp
        have hmz := (hmf3.trans hms (fun _ _ h => h)).drew
        have hrbz := (Mods.drew hms).keep hrb3 (Ne.symm hne)
        go_wp2
        exact ⟨⟨q + 1, Y, Sort.swp f q p, by omega, by omega, by go_num, hAs, hp2, hY, hrbz, hmz⟩, by simp [intOf]; omega⟩
    · have htst : (a : Int) + (l : Int) / 4 * 2 + 1 < (q : Int) := by have := e1.out; omega
      clear hlt
      go_wp2
      go_end0
      exact ⟨rfl, f, hAf, hp.out, hmf⟩
end Go.Proofs.Ytnnoicacpcahfaa
