/- slices.choosePivotOrdered on uint64 and what it calls, walked: the pivot lies within. No condition. -/
import Derived.Test.YtnnoicacpcahfaaSortPart
namespace Go.Proofs.Ytnnoicacpcahfaa
open Go.RowKit Go.Sort

/-- The number of exchanges, in a block of its own. -/
def Cnt (sb : Nat) (w : World) : Prop := ∃ s : Int, w.heap[sb]? = some (.cells #[.int .i64 s] 3 (0, 0))

set_option maxRecDepth 100000 in
set_option maxHeartbeats 1600000 in
theorem order2_walk (w : World) (g off sz cap a b sb n : Nat) (d : Array Int) (hA : Arr g off sz d w) (hn : d.size = n) (ha : a < n) (hb : b < n) (hsz : n < 4611686018427387904) (hs : Cnt sb w) :
    Calls Try.prog 119 #[.slice (some ⟨g, off, none⟩) n cap, .int .i64 a, .int .i64 b, .pointer (some ⟨sb, 0, none⟩)] w
      fun e w' => ∃ p q : Nat, e = .returned (.tuple #[.int .i64 p, .int .i64 q]) ∧ ((p = a ∧ q = b) ∨ (p = b ∧ q = a)) ∧ Cnt sb w' ∧ Mods (fun k => k = sb) w w' := by
  obtain ⟨s, hs⟩ := hs
  have ci := hA.cell a (by omega)
  have cj := hA.cell b (by omega)
  have lg := hA.lt
  obtain ⟨x, hx⟩ : ∃ x, x = d[a]! := ⟨_, rfl⟩
  obtain ⟨y, hy⟩ : ∃ y, y = d[b]! := ⟨_, rfl⟩
  rw [← hx] at ci
  rw [← hy] at cj
  clear hx hy
  replace hn := Lib.hid hn
  have i1 : (0 : Int) ≤ (a : Int) := by omega
  have i2 : (a : Int) < (n : Int) := by omega
  have i3 : (0 : Int) ≤ (b : Int) := by omega
  have i4 : (b : Int) < (n : Int) := by omega
  obtain ⟨tb, htb⟩ : ∃ tb, tb = decide (y < x) := ⟨_, rfl⟩
  replace htb := Lib.hid htb
  go_enter Try.func119, Try.ntmps119
  go_upto_region 1 with fail
  refine wp_region_plan [(.pure, 0), (.pure, 1), (.pure, 2), (.read, 3), (.pure, 4), (.pure, 5), (.pure, 6), (.read, 7), (.ben, 8)] 9 (fun W => Mods Nil (w) W) mixed (by kernel_rfl) (by kernel_rfl) (by repeat (first | exact Mods.refl | apply Mods.drew)) ?_
  repeat first
     | (refine reg_pure (v := ?_) rfl rfl ?_ ?_; rotate_left 1; (· (intro W; go_simp <;> with_reducible rfl)); simp only [Act.put, List.setIfInBounds_toArray, List.set_cons_zero, List.set_cons_succ])
     | (refine reg_read (v := ?_) rfl rfl ?_ ?_; rotate_left 1; (· (intro W hW; have hW' := Mods.cells hW; go_simp <;> with_reducible rfl)); simp only [Act.put, List.setIfInBounds_toArray, List.set_cons_zero, List.set_cons_succ])
     | (refine reg_off (by rfl) (by rfl) ?_; simp only [Act.put, List.setIfInBounds_toArray, List.set_cons_zero, List.set_cons_succ])
     | (refine reg_pure_on (v := ?_) rfl (by rfl) ?_ ?_; rotate_left 1; (· (intro W; go_simp <;> with_reducible rfl)); simp only [Act.put, List.setIfInBounds_toArray, List.set_cons_zero, List.set_cons_succ])
     | (refine reg_read_on (v := ?_) rfl (by rfl) ?_ ?_; rotate_left 1; (· (intro W hW; have hW' := Mods.cells hW; go_simp <;> with_reducible rfl)); simp only [Act.put, List.setIfInBounds_toArray, List.set_cons_zero, List.set_cons_succ])
  refine reg_ben (by rfl) (by rfl) (fun K hK => ?_)
  go_simp
  refine (less_walk _ _ _).mono ?_
  rintro ev wl ⟨rfl, rfl⟩
  rw [← htb.out]
  refine hK _ _ (by repeat (first | exact Mods.refl | apply Mods.drew)) ?_
  clear hK K
  try simp only [Act.put, List.setIfInBounds_toArray, List.set_cons_zero, List.set_cons_succ]
  repeat first
     | (refine reg_pure (v := ?_) rfl rfl ?_ ?_; rotate_left 1; (· (intro W; go_simp <;> with_reducible rfl)); simp only [Act.put, List.setIfInBounds_toArray, List.set_cons_zero, List.set_cons_succ])
     | (refine reg_read (v := ?_) rfl rfl ?_ ?_; rotate_left 1; (· (intro W hW; skip; go_simp <;> with_reducible rfl)); simp only [Act.put, List.setIfInBounds_toArray, List.set_cons_zero, List.set_cons_succ])
     | (refine reg_off (by rfl) (by rfl) ?_; simp only [Act.put, List.setIfInBounds_toArray, List.set_cons_zero, List.set_cons_succ])
     | (refine reg_pure_on (v := ?_) rfl (by rfl) ?_ ?_; rotate_left 1; (· (intro W; go_simp <;> with_reducible rfl)); simp only [Act.put, List.setIfInBounds_toArray, List.set_cons_zero, List.set_cons_succ])
     | (refine reg_read_on (v := ?_) rfl (by rfl) ?_ ?_; rotate_left 1; (· (intro W hW; skip; go_simp <;> with_reducible rfl)); simp only [Act.put, List.setIfInBounds_toArray, List.set_cons_zero, List.set_cons_succ])
  refine reg_done (qnp_normal ?_)
  clear ci cj lg
  cases tb with
  | true =>
    have cs := cellOf hs
    have fs := frzOf hs
    have ls := ltOf hs
    go_wp2
    go_ret2
    have hs2 := heap_setCell_same hs 0 (.int .i64 (wrap64 (s + 1)))
    refine ⟨b, a, rfl, .inr ⟨rfl, rfl⟩, ⟨_, hs2⟩, (Arr.mods sb 0 w _).drew⟩
  | false =>
    go_wp2
    go_ret2
    exact ⟨a, b, rfl, .inl ⟨rfl, rfl⟩, ⟨s, hs⟩, Mods.refl.drew⟩

theorem Cnt.keep {sb : Nat} {w w' : World} {S : Nat → Prop} (h : Cnt sb w) (hm : Mods S w w') (hn : ¬ S sb) : Cnt sb w' := by
  obtain ⟨s, hs⟩ := h
  exact ⟨s, hm.keep hs hn⟩

set_option maxRecDepth 100000 in
set_option maxHeartbeats 1600000 in
theorem median_walk (w : World) (g off sz cap a b c sb n : Nat) (d : Array Int) (hA : Arr g off sz d w) (hn : d.size = n) (ha : a < n) (hb : b < n) (hc : c < n) (hsz : n < 4611686018427387904) (hs : Cnt sb w) (hne : g ≠ sb) :
    Calls Try.prog 117 #[.slice (some ⟨g, off, none⟩) n cap, .int .i64 a, .int .i64 b, .int .i64 c, .pointer (some ⟨sb, 0, none⟩)] w
      fun e w' => ∃ p : Nat, e = .returned (.int .i64 p) ∧ (p = a ∨ p = b ∨ p = c) ∧ Cnt sb w' ∧ Mods (fun k => k = sb) w w' := by
  replace hn := Lib.hid hn
  go_enter Try.func117, Try.ntmps117
  go_wp2_with fail
  refine (order2_walk _ g off sz cap a b sb n d hA hn.out ha hb hsz hs).mono ?_
  rintro e w1 ⟨p1, q1, rfl, h1, hs1, hm1⟩
  have hp1 : p1 < n := by omega
  have hq1 : q1 < n := by omega
  replace h1 := Lib.hid h1
  go_wp2_with fail
  refine (order2_walk _ g off sz cap q1 c sb n d (hA.keep hm1 hne) hn.out hq1 hc hsz hs1).mono ?_
  rintro e w2 ⟨p2, q2, rfl, h2, hs2, hm2⟩
  have hm02 := hm1.trans hm2 (fun _ _ h => h)
  have hp2 : p2 < n := by omega
  have hq2 : q2 < n := by omega
  replace h2 := Lib.hid h2
  go_wp2_with fail
  refine (order2_walk _ g off sz cap p1 p2 sb n d (hA.keep hm02 hne) hn.out hp1 hp2 hsz hs2).mono ?_
  rintro e w3 ⟨p3, q3, rfl, h3, hs3, hm3⟩
  replace h3 := Lib.hid h3
  go_wp2
  go_ret
  exact ⟨q3, rfl, by have := h1.out; have := h2.out; have := h3.out; omega, hs3, hm02.trans hm3 (fun _ _ h => h)⟩

set_option maxRecDepth 100000 in
set_option maxHeartbeats 1600000 in
theorem medianAdj_walk (w : World) (g off sz cap a sb n : Nat) (d : Array Int) (hA : Arr g off sz d w) (hn : d.size = n) (h0 : 1 ≤ a) (ha : a + 1 < n) (hsz : n < 4611686018427387904) (hs : Cnt sb w) (hne : g ≠ sb) :
    Calls Try.prog 116 #[.slice (some ⟨g, off, none⟩) n cap, .int .i64 a, .pointer (some ⟨sb, 0, none⟩)] w
      fun e w' => ∃ p : Nat, e = .returned (.int .i64 p) ∧ (p + 1 = a ∨ p = a ∨ p = a + 1) ∧ Cnt sb w' ∧ Mods (fun k => k = sb) w w' := by
  replace hn := Lib.hid hn
  obtain ⟨q, hq⟩ : ∃ q, q + 1 = a := ⟨a - 1, by omega⟩
  obtain ⟨r, hr⟩ : ∃ r, r = a + 1 := ⟨_, rfl⟩
  have hmed := median_walk w g off sz cap q a r sb n d hA hn.out (by omega) (by omega) (by omega) hsz hs hne
  rw [show (q : Int) = (a : Int) - 1 by omega, show (r : Int) = (a : Int) + 1 by omega] at hmed
  have hres : ∀ p, (p = q ∨ p = a ∨ p = r) → (p + 1 = a ∨ p = a ∨ p = a + 1) := by intro p h; omega
  replace hres := Lib.hid hres
  replace hq := Lib.hid hq
  replace hr := Lib.hid hr
  go_enter Try.func116, Try.ntmps116
  go_wp2_with fail
  refine hmed.mono ?_
  clear hmed
  rintro e w3 ⟨p3, rfl, h3, hs3, hm3⟩
  replace h3 := Lib.hid (hres.out _ h3)
  go_wp2
  go_ret
  exact ⟨p3, rfl, h3.out, hs3, hm3⟩

set_option maxRecDepth 100000 in
set_option maxHeartbeats 3200000 in
theorem pivot_walk (w : World) (g off sz cap a b n : Nat) (d : Array Int) (hA : Arr g off sz d w) (hn : d.size = n) (hab : a + 8 ≤ b) (hb : b ≤ n) (hsz : n < 4611686018427387904) :
    Calls Try.prog 108 #[.slice (some ⟨g, off, none⟩) n cap, .int .i64 a, .int .i64 b] w
      fun e w' => ∃ p h : Nat, e = .returned (.tuple #[.int .i64 p, .int .i64 h]) ∧ a ≤ p ∧ p < b ∧ h ≤ 2 ∧ Mods Nil w w' := by
  replace hn := Lib.hid hn
  obtain ⟨l, hl⟩ : ∃ l, l = b - a := ⟨_, rfl⟩
  obtain ⟨i, hi⟩ : ∃ i, i = a + l / 4 * 1 := ⟨_, rfl⟩
  obtain ⟨j, hj⟩ : ∃ j, j = a + l / 4 * 2 := ⟨_, rfl⟩
  obtain ⟨k, hk⟩ : ∃ k, k = a + l / 4 * 3 := ⟨_, rfl⟩
  have e0 : (b : Int) - (a : Int) = (l : Int) := by omega
  have e1 : (a : Int) + (l : Int) / 4 = (i : Int) := by omega
  have e2 : (a : Int) + (l : Int) / 4 * 2 = (j : Int) := by omega
  have e3 : (a : Int) + (l : Int) / 4 * 3 = (k : Int) := by omega
  have hi1 : a + 1 ≤ i := by omega
  have hi2 : i + 1 < b := by omega
  have hj1 : a + 1 ≤ j := by omega
  have hj2 : j + 1 < b := by omega
  have hk1 : a + 1 ≤ k := by omega
  have hk2 : k + 1 < b := by omega
  have hl8 : 8 ≤ l := by omega
  have hlm : l < 4611686018427387904 := by omega
  clear hi hj hk hl
  replace e0 := Lib.hid e0
  replace e1 := Lib.hid e1
  replace e2 := Lib.hid e2
  replace e3 := Lib.hid e3
  go_enter Try.func108, Try.ntmps108
  go_upto_region 2 with fail
  rw [e0.out]
  go_upto_if 32 with fail
  rw [e1.out, e2.out, e3.out]
  clear e0 e1 e2 e3
  have hsb := heap_new w (.cells #[.int .i64 0] 3)
  have hmb : Mods Nil w (w.alloc (.cells #[.int .i64 0] 3)) := Mods.refl.alloc _
  have hA1 := hA.keep hmb id
  have hne : g ≠ w.heap.size := fun e => by have := hA.lt; omega
  have hs : Cnt w.heap.size (w.alloc (.cells #[.int .i64 0] 3)) := ⟨_, hsb⟩
  have hsbl : w.heap.size ≤ w.heap.size := Nat.le_refl _
  generalize w.alloc (.cells #[.int .i64 0] 3) = w1 at *
  obtain ⟨sb, hsbe⟩ : ∃ sb, sb = w.heap.size := ⟨_, rfl⟩
  rw [← hsbe] at hne hs ⊢
  replace hsbe := Lib.hid hsbe
  clear hsb hsbl hA
  by_cases h50 : 50 ≤ l
  · go_wp2_with fail
    refine (medianAdj_walk _ g off sz cap i sb n d hA1 hn.out (by omega) (by omega) hsz hs hne).mono ?_
    rintro e w2 ⟨p1, rfl, h1, hs2, hm2⟩
    have b1 : a ≤ p1 := by omega
    have b2 : p1 < b := by omega
    clear h1
    go_wp2_with fail
    refine (medianAdj_walk _ g off sz cap j sb n d (hA1.keep hm2 hne) hn.out (by omega) (by omega) hsz hs2 hne).mono ?_
    rintro e w3 ⟨p2, rfl, h2, hs3, hm3⟩
    have b3 : a ≤ p2 := by omega
    have b4 : p2 < b := by omega
    have hm13 := hm2.trans hm3 (fun _ _ h => h)
    clear h2 hm2 hm3
    go_wp2_with fail
    refine (medianAdj_walk _ g off sz cap k sb n d (hA1.keep hm13 hne) hn.out (by omega) (by omega) hsz hs3 hne).mono ?_
    rintro e w4 ⟨p3, rfl, h3, hs4, hm4⟩
    have b5 : a ≤ p3 := by omega
    have b6 : p3 < b := by omega
    have hm14 := hm13.trans hm4 (fun _ _ h => h)
    clear h3 hm13 hm4
    go_wp2_with fail
    refine (median_walk _ g off sz cap p1 p2 p3 sb n d (hA1.keep hm14 hne) hn.out (by omega) (by omega) (by omega) hsz hs4 hne).mono ?_
    rintro e w5 ⟨p, rfl, h4, hs5, hm5⟩
    have hp1 : a ≤ p := by omega
    have hp2 : p < b := by omega
    have hm15 := hm14.trans hm5 (fun _ _ h => h)
    clear h4 hm14 hm5
    have hmz : Mods Nil w w5 := hmb.trans hm15 (fun k hk e => by have := hsbe.out; omega)
    obtain ⟨s, hs5⟩ := hs5
    have cs := cellOf hs5
    have ls := ltOf hs5
    by_cases s0 : s = 0
    · subst s0
      go_wp2
      go_ret2
      exact ⟨p, 1, rfl, hp1, hp2, by omega, hmz⟩
    · by_cases s1 : s = 12
      · subst s1
        go_wp2
        go_ret2
        exact ⟨p, 2, rfl, hp1, hp2, by omega, hmz⟩
      · have t0 : (s == 0) = false := by simp [s0]
        have t1 : (s == 12) = false := by simp [s1]
        clear s0 s1
        go_wp2
        go_ret2
        exact ⟨p, 0, rfl, hp1, hp2, by omega, hmz⟩
  · have h50z : (l : Int) < 50 := by omega
    clear h50
    go_wp2_with fail
    refine (median_walk _ g off sz cap i j k sb n d hA1 hn.out (by omega) (by omega) (by omega) hsz hs hne).mono ?_
    rintro e w5 ⟨p, rfl, h4, hs5, hm15⟩
    have hp1 : a ≤ p := by omega
    have hp2 : p < b := by omega
    clear h4
    have hmz : Mods Nil w w5 := hmb.trans hm15 (fun k hk e => by have := hsbe.out; omega)
    obtain ⟨s, hs5⟩ := hs5
    have cs := cellOf hs5
    have ls := ltOf hs5
    by_cases s0 : s = 0
    · subst s0
      go_wp2
      go_ret2
      exact ⟨p, 1, rfl, hp1, hp2, by omega, hmz⟩
    · by_cases s1 : s = 12
      · subst s1
        go_wp2
        go_ret2
        exact ⟨p, 2, rfl, hp1, hp2, by omega, hmz⟩
      · have t0 : (s == 0) = false := by simp [s0]
        have t1 : (s == 12) = false := by simp [s1]
        clear s0 s1
        go_wp2
        go_ret2
        exact ⟨p, 0, rfl, hp1, hp2, by omega, hmz⟩
end Go.Proofs.Ytnnoicacpcahfaa
