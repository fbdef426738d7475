/- slices.Sort on []uint64, walked. No condition. -/
import Derived.Test.YtnnoicacpcahfaaSortPdq
import Derived.Test.YtnnoicacpcahfaaSameT
namespace Go.Proofs.Ytnnoicacpcahfaa
open Go.RowKit Go.Sort

theorem arrOf {w : World} {g off n cap : Nat} {xs : List Int} (h : Sl w 29 1 (.slice (some ⟨g, off, none⟩) n cap) n (u64s xs)) :
    xs.length = n ∧ ∃ sz, Arr g off sz xs.toArray w ∧ n ≤ cap ∧ cap ≤ maxLen ∧ off + cap ≤ sz := by
  have hl : xs.length = n := by have := h.1; simp [u64s] at this; exact this
  refine ⟨hl, ?_⟩
  rcases h.2 with ⟨h', _⟩ | ⟨g', off', cap', cur, hv, hg, h1, h2, h3, h4⟩
  · simp at h'
  · simp only [Value.slice.injEq, Option.some.injEq, Addr.mk.injEq] at hv
    obtain ⟨⟨rfl, rfl, _⟩, _, rfl⟩ := hv
    refine ⟨cur.size, ⟨cur, hg, rfl, by simp; omega, fun j hj => ?_⟩, h1, h2, by omega⟩
    have hj' : j < xs.length := by simpa using hj
    rw [h4 j (by omega), u64s, List.getElem?_map, List.getElem?_eq_getElem hj']
    simp [hj']
theorem slOf {w : World} {g off n cap sz : Nat} {d : Array Int} (h : Arr g off sz d w) (hn : d.size = n) (h1 : n ≤ cap) (h2 : cap ≤ maxLen) (h3 : off + cap ≤ sz) : Sl w 29 1 (.slice (some ⟨g, off, none⟩) n cap) n (u64s d.toList) := by
  obtain ⟨cur, hg, rfl, h4, h5⟩ := h
  refine ⟨by simp [u64s, hn], .inr ⟨g, off, cap, cur, rfl, hg, h1, h2, by omega, fun j hj => ?_⟩⟩
  have hj' : j < d.size := by omega
  rw [h5 j hj', u64s, List.getElem?_map]
  simp [hj']

set_option maxRecDepth 100000 in
theorem sortNil_walk (w : World) (la : Option Addr) (cap : Nat) :
    Calls Try.prog 75 #[.slice la 0 cap] w fun e w' => e = .returned (.tuple #[]) ∧ w = w' := by
  have hLen : ∀ w, Calls Try.prog 64 #[.int .u64 0] w fun e w' => e = .returned (.int .i64 0) ∧ w' = w := fun w => by
    have h := Try.bits_Len 0 w (by omega) (by omega)
    exact h
  have hIns : ∀ w, Calls Try.prog 105 #[.slice la 0 cap, .int .i64 0, .int .i64 0] w fun e w' => e = .returned (.tuple #[]) ∧ w = w' := fun w => by
    go_enter Try.func105, Try.ntmps105
    go_wp2_with fail
    refine wp_loop_rounds 1 ?_
    rw [rounds_succ]
    go_wp2
    go_end0
    exact ⟨rfl, rfl⟩
  have hPdq : ∀ w, Calls Try.prog 96 #[.slice la 0 cap, .int .i64 0, .int .i64 0, .int .i64 0] w fun e w' => e = .returned (.tuple #[]) ∧ w = w' := fun w => by
    go_enter Try.func96, Try.ntmps96
    go_wp2_with fail
    refine wp_loop_rounds 1 ?_
    rw [rounds_succ]
    go_wp2_with fail
    refine (hIns _).mono ?_
    rintro e w' ⟨rfl, rfl⟩
    go_wp2
    ((try simp only [Exit.inBlock, Exit.then]); refine bodyPost_ret (results_none rfl _ _ _) rfl ?_)
    exact ⟨rfl, rfl⟩
  go_enter Try.func75, Try.ntmps75
  go_wp2_with (first | (go_at_call 64; refine (hLen _).mono ?_; rintro e w' ⟨rfl, rfl⟩) | (go_at_call 96; refine (hPdq _).mono ?_; rintro e w' ⟨rfl, rfl⟩))
  go_end0
  exact ⟨rfl, rfl⟩

set_option maxRecDepth 100000 in
theorem sort_walk (w : World) (g off n cap : Nat) (xs : List Int) (h : Sl w 29 1 (.slice (some ⟨g, off, none⟩) n cap) n (u64s xs)) (hsz : n < 4611686018427387904) :
    Calls Try.prog 75 #[.slice (some ⟨g, off, none⟩) n cap] w
      fun e w' => e = .returned (.tuple #[]) ∧ Sl w' 29 1 (.slice (some ⟨g, off, none⟩) n cap) n (u64s (sortI xs)) ∧ Mods (fun k => k = g) w w' := by
  obtain ⟨hl, sz, hA, h1, h2, h3⟩ := arrOf h
  have hLen : ∀ w, Calls Try.prog 64 #[.int .u64 (n : Int)] w fun e w' => e = .returned (.int .i64 (bitsLen n : Nat)) ∧ w' = w := fun w => by
    have h := Try.bits_Len (n : Int) w (by omega) (by omega)
    rwa [Int.toNat_natCast, bitLen_eq _ (by omega)] at h
  have hk : bitsLen n ≤ 62 := (bitsLen_le_iff n 62).2 (by omega)
  have hP := pdq_all (n + 1) w g off sz cap 0 n (bitsLen n) n xs.toArray hA (by simpa using hl) (by omega) (Nat.le_refl _) hsz (by omega) (.inl rfl) (by omega)
  have wr : IntKind.u64.wrap (n : Int) = n := by simp [IntKind.wrap, IntKind.bits, IntKind.signed]; omega
  have hfin : ∀ d' : Array Int, PermIn 0 n xs.toArray d' → SortedIn lz 0 n d' → d'.toList = sortI xs := by
    intro d' hp hs
    have hs1 : d'.size = n := by rw [hp.1]; simpa using hl
    have hpl : d'.toList.Perm xs := by
      have := hp.2.2
      rw [show d'.extract 0 n = d' by rw [← hs1]; simp, show xs.toArray.extract 0 n = xs.toArray by rw [← hl]; simp] at this
      simpa using this
    refine sorted_unique (hpl.trans (sortI_perm xs).symm) ?_ (sortI_sorted xs)
    rw [List.pairwise_iff_getElem]
    intro i j hi hj hij
    have hi' : i < d'.size := by simpa using hi
    have hj' : j < d'.size := by simpa using hj
    have := lz_false.1 (hs i j (by omega) hij (by omega))
    simpa [hi', hj'] using this
  replace hfin := Lib.hid hfin
  replace hl := Lib.hid hl
  go_enter Try.func75, Try.ntmps75
  go_wp2_with (first | (go_at_call 64; refine (hLen _).mono ?_; rintro e w' ⟨rfl, rfl⟩))
  refine hP.mono ?_
  clear hP
  rintro e w2 ⟨rfl, d', hA2, hp, hs, hm2⟩
  have hd := hfin.out d' hp hs
  have hs1 : d'.size = n := by rw [hp.1]; simpa using hl.out
  have hSl := slOf hA2 hs1 h1 h2 h3
  rw [hd] at hSl
  clear hd hs1 hs hp
  go_wp2
  go_end0
  exact ⟨rfl, hSl, hm2⟩
end Go.Proofs.Ytnnoicacpcahfaa
