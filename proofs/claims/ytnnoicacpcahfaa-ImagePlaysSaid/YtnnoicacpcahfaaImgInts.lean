/- Lists of int: has, same, own, clone, contains, walked. No condition. -/
import Derived.Test.YtnnoicacpcahfaaImgRep
import Derived.Test.YtnnoicacpcahfaaShelfInts
import Derived.Test.YtnnoicacpcahfaaDocCheck
namespace Go.Proofs.Ytnnoicacpcahfaa
open Go.RowKit

theorem elInt : ElT Try.prog 59 3 1 8 := ⟨Try.underlying59, by kernel_rfl, by decide⟩
theorem ints_one (xs : List Int) : ∀ u ∈ ints xs, u.oneCell' = true := by
  intro u hu
  obtain ⟨x, _, rfl⟩ := List.mem_map.1 hu
  rfl
theorem ints_at (l : List Int) (k : Nat) : (ints l)[k]? = (l[k]?).map (.int .i64) := by rw [ints, List.getElem?_map]
theorem contains_iff' (l : List Int) (x : Int) : l.contains x = true ↔ x ∈ l := by simp

set_option maxRecDepth 100000 in
set_option maxHeartbeats 1600000 in
theorem has_walk (w : World) (la : Option Addr) (lc : Nat) (l : List Int) (x : Int) (hlen : l.length ≤ 4611686018427387904) (h : Rd w 1 (.slice la l.length lc) l.length (ints l)) :
    Calls Try.prog 47 #[.slice la l.length lc, .int .i64 x] w
      fun e w' => e = .returned (.bool (l.contains x)) ∧ Mods Nil w w' := by
  go_enter Try.func47, Try.ntmps47
  go_wp2_with fail
  go_loopw [5] (fun s5 wr => ∃ k : Nat, k ≤ l.length ∧ s5 = .int .i64 k ∧ Hid (∀ j, j < k → l[j]? ≠ some x) ∧ Mods Nil w wr) (fun s5 _ => l.length - (intOf s5).toNat)
  case atStart => exact ⟨0, by omega, rfl, Lib.hid (fun j hj => by omega), Mods.refl⟩
  case round =>
    obtain ⟨k, hk, rfl, hno, hm⟩ := hrel
    by_cases hlt : k < l.length
    · obtain ⟨g, off, rfl, hg, hcells⟩ := (rdKeep h hm (fun _ _ => id)).form (by omega) (by omega)
      have c0 : wr.cell? ⟨g, off + k, none⟩ = some (.int .i64 l[k]) := by
        rw [hcells k (by omega), ints_at, List.getElem?_eq_getElem hlt]; rfl
      have hy : Hid (l[k]? = some l[k]) := Lib.hid (List.getElem?_eq_getElem hlt)
      generalize l[k] = y at *
      clear hcells
      have i0 : (0 : Int) ≤ (k : Int) := by omega
      have i1 : (k : Int) < (l.length : Int) := by omega
      by_cases hyx : y = x
      · subst hyx
        have hc : l.contains y = true := (contains_iff' l y).2 (List.mem_of_getElem? hy.out)
        go_wp2
        go_ret
        exact ⟨by rw [hc]; rfl, hm⟩
      · have hne : (y == x) = false := by simpa using hyx
        replace hyx := Lib.hid hyx
        go_wp2
        exact ⟨⟨k + 1, by omega, by go_num, Lib.hid (fun j hj => by
          by_cases hjk : j = k
          · subst hjk; rw [hy.out]; simpa using hyx.out
          · exact hno.out j (by omega)), hm⟩, by simp [intOf]; omega⟩
    · obtain rfl : k = l.length := by omega
      have hc : l.contains x = false := by
        cases hcc : l.contains x with
        | false => rfl
        | true =>
          obtain ⟨j, hj⟩ := List.getElem?_of_mem ((contains_iff' l x).1 hcc)
          exact absurd hj (hno.out j (List.getElem?_eq_some_iff.1 hj).1)
      go_wp2
      go_ret
      exact ⟨by rw [hc]; rfl, hm⟩

set_option maxRecDepth 100000 in
set_option maxHeartbeats 1600000 in
theorem sameInts_walk (w : World) (la la' : Option Addr) (lc lc' : Nat) (l : List Int) (hlen : l.length ≤ 4611686018427387904)
    (h1 : Rd w 1 (.slice la l.length lc) l.length (ints l)) (h2 : Rd w 1 (.slice la' l.length lc') l.length (ints l)) :
    Calls Try.prog 53 #[.slice la l.length lc, .slice la' l.length lc'] w
      fun e w' => e = .returned (.bool true) ∧ Mods Nil w w' := by
  go_enter Try.func53, Try.ntmps53
  go_wp2_with fail
  go_loopw [5] (fun s5 wr => ∃ k : Nat, k ≤ l.length ∧ s5 = .int .i64 k ∧ Mods Nil w wr) (fun s5 _ => l.length - (intOf s5).toNat)
  case atStart => exact ⟨0, by omega, rfl, Mods.refl⟩
  case round =>
    obtain ⟨k, hk, rfl, hm⟩ := hrel
    by_cases hlt : k < l.length
    · obtain ⟨g, off, rfl, hg, hcells⟩ := (rdKeep h1 hm (fun _ _ => id)).form (by omega) (by omega)
      obtain ⟨g', off', rfl, hg', hcells'⟩ := (rdKeep h2 hm (fun _ _ => id)).form (by omega) (by omega)
      have c0 : wr.cell? ⟨g, off + k, none⟩ = some (.int .i64 l[k]) := by
        rw [hcells k (by omega), ints_at, List.getElem?_eq_getElem hlt]; rfl
      have c1 : wr.cell? ⟨g', off' + k, none⟩ = some (.int .i64 l[k]) := by
        rw [hcells' k (by omega), ints_at, List.getElem?_eq_getElem hlt]; rfl
      generalize l[k] = y at *
      clear hcells hcells'
      have i0 : (0 : Int) ≤ (k : Int) := by omega
      have i1 : (k : Int) < (l.length : Int) := by omega
      go_upto_region 6 with fail
      refine wp_region_plan [(.pure, 0), (.pure, 1), (.pure, 2), (.read, 3), (.pure, 4), (.pure, 5), (.pure, 6), (.read, 7), (.pure, 8)] 9 (fun W => Mods Nil _ W) mixed (by kernel_rfl) (by kernel_rfl) Mods.refl.drew ?_
      repeat first
         | (refine reg_pure (v := ?_) rfl rfl ?_ ?_; rotate_left 1; (· (intro W; go_simp <;> with_reducible rfl)); simp only [Act.put, List.setIfInBounds_toArray, List.set_cons_zero, List.set_cons_succ])
         | (refine reg_read (v := ?_) rfl rfl ?_ ?_; rotate_left 1; (· (intro W hW; have hW' := Mods.cells hW; go_simp <;> with_reducible rfl)); simp only [Act.put, List.setIfInBounds_toArray, List.set_cons_zero, List.set_cons_succ])
         | (refine reg_off (by rfl) (by rfl) ?_; simp only [Act.put, List.setIfInBounds_toArray, List.set_cons_zero, List.set_cons_succ])
         | (refine reg_pure_on (v := ?_) rfl (by rfl) ?_ ?_; rotate_left 1; (· (intro W; go_simp <;> with_reducible rfl)); simp only [Act.put, List.setIfInBounds_toArray, List.set_cons_zero, List.set_cons_succ])
         | (refine reg_read_on (v := ?_) rfl (by rfl) ?_ ?_; rotate_left 1; (· (intro W hW; have hW' := Mods.cells hW; go_simp <;> with_reducible rfl)); simp only [Act.put, List.setIfInBounds_toArray, List.set_cons_zero, List.set_cons_succ])
      refine reg_done (qnp_normal ?_)
      go_wp2
      exact ⟨⟨k + 1, by omega, by go_num, hm.drew⟩, by simp [intOf]; omega⟩
    · obtain rfl : k = l.length := by omega
      go_wp2
      go_ret
      exact ⟨rfl, hm⟩

set_option maxRecDepth 100000 in
theorem own13_walk (w : World) (la : Option Addr) (lc : Nat) (l : List Int) (hlen : l.length * 8 ≤ 140737488355328) (h : Rd w 1 (.slice la l.length lc) l.length (ints l)) :
    Calls Try.prog 51 #[.slice la l.length lc] w
      fun e w' => ∃ la' lc', e = .returned (.slice la' l.length lc') ∧ NewSl w.heap.size w' 3 1 la' l.length lc' (ints l) ∧ Mods Nil w w' := by
  have hmx : 0 + l.length ≤ maxLen := by unfold maxLen; omega
  go_enter Try.func51, Try.ntmps51
  go_upto_region 2 with fail
  apply wp_region_lit
  repeat ((fail_if_success at_builtin); go_step)
  refine wpList_append_sl (n := 0) (xs := []) (m := l.length) (news := ints l) (by rfl) (.tmp 4) (.tmp 5) (by rfl) elInt (by rfl) (Sl.nil _ _ _) (by rfl) h (ints_one _) hmx (by omega) ?_
  intro v' w' hs' hg' hb' _
  obtain ⟨la', lc', rfl, hN', hm⟩ := NewSl.nil.app (B := w.heap.size) (W := w) (Nat.le_refl _) hs' hg' hb' Mods.refl (Nat.le_refl _)
  rw [Nat.zero_add, List.nil_append] at hN'
  clear hs' hg' hb'
  rw [Nat.zero_add]
  go_wp2
  go_ret
  exact ⟨la', lc', rfl, hN', hm⟩

theorem rowSl {w : World} {base e size : Nat} {v : Value} {n : Nat} {xs : List Value} (h : w.ownsRow base e size v n xs) : ∃ la lc, v = .slice la n lc ∧ NewSl base w e size la n lc xs := by
  obtain ⟨hl, ⟨rfl, rfl⟩ | ⟨g, cap, cur, rfl, h1, h2, h3, h4, h5, h6⟩⟩ := h
  · have hx : xs = [] := by simpa using hl
    subst hx
    exact ⟨none, 0, rfl, NewSl.nil⟩
  · refine ⟨some ⟨g, 0, none⟩, cap, rfl, ⟨hl, .inr ⟨g, 0, cap, cur, rfl, h2, h3, h4, by omega, fun j hj => ?_⟩⟩, fun a ha => by cases ha; exact h1⟩
    rw [← h6, List.getElem?_take, if_pos hj, Nat.zero_add]
    simp
theorem slCells {w : World} {g off c : Nat} {l : List Int} (h : Sl w 3 1 (.slice (some ⟨g, off, none⟩) l.length c) l.length (ints l)) : ∀ j, j < l.length → w.cell? ⟨g, off + j, none⟩ = some (.int .i64 (l.getD j 0)) := fun j hj => by
  rw [h.cellAt j (by omega), ints_at, List.getElem?_eq_getElem hj]; simp [List.getD, hj]
theorem slForm {w : World} {la : Option Addr} {lc : Nat} {l : List Int} (h : Sl w 3 1 (.slice la l.length lc) l.length (ints l)) : (la = none ∧ lc = 0 ∧ l = []) ∨ ∃ g off, la = some ⟨g, off, none⟩ := by
  rcases h.2 with ⟨h', h0⟩ | ⟨g', off', cap', cur, hv, hg, h1, h2, h3, h4⟩
  · simp only [Value.slice.injEq] at h'
    exact .inl ⟨h'.1, h'.2.2, List.eq_nil_of_length_eq_zero h0⟩
  · simp only [Value.slice.injEq] at hv
    exact .inr ⟨g', off', hv.1⟩

theorem contains_walk (w : World) (la : Option Addr) (lc : Nat) (l : List Int) (x : Int) (hlen : l.length ≤ 4611686018427387904) (h : Sl w 3 1 (.slice la l.length lc) l.length (ints l)) :
    Calls Try.prog 65 #[.slice la l.length lc, .int .i64 x] w fun e w' => e = .returned (.bool (l.contains x)) ∧ w' = w := by
  rcases slForm h with ⟨rfl, rfl, rfl⟩ | ⟨g, off, rfl⟩
  · exact Try.slices_Contains_int_empty none 0 x w
  · have := Try.slices_Contains_int g off l.length lc l x w (Nat.le_refl _) (by omega) (slCells h)
    rwa [List.take_length] at this

theorem clone_walk (w : World) (la : Option Addr) (lc : Nat) (l : List Int) (hlen : l.length * 8 ≤ 140737488355328) (h : Sl w 3 1 (.slice la l.length lc) l.length (ints l)) :
    Calls Try.prog 39 #[.slice la l.length lc] w
      fun e w' => ∃ la' lc', e = .returned (.slice la' l.length lc') ∧ NewSl w.heap.size w' 3 1 la' l.length lc' (ints l) ∧ Mods Nil w w' := by
  rcases slForm h with ⟨rfl, rfl, rfl⟩ | ⟨g, off, rfl⟩
  · refine (Try.slices_Clone_int_nil 0 0 w).mono ?_
    rintro e w' ⟨rfl, rfl⟩
    exact ⟨none, 0, rfl, NewSl.nil, Mods.refl⟩
  · refine (Try.slices_Clone_int g off l.length lc l w (Nat.le_refl _) hlen (slCells h)).mono ?_
    rintro e w' ⟨v', rfl, hr, -, hb⟩
    rw [List.take_length] at hr
    obtain ⟨la', lc', rfl, hN⟩ := rowSl hr
    exact ⟨la', lc', rfl, hN, Mods.of_below hb⟩
end Go.Proofs.Ytnnoicacpcahfaa
