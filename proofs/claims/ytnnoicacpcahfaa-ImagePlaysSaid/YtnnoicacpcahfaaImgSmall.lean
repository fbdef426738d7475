/- (*Image).sorted, grant, Counts, Pids, Node, walked. No condition. -/
import Derived.Test.YtnnoicacpcahfaaImgFuncs
namespace Go.Proofs.Ytnnoicacpcahfaa
open Go.RowKit

theorem rises_at {n last : Int} : ∀ {l : List Int} {k : Nat} {y : Int}, (∀ (j : Nat) (x : Int), j < k → l[j]? = some x → (if j = 0 then last else l[j-1]?.getD 0) < x ∧ x < n) → l[k]? = some y → ¬ ((if k = 0 then last else l[k-1]?.getD 0) < y ∧ y < n) → risesFrom n last l = false
  | [], _, _, _, h, _ => by simp at h
  | x :: l, 0, y, _, h, hf => by
    simp at h; subst h
    simp only [if_true] at hf
    simp [risesFrom, hf]
  | x :: l, k + 1, y, h, hi, hf => by
    have : risesFrom n x l = false := by
      refine rises_at (k := k) (y := y) (fun j z hj hz => ?_) (by simpa using hi) ?_
      · have := h (j + 1) z (by omega) (by simpa using hz)
        cases j with
        | zero => simpa using this
        | succ j => simpa using this
      · cases k with
        | zero => simpa using hf
        | succ k => simpa using hf
    simp [risesFrom, this]
theorem rises_all {n last : Int} : ∀ {l : List Int}, (∀ (j : Nat) (x : Int), j < l.length → l[j]? = some x → (if j = 0 then last else l[j-1]?.getD 0) < x ∧ x < n) → risesFrom n last l = true
  | [], _ => rfl
  | x :: l, h => by
    have h0 := h 0 x (by simp) (by simp)
    simp only [if_true] at h0
    simp only [risesFrom, h0, and_self, decide_true, Bool.true_and]
    refine rises_all (fun j z hj hz => ?_)
    have := h (j + 1) z (by simpa using hj) (by simpa using hz)
    cases j with
    | zero => simpa using this
    | succ j => simpa using this

set_option maxRecDepth 100000 in
set_option maxHeartbeats 3200000 in
theorem sorted_walk (w : World) (d : Ad) (nds : List Nd) (L : List Pt) (next count : Int) (la : Option Addr) (lc : Nat) (l : List Int) (h : Img w d nds L next count) (hlen : l.length * 8 ≤ 140737488355328) (hs : Sl w 3 1 (.slice la l.length lc) l.length (ints l)) :
    Calls Try.prog 70 #[.pointer (some ⟨d.b, 0, none⟩), .slice la l.length lc] w
      fun e w' => e = .returned (.bool (rises nds.length l)) ∧ w' = w := by
  have cb := cellOf h.1
  have lb := ltOf h.1
  clear h
  go_enter Try.func70, Try.ntmps70
  go_wp2_with fail
  go_loopw [9] (fun s9 wr => ∃ k : Nat, k ≤ l.length ∧ s9 = .int .i64 k ∧ Hid (∀ (j : Nat) (x : Int), j < k → l[j]? = some x → (if j = 0 then -1 else l[j-1]?.getD 0) < x ∧ x < nds.length ∧ 0 ≤ x) ∧ wr = w) (fun s9 _ => l.length - (intOf s9).toNat)
  case atStart => exact ⟨0, by omega, rfl, Lib.hid (fun j x hj => by omega), rfl⟩
  case round =>
    obtain ⟨k, hk, rfl, hno, rfl⟩ := hrel
    by_cases hlt : k < l.length
    · rcases slForm hs with ⟨rfl, rfl, rfl⟩ | ⟨g, off, rfl⟩
      · simp at hlt
      have c0 := slCells hs k hlt
      have hy : Hid (l[k]? = some (l.getD k 0)) := Lib.hid (by simp [List.getD, hlt])
      have lg := hs.ltAt
      have i0 : (0 : Int) ≤ (k : Int) := by omega
      have i1 : (k : Int) < (l.length : Int) := by omega
      generalize l.getD k 0 = y at *
      have hF : Hid (¬ ((if k = 0 then -1 else l[k-1]?.getD 0) < y ∧ y < nds.length) → rises nds.length l = false) := Lib.hid (fun hn => by
        rw [rises, rises_at (fun j x hj hx => ⟨(hno.out j x hj hx).1, (hno.out j x hj hx).2.1⟩) hy.out hn]; simp)
      by_cases hy0 : y < 0
      · have hr : Hid (rises nds.length l = false) := Lib.hid (hF.out (by
          rintro ⟨a, b⟩
          split at a
          · omega
          · have := (hno.out (k - 1) (l[k-1]?.getD 0) (by omega) (by rw [List.getElem?_eq_getElem (by omega)]; rfl)).2.2
            omega))
        clear hF hy hno
        go_wp2
        go_ret
        exact ⟨by rw [hr.out]; rfl, rfl⟩
      by_cases hyn : (nds.length : Int) ≤ y
      · have hr : Hid (rises nds.length l = false) := Lib.hid (hF.out (by omega))
        clear hF hy hno
        go_wp2
        go_ret
        exact ⟨by rw [hr.out]; rfl, rfl⟩
      cases k with
      | zero =>
        rw [Nat.add_zero] at c0
        clear hF
        go_wp2
        exact ⟨⟨1, by omega, by go_num, Lib.hid (fun j x hj hx => by
          obtain rfl : j = 0 := by omega
          rw [hy.out] at hx; cases hx
          simp only [if_true]; omega), trivial⟩, by simp [intOf]; omega⟩
      | succ m =>
        have c1 := slCells hs m (by omega)
        have hz : Hid (l[m]?.getD 0 = l.getD m 0) := Lib.hid (by simp [List.getD])
        generalize l.getD m 0 = z at *
        by_cases hyz : y ≤ z
        · have hr : Hid (rises nds.length l = false) := Lib.hid (hF.out (by
            rintro ⟨a, b⟩
            rw [if_neg (by omega), Nat.add_sub_cancel, hz.out] at a
            omega))
          clear hF hno
          go_wp2
          go_ret
          exact ⟨by rw [hr.out]; rfl, rfl⟩
        · clear hF
          go_wp2
          exact ⟨⟨m + 1 + 1, by omega, by go_num, Lib.hid (fun j x hj hx => by
            by_cases hjm : j = m + 1
            · subst hjm
              rw [hy.out] at hx; cases hx
              rw [if_neg (by omega), Nat.add_sub_cancel, hz.out]; omega
            · exact hno.out j x (by omega) hx), trivial⟩, by simp [intOf]; omega⟩
    · obtain rfl : k = l.length := by omega
      have hr : Hid (rises nds.length l = decide (0 < l.length)) := Lib.hid (by
        rw [rises, rises_all (fun j x hj hx => ⟨(hno.out j x hj hx).1, (hno.out j x hj hx).2.1⟩)]
        cases l <;> simp)
      clear hlt
      go_wp2
      go_ret
      exact ⟨by rw [hr.out]; rfl, rfl⟩

theorem Img.setCtr {w w' : World} {d : Ad} {nds : List Nd} {L : List Pt} {next count x : Int} (h : Img w d nds L next count) (hm : Mods (fun k => k = d.gc) w w') (hc : Ctr w' d.gc x) (h0 : 1 ≤ x) (h1 : x ≤ 1001) : Img w' d nds L x count := by
  obtain ⟨a1, a2, a3, a4, a5, a6⟩ := h
  exact ⟨hm.keep a1 a5.bc, slKeep a2 hm (fun b hb => by cases hb; exact a5.nc), a3.keep hm (fun k hk => .inl (.inr (.inr (.inr hk)))) a5.pc, hc, a5, h0, h1⟩

set_option maxRecDepth 100000 in
set_option maxHeartbeats 3200000 in
theorem grant_walk (w : World) (d : Ad) (nds : List Nd) (L : List Pt) (next count : Int) (n : Nat) (x : Nd) (h : Img w d nds L next count) (hn : nds[n]? = some x) :
    Calls Try.prog 45 #[.pointer (some ⟨d.b, 0, none⟩), .int .i64 n] w
      fun e w' => Mods d.A w w' ∧ if next + 10 > 1001 then e = .returned (.int .i64 17) ∧ Img w' d nds L next count
        else e = .returned (.int .i64 0) ∧ Img w' d (nds.set n { x with block := next }) L (next + 10) count := by
  have hnl : n < nds.length := (List.getElem?_eq_some_iff.1 hn).1
  have hblk := block_walk w d.gc next h.2.2.2.1 h.2.2.2.2.2.1 h.2.2.2.2.2.2
  have cb := cellOf h.1
  have lb := ltOf h.1
  have lgc := ltOf h.2.2.2.1
  by_cases hx : next + 10 > 1001
  · simp only [if_pos hx] at hblk ⊢
    have hf : Hid (∀ w', Mods Nil w w' → Img w' d nds L next count) := Lib.hid (fun w' hm => h.keepNil hm)
    clear h hx
    go_enter Try.func45, Try.ntmps45
    go_wp2_with (go_at_call 72; refine hblk.mono ?_; rintro e w1 ⟨rfl, hm1⟩)
    go_ret
    exact ⟨hm1.mono (fun _ h => h.elim), rfl, hf.out _ hm1⟩
  · simp only [if_neg hx] at hblk ⊢
    have hf : Hid (∀ w', Mods (fun k => k = d.gc) w w' → Ctr w' d.gc (next + 10) → Img w' d nds L (next + 10) count) := Lib.hid (fun w' hm hc => h.setCtr hm hc (by have := h.2.2.2.2.2.1; omega) (by omega))
    have hcap := h.2.1.capAt.1
    have hni : 0 ≤ (n : Int) ∧ (n : Int) < nds.length := ⟨by omega, by omega⟩
    clear h hx
    go_enter Try.func45, Try.ntmps45
    go_upto_region 4 with (go_at_call 72; refine hblk.mono ?_; rintro e w1 ⟨rfl, hc1, hm1⟩)
    have hI1 := hf.out w1 hm1 hc1
    have cb1 := cellOf hI1.1
    have lb1 := ltOf hI1.1
    have ln1 := hI1.2.1.ltAt
    have fn1 := hI1.2.1.frzAt
    obtain ⟨-, -, cn1⟩ := hI1.nodeCells hn
    have hI2 := hI1.setNode (x' := { x with block := next }) (u := .int .u64 next) hn (j := 2) (by omega) rfl
    have hm2 : Mods d.A w (w1.setCell ⟨d.gn, d.on + n * 3 + 2, none⟩ (.int .u64 next)) := (hm1.mono (S' := d.A) (fun k hk => .inr (.inr (.inr hk)))).setCell (a := ⟨d.gn, d.on + n * 3 + 2, none⟩) _ (fun _ => .inr (.inl rfl))
    replace hI2 := Lib.hid hI2
    replace hm2 := Lib.hid hm2
    clear hI1 hc1 hm1 hf cb lb
    go_wp2
    go_ret
    exact ⟨hm2.out, rfl, hI2.out⟩

set_option maxRecDepth 100000 in
set_option maxHeartbeats 1600000 in
theorem pids_walk (w : World) (d : Ad) (nds : List Nd) (L : List Pt) (next count : Int) (h : Img w d nds L next count) :
    Calls Try.prog 55 #[.pointer (some ⟨d.b, 0, none⟩)] w
      fun e w' => e = .returned (.tuple #[.int .u64 next, .int .u64 (1001 - next)]) ∧ Mods Nil w w' := by
  have hl := left_walk w d.gc next h.2.2.2.1 h.2.2.2.2.2.1 h.2.2.2.2.2.2
  have cb := cellOf h.1
  have lb := ltOf h.1
  clear h
  go_enter Try.func55, Try.ntmps55
  go_wp2_with (go_at_call 73; refine hl.mono ?_; rintro e w1 ⟨rfl, hm1⟩)
  go_ret2
  exact ⟨rfl, hm1⟩

set_option maxRecDepth 100000 in
set_option maxHeartbeats 1600000 in
theorem counts_walk (w : World) (d : Ad) (nds : List Nd) (L : List Pt) (next count : Int) (h : Img w d nds L next count) :
    Calls Try.prog 54 #[.pointer (some ⟨d.b, 0, none⟩)] w
      fun e w' => e = .returned (.tuple #[.int .i64 nds.length, .int .i64 L.length, .int .i64 count]) ∧ Mods Nil w w' := by
  have cb := cellOf h.1
  have lb := ltOf h.1
  clear h
  go_enter Try.func54, Try.ntmps54
  go_upto_region 3 with fail
  refine wp_region_plan [(.pure, 0), (.pure, 1), (.pure, 2), (.read, 3), (.pure, 4), (.pure, 5), (.pure, 6), (.pure, 7), (.read, 8), (.pure, 9), (.pure, 10), (.pure, 11), (.pure, 12), (.read, 13), (.pure, 14), (.pure, 15), (.pure, 16)] 17 (fun W => Mods Nil _ W) mixed (by kernel_rfl) (by kernel_rfl) Mods.refl.drew ?_
  repeat first
     | (refine reg_pure (v := ?_) rfl rfl ?_ ?_; rotate_left 1; (· (intro W; go_simp <;> with_reducible rfl)); simp only [Act.put, List.setIfInBounds_toArray, List.set_cons_zero, List.set_cons_succ])
     | (refine reg_read (v := ?_) rfl rfl ?_ ?_; rotate_left 1; (· (intro W hW; have hW' := Mods.cells hW; go_simp <;> with_reducible rfl)); simp only [Act.put, List.setIfInBounds_toArray, List.set_cons_zero, List.set_cons_succ])
     | (refine reg_off (by rfl) (by rfl) ?_; simp only [Act.put, List.setIfInBounds_toArray, List.set_cons_zero, List.set_cons_succ])
     | (refine reg_pure_on (v := ?_) rfl (by rfl) ?_ ?_; rotate_left 1; (· (intro W; go_simp <;> with_reducible rfl)); simp only [Act.put, List.setIfInBounds_toArray, List.set_cons_zero, List.set_cons_succ])
     | (refine reg_read_on (v := ?_) rfl (by rfl) ?_ ?_; rotate_left 1; (· (intro W hW; have hW' := Mods.cells hW; go_simp <;> with_reducible rfl)); simp only [Act.put, List.setIfInBounds_toArray, List.set_cons_zero, List.set_cons_succ])
  refine reg_done (qnp_normal ?_)
  go_wp2
  ((try simp only [Exit.inBlock, Exit.then]); refine bodyPost_ret (results_tmp3 rfl _ _ _) rfl ?_)
  exact ⟨rfl, Mods.refl.drew⟩

set_option maxRecDepth 100000 in
set_option maxHeartbeats 1600000 in
theorem node_walk (w : World) (d : Ad) (nds : List Nd) (L : List Pt) (next count : Int) (n : Nat) (x : Nd) (h : Img w d nds L next count) (hn : nds[n]? = some x) :
    Calls Try.prog 56 #[.pointer (some ⟨d.b, 0, none⟩), .int .i64 n] w
      fun e w' => e = .returned (.tuple #[.bool x.alive, .int .i64 x.comes, .int .u64 x.block]) ∧ Mods Nil w w' := by
  have hnl : n < nds.length := (List.getElem?_eq_some_iff.1 hn).1
  have cb := cellOf h.1
  have lb := ltOf h.1
  have hcap := h.2.1.capAt.1
  obtain ⟨c0, c1, c2⟩ := h.nodeCells hn
  have ln := h.2.1.ltAt
  have i0 : (0 : Int) ≤ (n : Int) := by omega
  have i1 : (n : Int) < (nds.length : Int) := by omega
  clear h
  go_enter Try.func56, Try.ntmps56
  go_upto_region 3 with fail
  refine wp_region_plan [(.pure, 0), (.pure, 1), (.pure, 2), (.read, 3), (.pure, 4), (.pure, 5), (.pure, 6), (.read, 7), (.pure, 8), (.pure, 9), (.pure, 10), (.read, 11), (.pure, 12), (.pure, 13), (.pure, 14), (.read, 15), (.pure, 16), (.pure, 17), (.pure, 18), (.read, 19), (.pure, 20), (.pure, 21), (.pure, 22), (.read, 23), (.pure, 24), (.pure, 25), (.pure, 26)] 27 (fun W => Mods Nil _ W) mixed (by kernel_rfl) (by kernel_rfl) Mods.refl.drew ?_
  repeat first
     | (refine reg_pure (v := ?_) rfl rfl ?_ ?_; rotate_left 1; (· (intro W; go_simp <;> with_reducible rfl)); simp only [Act.put, List.setIfInBounds_toArray, List.set_cons_zero, List.set_cons_succ])
     | (refine reg_read (v := ?_) rfl rfl ?_ ?_; rotate_left 1; (· (intro W hW; have hW' := Mods.cells hW; go_simp <;> with_reducible rfl)); simp only [Act.put, List.setIfInBounds_toArray, List.set_cons_zero, List.set_cons_succ])
     | (refine reg_off (by rfl) (by rfl) ?_; simp only [Act.put, List.setIfInBounds_toArray, List.set_cons_zero, List.set_cons_succ])
     | (refine reg_pure_on (v := ?_) rfl (by rfl) ?_ ?_; rotate_left 1; (· (intro W; go_simp <;> with_reducible rfl)); simp only [Act.put, List.setIfInBounds_toArray, List.set_cons_zero, List.set_cons_succ])
     | (refine reg_read_on (v := ?_) rfl (by rfl) ?_ ?_; rotate_left 1; (· (intro W hW; have hW' := Mods.cells hW; go_simp <;> with_reducible rfl)); simp only [Act.put, List.setIfInBounds_toArray, List.set_cons_zero, List.set_cons_succ])
  refine reg_done (qnp_normal ?_)
  go_wp2
  ((try simp only [Exit.inBlock, Exit.then]); refine bodyPost_ret (results_tmp3 rfl _ _ _) rfl ?_)
  exact ⟨rfl, Mods.refl.drew⟩

set_option maxRecDepth 100000 in
set_option maxHeartbeats 1600000 in
theorem nodeOut_walk (w : World) (d : Ad) (nds : List Nd) (L : List Pt) (next count : Int) (n : Int) (h : Img w d nds L next count) (hn : n < 0 ∨ (nds.length : Int) ≤ n) :
    Calls Try.prog 56 #[.pointer (some ⟨d.b, 0, none⟩), .int .i64 n] w
      fun e w' => e = .returned (.tuple #[.bool false, .int .i64 0, .int .u64 0]) ∧ Mods Nil w w' := by
  have cb := cellOf h.1
  have lb := ltOf h.1
  clear h
  by_cases h0 : n < 0
  · clear hn
    go_enter Try.func56, Try.ntmps56
    go_wp2
    ((try simp only [Exit.inBlock, Exit.then]); refine bodyPost_ret (results_tmp3 rfl _ _ _) rfl ?_)
    exact ⟨rfl, Mods.refl⟩
  · have h1 : (nds.length : Int) ≤ n := by omega
    clear hn
    go_enter Try.func56, Try.ntmps56
    go_wp2
    ((try simp only [Exit.inBlock, Exit.then]); refine bodyPost_ret (results_tmp3 rfl _ _ _) rfl ?_)
    exact ⟨rfl, Mods.refl⟩
end Go.Proofs.Ytnnoicacpcahfaa
