/- Reference of layer 9: rose, walked. No condition. -/
import Derived.Test.YtnnoicacpcahfaaProdKnown
namespace Go.Proofs.Ytnnoicacpcahfaa
open Go.RowKit

/-- Has the epoch been reached behind place i? -/
def roseB (l : List Bt) (i : Nat) (pid ep : Int) : Bool := !(l.take (i + 1)).any (fun c => decide (c.pid = pid) && decide (c.pe = ep))

set_option maxRecDepth 100000 in
set_option maxHeartbeats 1600000 in
theorem rose_walk (w : World) (bt : Nat) (la : Option Addr) (lc : Nat) (l : List Bt) (i : Nat) (b0 : Bt) (ep : Int) (hi : l[i]? = some b0)
    (hb : w.heap[bt]? = some (.cells #[.slice la l.length lc] 27)) (hsl : Rd w 9 (.slice la l.length lc) l.length (l.flatMap Bt.cells)) (hlen : l.length * 72 ≤ 140737488355328) :
    Calls Try.prog 59 #[.pointer (some ⟨bt, 0, none⟩), .int .i64 i, .int .i64 ep] w
      fun e w' => e = .returned (.bool (roseB l i b0.pid ep)) ∧ Mods Nil w w' := by
  have hil : i < l.length := (List.getElem?_eq_some_iff.1 hi).1
  obtain ⟨R, hR⟩ : ∃ R, R = roseB l i b0.pid ep := ⟨_, rfl⟩
  rw [← hR]
  replace hR := Lib.hid hR
  obtain ⟨g, off, rfl, hg, hcells⟩ := hsl.form (by omega) (by omega)
  obtain ⟨p0, p1, p2, p3, p4, p5, p6, p7, p8⟩ := btCells hcells rfl hi
  replace hi := Lib.hid hi
  go_enter Try.func59, Try.ntmps59
  go_wp2_with fail
  go_loopw [7] (fun s7 wr => ∃ k : Nat, k ≤ i + 1 ∧ s7 = .int .i64 k ∧ Mods Nil w wr ∧ Hid (∀ (j : Nat) (c : Bt), j < k → l[j]? = some c → ¬ (c.pid = b0.pid ∧ c.pe = ep))) (fun s7 _ => i + 1 - (intOf s7).toNat)
  case atStart => exact ⟨0, by omega, rfl, Mods.refl, by intro j c h; omega⟩
  case round =>
    obtain ⟨k, hk, rfl, hm, hq⟩ := hrel
    by_cases hlt : k < i + 1
    · have cb := cellOf (hm.keep hb id)
      have lb := ltOf (hm.keep hb id)
      obtain ⟨b, hbk⟩ : ∃ b, l[k]? = some b := ⟨_, List.getElem?_eq_getElem (by omega)⟩
      obtain ⟨c0, c1, c2, c3, c4, c5, c6, c7, c8⟩ := btCells hcells rfl hbk
      rw [← hm.cell hg id] at c2 c3
      have q2 : wr.cell? ⟨g, off + i * 9 + 2, none⟩ = some (.int .u64 b0.pid) := by rw [hm.cell hg id]; exact p2
      have lg := hm.lt hg
      replace hbk := Lib.hid hbk
      have i0 : (0 : Int) ≤ (k : Int) := by omega
      have i1 : (k : Int) < (l.length : Int) := by omega
      have i2 : (0 : Int) ≤ (i : Int) := by omega
      have i3 : (i : Int) < (l.length : Int) := by omega
      have i4 : (k : Int) ≤ (i : Int) := by omega
      clear c0 c1 c4 c5 c6 c7 c8 p0 p1 p2 p3 p4 p5 p6 p7 p8 hcells
      by_cases hpid : b.pid = b0.pid
      · by_cases hpe : b.pe = ep
        · have e1 : R = false := by
            rw [hR.out, roseB]
            simp only [Bool.not_eq_false']
            refine List.any_eq_true.2 ⟨b, List.mem_of_getElem? (i := k) (by rw [List.getElem?_take_of_lt hlt]; exact hbk.out), by simp [hpid, hpe]⟩
          subst e1
          rw [hpid] at c2
          rw [hpe] at c3
          clear hpid hpe hq hR
          go_upto_region 4 with fail
          refine wp_region_plan [(.pure, 0), (.pure, 1), (.pure, 2), (.read, 3), (.pure, 4), (.pure, 5), (.pure, 6), (.read, 7), (.pure, 8), (.pure, 9), (.pure, 10), (.read, 11), (.pure, 12), (.pure, 13), (.pure, 14), (.read, 15), (.pure, 16), (.pure, 17), (.pure, 18), (.pure, 19), (.pure, 20), (.read, 21), (.pure, 22), (.pure, 23), (.pure, 24), (.read, 25), (.pure, 26), (.pure, 27), (.pure, 28)] 29 (fun W => Mods Nil (wr) W) mixed (by kernel_rfl) (by kernel_rfl) (by repeat (first | exact Mods.refl | apply Mods.drew)) ?_
          repeat first
             | (refine reg_pure (v := ?_) rfl rfl ?_ ?_; rotate_left 1; (· (intro W; go_simp <;> with_reducible rfl)); simp only [Act.put, List.setIfInBounds_toArray, List.set_cons_zero, List.set_cons_succ])
             | (refine reg_read (v := ?_) rfl rfl ?_ ?_; rotate_left 1; (· (intro W hW; have hW' := Mods.cells hW; go_simp <;> with_reducible rfl)); simp only [Act.put, List.setIfInBounds_toArray, List.set_cons_zero, List.set_cons_succ])
             | (refine reg_off (by rfl) (by rfl) ?_; simp only [Act.put, List.setIfInBounds_toArray, List.set_cons_zero, List.set_cons_succ])
             | (refine reg_pure_on (v := ?_) rfl (by rfl) ?_ ?_; rotate_left 1; (· (intro W; go_simp <;> with_reducible rfl)); simp only [Act.put, List.setIfInBounds_toArray, List.set_cons_zero, List.set_cons_succ])
             | (refine reg_read_on (v := ?_) rfl (by rfl) ?_ ?_; rotate_left 1; (· (intro W hW; have hW' := Mods.cells hW; go_simp <;> with_reducible rfl)); simp only [Act.put, List.setIfInBounds_toArray, List.set_cons_zero, List.set_cons_succ])
          refine reg_done (qnp_normal ?_)
          clear cb lb c2 c3 q2 lg hg
          go_wp2
          go_ret
          exact ⟨rfl, hm.drew⟩
        · have hno := Lib.hid (show ¬ (b.pid = b0.pid ∧ b.pe = ep) from fun h => hpe h.2)
          have hpe' : (b.pe == ep) = false := by simp [hpe]
          rw [hpid] at c2
          clear hpid hpe
          go_upto_region 4 with fail
          refine wp_region_plan [(.pure, 0), (.pure, 1), (.pure, 2), (.read, 3), (.pure, 4), (.pure, 5), (.pure, 6), (.read, 7), (.pure, 8), (.pure, 9), (.pure, 10), (.read, 11), (.pure, 12), (.pure, 13), (.pure, 14), (.read, 15), (.pure, 16), (.pure, 17), (.pure, 18), (.pure, 19), (.pure, 20), (.read, 21), (.pure, 22), (.pure, 23), (.pure, 24), (.read, 25), (.pure, 26), (.pure, 27), (.pure, 28)] 29 (fun W => Mods Nil (wr) W) mixed (by kernel_rfl) (by kernel_rfl) (by repeat (first | exact Mods.refl | apply Mods.drew)) ?_
          repeat first
             | (refine reg_pure (v := ?_) rfl rfl ?_ ?_; rotate_left 1; (· (intro W; go_simp <;> with_reducible rfl)); simp only [Act.put, List.setIfInBounds_toArray, List.set_cons_zero, List.set_cons_succ])
             | (refine reg_read (v := ?_) rfl rfl ?_ ?_; rotate_left 1; (· (intro W hW; have hW' := Mods.cells hW; go_simp <;> with_reducible rfl)); simp only [Act.put, List.setIfInBounds_toArray, List.set_cons_zero, List.set_cons_succ])
             | (refine reg_off (by rfl) (by rfl) ?_; simp only [Act.put, List.setIfInBounds_toArray, List.set_cons_zero, List.set_cons_succ])
             | (refine reg_pure_on (v := ?_) rfl (by rfl) ?_ ?_; rotate_left 1; (· (intro W; go_simp <;> with_reducible rfl)); simp only [Act.put, List.setIfInBounds_toArray, List.set_cons_zero, List.set_cons_succ])
             | (refine reg_read_on (v := ?_) rfl (by rfl) ?_ ?_; rotate_left 1; (· (intro W hW; have hW' := Mods.cells hW; go_simp <;> with_reducible rfl)); simp only [Act.put, List.setIfInBounds_toArray, List.set_cons_zero, List.set_cons_succ])
          refine reg_done (qnp_normal ?_)
          clear cb lb c2 c3 q2 lg hg
          go_wp2
          refine ⟨⟨k + 1, by omega, by go_num, hm.drew, ?_⟩, by simp [intOf]; omega⟩
          show _
          intro j c hj hc
          by_cases hjk : j < k
          · exact hq.out j c hjk hc
          · obtain rfl : j = k := by omega
            rw [hbk.out] at hc
            cases hc
            exact hno.out
      · have hno := Lib.hid (show ¬ (b.pid = b0.pid ∧ b.pe = ep) from fun h => hpid h.1)
        have hpid' : (b.pid == b0.pid) = false := by simp [hpid]
        clear hpid
        go_upto_region 4 with fail
        refine wp_region_plan [(.pure, 0), (.pure, 1), (.pure, 2), (.read, 3), (.pure, 4), (.pure, 5), (.pure, 6), (.read, 7), (.pure, 8), (.pure, 9), (.pure, 10), (.read, 11), (.pure, 12), (.pure, 13), (.pure, 14), (.read, 15), (.pure, 16), (.pure, 17), (.pure, 18), (.pure, 19), (.pure, 20), (.read, 21), (.pure, 22), (.pure, 23), (.pure, 24), (.read, 25), (.pure, 26), (.pure, 27), (.pure, 28)] 29 (fun W => Mods Nil (wr) W) mixed (by kernel_rfl) (by kernel_rfl) (by repeat (first | exact Mods.refl | apply Mods.drew)) ?_
        repeat first
           | (refine reg_pure (v := ?_) rfl rfl ?_ ?_; rotate_left 1; (· (intro W; go_simp <;> with_reducible rfl)); simp only [Act.put, List.setIfInBounds_toArray, List.set_cons_zero, List.set_cons_succ])
           | (refine reg_read (v := ?_) rfl rfl ?_ ?_; rotate_left 1; (· (intro W hW; have hW' := Mods.cells hW; go_simp <;> with_reducible rfl)); simp only [Act.put, List.setIfInBounds_toArray, List.set_cons_zero, List.set_cons_succ])
           | (refine reg_off (by rfl) (by rfl) ?_; simp only [Act.put, List.setIfInBounds_toArray, List.set_cons_zero, List.set_cons_succ])
           | (refine reg_pure_on (v := ?_) rfl (by rfl) ?_ ?_; rotate_left 1; (· (intro W; go_simp <;> with_reducible rfl)); simp only [Act.put, List.setIfInBounds_toArray, List.set_cons_zero, List.set_cons_succ])
           | (refine reg_read_on (v := ?_) rfl (by rfl) ?_ ?_; rotate_left 1; (· (intro W hW; have hW' := Mods.cells hW; go_simp <;> with_reducible rfl)); simp only [Act.put, List.setIfInBounds_toArray, List.set_cons_zero, List.set_cons_succ])
        refine reg_done (qnp_normal ?_)
        clear cb lb c2 c3 q2 lg hg
        go_wp2
        refine ⟨⟨k + 1, by omega, by go_num, hm.drew, ?_⟩, by simp [intOf]; omega⟩
        show _
        intro j c hj hc
        by_cases hjk : j < k
        · exact hq.out j c hjk hc
        · obtain rfl : j = k := by omega
          rw [hbk.out] at hc
          cases hc
          exact hno.out
    · obtain rfl : k = i + 1 := by omega
      have e1 : R = true := by
        rw [hR.out, roseB]
        simp only [Bool.not_eq_true']
        rw [List.any_eq_false]
        intro c hc
        obtain ⟨j, hj⟩ := List.getElem?_of_mem hc
        have hj2 : j < i + 1 := by
          have := (List.getElem?_eq_some_iff.1 hj).1
          simp at this; omega
        rw [List.getElem?_take_of_lt hj2] at hj
        have := hq.out j c hj2 hj
        simpa using this
      subst e1
      clear hlt
      go_wp2
      go_ret
      exact ⟨rfl, hm⟩
end Go.Proofs.Ytnnoicacpcahfaa
