/- Package prod: Known, walked. No condition. -/
import Derived.Test.YtnnoicacpcahfaaProdCheck
namespace Go.Proofs.Ytnnoicacpcahfaa
open Go.RowKit

def Tab.known (T : Tab) (pid : Int) : KSt := if pid ∈ T.keys then ⟨(T.prod pid).epoch, (T.prod pid).next, (T.prod pid).opn, true⟩ else ⟨0, 0, -1, false⟩

set_option maxRecDepth 100000 in
set_option maxHeartbeats 1600000 in
theorem prodKnown_walk (w : World) (bt : Nat) (T : Tab) (addr : Int → Nat) (F : Nat → Prop) (pid : Int) (h : TabRep w bt T addr F) (hwf : (Lit.int .u64 pid).wf = true) :
    Calls Try.prog 32 #[.pointer (some ⟨bt, 0, none⟩), .int .u64 pid] w
      fun e w' => e = .returned (T.known pid).out ∧ Mods Nil w w' := by
  obtain ⟨mb, aa, ac, hb⟩ : ∃ mb aa ac, w.heap[bt]? = some (.cells #[.map (some mb), .slice aa T.aborts.length ac] 70) := by
    obtain ⟨_, _, _, _, mb, aa, ac, _, h5, _⟩ := h
    exact ⟨mb, aa, ac, h5⟩
  have cb := cellOf hb
  obtain ⟨R, hR⟩ : ∃ R, R = (T.known pid).out := ⟨_, rfl⟩
  rw [← hR]
  by_cases hk : pid ∈ T.keys
  · have hlook := h.look hb hwf
    rw [if_pos hk] at hlook
    obtain ⟨G1, hP, hG, _⟩ := h.focus hk
    obtain ⟨hG1, hG2, la, lc, hq, hsl, hla⟩ := hP
    have e1 : R = .tuple #[.int .i64 (T.prod pid).epoch, .int .i64 (T.prod pid).next, .int .i64 (T.prod pid).opn, .bool true] := by
      rw [hR, Tab.known, if_pos hk]; rfl
    clear hR hsl hla h hG hG1 hG2
    generalize T.prod pid = p at *
    subst e1
    have cq := cellOf hq
    have lq := ltOf hq
    go_enter Try.func32, Try.ntmps32
    go_upto_region 4 with fail
    refine wp_region_plan [(.pure, 0), (.pure, 1), (.pure, 2), (.read, 3), (.pure, 4), (.pure, 5), (.pure, 6), (.read, 7), (.pure, 8), (.pure, 9), (.pure, 10), (.read, 11), (.pure, 12), (.pure, 13), (.pure, 14), (.pure, 15)] 16 (fun W => Mods Nil (w) W) mixed (by kernel_rfl) (by kernel_rfl) (by repeat (first | exact Mods.refl | apply Mods.drew)) ?_
    repeat first
       | (refine reg_pure (v := ?_) rfl rfl ?_ ?_; rotate_left 1; (· (intro W; go_simp <;> with_reducible rfl)); simp only [Act.put, List.setIfInBounds_toArray, List.set_cons_zero, List.set_cons_succ])
       | (refine reg_read (v := ?_) rfl rfl ?_ ?_; rotate_left 1; (· (intro W hW; have hW' := Mods.cells hW; go_simp <;> with_reducible rfl)); simp only [Act.put, List.setIfInBounds_toArray, List.set_cons_zero, List.set_cons_succ])
       | (refine reg_off (by rfl) (by rfl) ?_; simp only [Act.put, List.setIfInBounds_toArray, List.set_cons_zero, List.set_cons_succ])
       | (refine reg_pure_on (v := ?_) rfl (by rfl) ?_ ?_; rotate_left 1; (· (intro W; go_simp <;> with_reducible rfl)); simp only [Act.put, List.setIfInBounds_toArray, List.set_cons_zero, List.set_cons_succ])
       | (refine reg_read_on (v := ?_) rfl (by rfl) ?_ ?_; rotate_left 1; (· (intro W hW; have hW' := Mods.cells hW; go_simp <;> with_reducible rfl)); simp only [Act.put, List.setIfInBounds_toArray, List.set_cons_zero, List.set_cons_succ])
    refine reg_done (qnp_normal ?_)
    clear cq cb hq hb lq
    go_wp2
    ((try simp only [Exit.inBlock, Exit.then]); refine bodyPost_ret (results_tmp4 rfl _ _ _) rfl ?_)
    exact ⟨rfl, Mods.refl.drew⟩
  · have hlook := h.look hb hwf
    rw [if_neg hk] at hlook
    have e1 : R = .tuple #[.int .i64 0, .int .i64 0, .int .i64 0, .bool false] := by
      rw [hR, Tab.known, if_neg hk]; rfl
    subst e1
    go_enter Try.func32, Try.ntmps32
    go_wp2
    ((try simp only [Exit.inBlock, Exit.then]); refine bodyPost_ret (results_tmp4 rfl _ _ _) rfl ?_)
    exact ⟨rfl, Mods.refl⟩
end Go.Proofs.Ytnnoicacpcahfaa
