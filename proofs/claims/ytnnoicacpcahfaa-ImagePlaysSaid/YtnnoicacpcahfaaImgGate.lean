/- The counter of package gate, walked: New(1, 1001), Block(10), Left. No condition. -/
import Derived.Laws.LoneSync
import Derived.Test.YtnnoicacpcahfaaImgInts
namespace Go.Proofs.Ytnnoicacpcahfaa
open Go.RowKit

def Ctr (w : World) (gc : Nat) (next : Int) : Prop := w.heap[gc]? = some (.cells #[.int .u64 next, .int .u64 1001] 130 (0, 0))

set_option maxRecDepth 100000 in
theorem atStore (w : World) (gc : Nat) (u : Value) (y : Int) (h0 : w.cell? ⟨gc, 0, none⟩ = some u) (f0 : w.frozen? ⟨gc, 0, none⟩ = false) :
    Calls Try.prog 62 #[.pointer (some ⟨gc, 0, none⟩), .int .u64 y] w fun e w' => e = .returned (.tuple #[]) ∧ w' = w.setCell ⟨gc, 0, none⟩ (.int .u64 y) := by
  have hst := run_call_store (P := Try.prog) Try.func77 (by kernel_rfl) (by kernel_rfl) (by kernel_rfl) (by kernel_rfl) (k := .u64) (y := y) h0 f0
  go_enter Try.func62, Try.ntmps62
  go_wp2
  go_end0
  exact ⟨rfl, rfl⟩
set_option maxRecDepth 100000 in
theorem atLoad (w : World) (gc : Nat) (y : Int) (h0 : w.cell? ⟨gc, 0, none⟩ = some (.int .u64 y)) :
    Calls Try.prog 93 #[.pointer (some ⟨gc, 0, none⟩)] w fun e w' => e = .returned (.int .u64 y) ∧ w' = w := by
  have hld := run_call_load (P := Try.prog) Try.func103 (by kernel_rfl) (by kernel_rfl) (by kernel_rfl) .u64 (by kernel_rfl) h0
  go_enter Try.func93, Try.ntmps93
  go_wp2
  go_ret
  exact ⟨rfl, rfl⟩
set_option maxRecDepth 100000 in
theorem atCas (w : World) (gc : Nat) (x y : Int) (h0 : w.cell? ⟨gc, 0, none⟩ = some (.int .u64 x)) (f0 : w.frozen? ⟨gc, 0, none⟩ = false) :
    Calls Try.prog 94 #[.pointer (some ⟨gc, 0, none⟩), .int .u64 x, .int .u64 y] w fun e w' => e = .returned (.bool true) ∧ w' = w.setCell ⟨gc, 0, none⟩ (.int .u64 y) := by
  have hcas := run_call_cas_hit (P := Try.prog) Try.func104 (by kernel_rfl) (by kernel_rfl) (by kernel_rfl) .u64 (by kernel_rfl) (y := y) h0 f0
  go_enter Try.func94, Try.ntmps94
  go_wp2
  go_ret
  exact ⟨rfl, rfl⟩

set_option maxRecDepth 100000 in
set_option maxHeartbeats 1600000 in
theorem gateNew_walk (w : World) :
    Calls Try.prog 37 #[.int .u64 1, .int .u64 1001] w
      fun e w' => e = .returned (.pointer (some ⟨w.heap.size, 0, none⟩)) ∧ Ctr w' w.heap.size 1 ∧ Mods Nil w w' ∧ w.heap.size < w'.heap.size := by
  have hb := heap_new w (.cells #[.int .u64 0, .int .u64 1001] 130)
  have hS := atStore _ _ _ (min 1 1001) (cellOf hb 0) (frzOf hb 0)
  go_enter Try.func37, Try.ntmps37
  go_wp2_with (go_at_call 62; refine hS.mono ?_; rintro e w' ⟨rfl, rfl⟩)
  go_ret
  exact ⟨rfl, heap_new w _, Mods.refl.alloc _, by simp⟩

set_option maxRecDepth 100000 in
set_option maxHeartbeats 1600000 in
theorem left_walk (w : World) (gc : Nat) (next : Int) (h : Ctr w gc next) (h0 : 1 ≤ next) (h1 : next ≤ 1001) :
    Calls Try.prog 73 #[.pointer (some ⟨gc, 0, none⟩)] w
      fun e w' => e = .returned (.tuple #[.int .u64 next, .int .u64 (1001 - next)]) ∧ Mods Nil w w' := by
  have c0 := cellOf h
  have l0 := ltOf h
  have hld := atLoad w gc next (c0 0)
  have hw : IntKind.u64.wrap (1001 - next) = 1001 - next := by simp [IntKind.wrap, IntKind.bits, IntKind.signed]; omega
  go_enter Try.func73, Try.ntmps73
  go_upto_region 4 with (go_at_call 93; refine hld.mono ?_; rintro e w' ⟨rfl, rfl⟩)
  refine wp_region_plan [(.pure, 0), (.pure, 1), (.pure, 2), (.pure, 3), (.read, 4), (.pure, 5), (.pure, 6), (.pure, 7), (.pure, 8)] 9 (fun W => Mods Nil _ W) mixed (by kernel_rfl) (by kernel_rfl) Mods.refl.drew ?_
  repeat first
     | (refine reg_pure (v := ?_) rfl rfl ?_ ?_; rotate_left 1; (· (intro W; go_simp <;> with_reducible rfl)); simp only [Act.put, List.setIfInBounds_toArray, List.set_cons_zero, List.set_cons_succ])
     | (refine reg_read (v := ?_) rfl rfl ?_ ?_; rotate_left 1; (· (intro W hW; have hW' := Mods.cells hW; go_simp <;> with_reducible rfl)); simp only [Act.put, List.setIfInBounds_toArray, List.set_cons_zero, List.set_cons_succ])
     | (refine reg_off (by rfl) (by rfl) ?_; simp only [Act.put, List.setIfInBounds_toArray, List.set_cons_zero, List.set_cons_succ])
     | (refine reg_pure_on (v := ?_) rfl (by rfl) ?_ ?_; rotate_left 1; (· (intro W; go_simp <;> with_reducible rfl)); simp only [Act.put, List.setIfInBounds_toArray, List.set_cons_zero, List.set_cons_succ])
     | (refine reg_read_on (v := ?_) rfl (by rfl) ?_ ?_; rotate_left 1; (· (intro W hW; have hW' := Mods.cells hW; go_simp <;> with_reducible rfl)); simp only [Act.put, List.setIfInBounds_toArray, List.set_cons_zero, List.set_cons_succ])
  refine reg_done (qnp_normal ?_)
  go_wp2
  go_ret2
  exact ⟨rfl, Mods.refl.drew⟩

set_option maxRecDepth 100000 in
set_option maxHeartbeats 1600000 in
theorem block_walk (w : World) (gc : Nat) (next : Int) (h : Ctr w gc next) (h0 : 1 ≤ next) (h1 : next ≤ 1001) :
    Calls Try.prog 72 #[.pointer (some ⟨gc, 0, none⟩), .int .u64 10] w
      fun e w' => if next + 10 > 1001 then e = .returned (.tuple #[.int .u64 0, .bool false]) ∧ Mods Nil w w'
        else e = .returned (.tuple #[.int .u64 next, .bool true]) ∧ Ctr w' gc (next + 10) ∧ Mods (fun k => k = gc) w w' := by
  have c0 := cellOf h
  have l0 := ltOf h
  have hld := atLoad w gc next (c0 0)
  have hw : IntKind.u64.wrap (1001 - next) = 1001 - next := by simp [IntKind.wrap, IntKind.bits, IntKind.signed]; omega
  by_cases hn : next + 10 > 1001
  · simp only [if_pos hn]
    have ht : 1001 - next < 10 := by omega
    clear hn
    go_enter Try.func72, Try.ntmps72
    go_wp2_with fail
    refine wp_loop_rounds 1 ?_
    rw [rounds_succ]
    go_wp2_with (go_at_call 93; refine hld.mono ?_; rintro e w' ⟨rfl, rfl⟩)
    go_ret2
    exact ⟨rfl, Mods.refl⟩
  · simp only [if_neg hn]
    have ht : ¬ 1001 - next < 10 := by omega
    have hw2 : IntKind.u64.wrap (next + 10) = next + 10 := by simp [IntKind.wrap, IntKind.bits, IntKind.signed]; omega
    have hf := heap_setCell_same h 0 (.int .u64 (next + 10))
    have hC := atCas w gc next (next + 10) (c0 0) (frzOf h 0)
    clear hn
    go_enter Try.func72, Try.ntmps72
    go_wp2_with fail
    refine wp_loop_rounds 1 ?_
    rw [rounds_succ]
    go_wp2_with (first | (go_at_call 93; refine hld.mono ?_; rintro e w' ⟨rfl, rfl⟩) | (go_at_call 94; refine hC.mono ?_; rintro e w' ⟨rfl, rfl⟩))
    go_ret2
    exact ⟨rfl, hf, Mods.refl.setCell _ (fun _ => rfl)⟩
end Go.Proofs.Ytnnoicacpcahfaa
