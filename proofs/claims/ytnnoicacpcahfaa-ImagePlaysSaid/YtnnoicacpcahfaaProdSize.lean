/- The two functions Size, walked. No condition. -/
import Derived.Test.YtnnoicacpcahfaaProdModel
import Derived.WalkKit
import Derived.WalkSpells
namespace Go.Proofs.Ytnnoicacpcahfaa
open Go.RowKit
theorem elBatch : ElT Try.prog 22 32 9 72 := ⟨Try.underlying22, by kernel_rfl, by decide⟩
theorem elAbort : ElT Try.prog 35 39 3 24 := ⟨Try.underlying35, by kernel_rfl, by decide⟩
theorem elSeen : ElT Try.prog 72 79 3 24 := ⟨Try.underlying72, by kernel_rfl, by decide⟩
theorem mixed : Try.prog.follows .mixedOrders = true := by kernel_rfl
theorem keyU64 : Maps.Keyed Try.prog 29 := Maps.int_keyed Try.underlying29
theorem size_any (base ep pid pe sq : Int) (txn ctl com : Bool) (va : Option Addr) (vn vc : Nat) (w : World) :
    Calls Try.prog 26 #[.agg #[.int .i64 base, .int .i64 ep, .int .u64 pid, .int .i64 pe, .int .i64 sq, .bool txn, .bool ctl, .bool com, .slice va vn vc]] w
      fun e w' => e = .returned (.int .i64 (if ctl then 1 else vn)) ∧ Mods Nil w w' := by
  cases ctl
  · go_enter Try.func26, Try.ntmps26
    go_wp2
    go_ret
    exact ⟨rfl, Mods.refl.alloc _⟩
  · go_enter Try.func26, Try.ntmps26
    go_wp2
    go_ret
    exact ⟨rfl, Mods.refl.alloc _⟩
theorem refsize_any (base ep pid pe sq : Int) (txn ctl com : Bool) (va : Option Addr) (vn vc : Nat) (w : World) :
    Calls Try.prog 58 #[.agg #[.int .i64 base, .int .i64 ep, .int .u64 pid, .int .i64 pe, .int .i64 sq, .bool txn, .bool ctl, .bool com, .slice va vn vc]] w
      fun e w' => e = .returned (.int .i64 (if ctl then 1 else vn)) ∧ Mods Nil w w' := by
  cases ctl
  · go_enter Try.func58, Try.ntmps58
    go_wp2
    go_ret
    exact ⟨rfl, Mods.refl.alloc _⟩
  · go_enter Try.func58, Try.ntmps58
    go_wp2
    go_ret
    exact ⟨rfl, Mods.refl.alloc _⟩
end Go.Proofs.Ytnnoicacpcahfaa
