/- What a law's row asks behind the walk, where nothing that was there has turned. No condition. -/
import Derived.Test.YtnnoicacpcahfaaOpenKit
import Derived.Test.YtnnoicacpcahfaaRows
namespace Go.Proofs.Ytnnoicacpcahfaa
open Go.ChangeShapes Go.WideShapes Go.ChangeAt Go.RowKit

theorem own : ownKnob Try.prog.godebug = none := by kernel_rfl
theorem laidOut : laidOutB Try.prog = true := by kernel_rfl


/-- 'true', nothing named, everything that came in as it was. -/
theorem post_of_nil {H : Type} {enc : TypeId × Value → H} {P : Program} {f : Func} {s : ChangeSpec} {apart fresh handsOn : Bool} {W W' : World} {args : Array Value} {v : Value} {ds gs : List (DataW H)} {before : List MemPlace}
    (hW : DataW.Whole enc P f.params.toList s.vars apart W args.toList ds gs before) (hm : Mods Nil W W')
    (hres : DataW.TrodAll enc P W' (match fresh with | true => W.heap.size | false => 0) (fun _ => false) handsOn f.resultTypes.toList (v.resultList f.resultTypes.size) (s.fn H (ds ++ gs)).results [])
    (hargs : DataW.TrodAll enc P W' 0 (fun b => decide (b < W.heap.size)) true f.params.toList args.toList (s.fn H (ds ++ gs)).args before)
    (hvars : DataW.TrodVars enc P W' (fun b => decide (b < W.heap.size)) s.vars (s.fn H (ds ++ gs)).vars []) :
    s.post enc P f apart fresh handsOn false W args v W' :=
  ⟨ds, gs, before, [], before, [], hW, hres, hargs, hvars, hm.below.frame _, fun h => by cases h⟩
end Go.Proofs.Ytnnoicacpcahfaa
