/- The script of ProdPlays that came in, opened. No condition. -/
import Derived.Test.YtnnoicacpcahfaaOpenSl
import Derived.Test.YtnnoicacpcahfaaPlaysWalk
namespace Go.Proofs.Ytnnoicacpcahfaa
open Go.RowKit

section
variable {H : Type} {enc : TypeId × Value → H}
theorem cells43 : Try.prog.cellsOf 43 = 10 := by kernel_rfl
theorem bytes43 : Try.prog.bytesOf 43 = 80 := by kernel_rfl

theorem openPo {W : World} {n : Nat} {cs : List Value} {x : DataW H × List MemPlace} (h : DataW.trod enc Try.prog W 0 (fun _ => true) true n 43 cs = some x) (hw : ∀ m ∈ x.1.weights Try.prog 43, m ≤ reachBytes) :
    ∃ o : Po, cs = o.cells ∧ o.b.okIn W := by
  obtain ⟨xs, m, _, rfl, hl, hx, hf⟩ := DataW.trod_struct Try.underlying43 h
  rw [cells43] at hl
  have hx2 : xs.length = 2 := hx
  have e : ∀ i, i < 2 → xs[i]? = some (xs.getD i (.nil, [])) := fun i hi => by rw [List.getD_eq_getElem?_getD, List.getElem?_eq_getElem (by omega)]; rfl
  have f0 : DataW.trod enc Try.prog W 0 (fun _ => true) true m 3 ((cs.drop 0).take (Try.prog.cellsOf 3)) = xs[0]? := hf 0 _ rfl
  have f1 : DataW.trod enc Try.prog W 0 (fun _ => true) true m 32 ((cs.drop 1).take (Try.prog.cellsOf 32)) = xs[1]? := hf 1 _ rfl
  rw [cells3, e _ (by decide)] at f0
  rw [cells32, e _ (by decide)] at f1
  obtain ⟨n0, c0, _, _⟩ := DataW.trod_int Try.underlying3 f0
  obtain ⟨b, hb, q⟩ := openBatch f1 (agg_weights (i := 1) Try.underlying43 hw rfl (by rw [List.getElem?_map, e 1 (by decide)]; rfl))
  refine ⟨⟨n0, b⟩, ?_, q⟩
  have hc0 := drop1 c0
  clear f0 f1 h hf hx hx2 e hw
  cases cs with
  | nil => simp at hl
  | cons c r =>
    simp at hc0
    subst hc0
    rw [List.drop_succ_cons, List.drop_zero, List.take_of_length_le (by simp at hl; omega)] at hb
    show _ = _ :: _
    rw [hb]
instance : Inhabited Po := ⟨⟨0, ⟨0, 0, 0, 0, 0, false, false, false, none, 0, 0⟩⟩⟩
theorem openOps {W : World} {n : Nat} {la : Option Addr} {ln lc : Nat} {x : DataW H × List MemPlace} (h : DataW.trod enc Try.prog W 0 (fun _ => true) true n 41 [.slice la ln lc] = some x) (hw : ∀ m ∈ x.1.weights Try.prog 41, m ≤ reachBytes) :
    ∃ l : List Po, l.length = ln ∧ Rd W 10 (.slice la l.length lc) l.length (l.flatMap Po.cells) ∧ (∀ o ∈ l, o.b.okIn W) ∧ l.length * 80 ≤ 140737488355328 :=
  openSl Po.cells Po.len (by decide) Try.underlying41 cells43 bytes43 (fun o => o.b.okIn W) (fun _ _ _ h1 h2 => openPo h1 h2) h hw
end
end Go.Proofs.Ytnnoicacpcahfaa
