/- The commands of ImagePlays that came in, opened. No condition. -/
import Derived.Test.YtnnoicacpcahfaaOpenSl
import Derived.Test.YtnnoicacpcahfaaImgPlays
namespace Go.Proofs.Ytnnoicacpcahfaa
open Go.RowKit

section
variable {H : Type} {enc : TypeId × Value → H}
theorem cellsCmd : Try.prog.cellsOf 61 = 6 := by kernel_rfl
theorem bytesCmd : Try.prog.bytesOf 61 = 64 := by kernel_rfl
theorem cellsIntL : Try.prog.cellsOf 59 = 1 := by kernel_rfl
theorem bytesInt : Try.prog.bytesOf 3 = 8 := by kernel_rfl

theorem openIntL {W : World} {n : Nat} {cs : List Value} {x : DataW H × List MemPlace} (h : DataW.trod enc Try.prog W 0 (fun _ => true) true n 59 cs = some x) (hw : ∀ m ∈ x.1.weights Try.prog 59, m ≤ reachBytes) :
    ∃ (xa : Option Addr) (xc : Nat) (l : List Int), cs = [.slice xa l.length xc] ∧ Rd W 1 (.slice xa l.length xc) l.length (ints l) ∧ l.length * 8 ≤ 140737488355328 := by
  rcases Go.ChangeShapes.open_ints Try.underlying59 Try.underlying3 cells3 h with ⟨rfl, _⟩ | ⟨a, len, cap, zs, rfl, _, hl, _, hz, rfl, hc, _⟩
  · exact ⟨none, 0, [], rfl, ⟨rfl, .inl ⟨rfl, rfl⟩⟩, by simp⟩
  · simp only [if_true] at hz
    have hw2 := (slice_weights Try.underlying59 hw).1
    rw [bytesInt] at hw2
    simp only [Go.ChangeShapes.lits, List.length_map, List.length_take, List.length_drop, reachBytes] at hw2
    have hlen : (zs.take len).length = len := by simp; omega
    refine ⟨some a, cap, zs.take len, by rw [hlen], ⟨by simp [ints], .inr ⟨a, cap, rfl, fun j u hu => ?_⟩⟩, by rw [hlen]; omega⟩
    have hj : j < len := by
      have := (List.getElem?_eq_some_iff.1 hu).1
      simp [ints] at this; omega
    rw [hc j (by omega), ← hu]
    have hjz : j < zs.length := by omega
    simp [ints, hj, List.getElem?_eq_getElem hjz]

theorem openCo {W : World} {n : Nat} {cs : List Value} {x : DataW H × List MemPlace} (h : DataW.trod enc Try.prog W 0 (fun _ => true) true n 61 cs = some x) (hw : ∀ m ∈ x.1.weights Try.prog 61, m ≤ reachBytes) :
    ∃ o : Co, cs = o.cells ∧ o.okIn W := by
  obtain ⟨xs, m, _, rfl, hl, hx, hf⟩ := DataW.trod_struct Try.underlying61 h
  rw [cellsCmd] at hl
  have hx6 : xs.length = 6 := hx
  have e : ∀ i, i < 6 → xs[i]? = some (xs.getD i (.nil, [])) := fun i hi => by rw [List.getD_eq_getElem?_getD, List.getElem?_eq_getElem (by omega)]; rfl
  have f0 : DataW.trod enc Try.prog W 0 (fun _ => true) true m 3 ((cs.drop 0).take (Try.prog.cellsOf 3)) = xs[0]? := hf 0 _ rfl
  have f1 : DataW.trod enc Try.prog W 0 (fun _ => true) true m 3 ((cs.drop 1).take (Try.prog.cellsOf 3)) = xs[1]? := hf 1 _ rfl
  have f2 : DataW.trod enc Try.prog W 0 (fun _ => true) true m 3 ((cs.drop 2).take (Try.prog.cellsOf 3)) = xs[2]? := hf 2 _ rfl
  have f3 : DataW.trod enc Try.prog W 0 (fun _ => true) true m 3 ((cs.drop 3).take (Try.prog.cellsOf 3)) = xs[3]? := hf 3 _ rfl
  have f4 : DataW.trod enc Try.prog W 0 (fun _ => true) true m 3 ((cs.drop 4).take (Try.prog.cellsOf 3)) = xs[4]? := hf 4 _ rfl
  have f5 : DataW.trod enc Try.prog W 0 (fun _ => true) true m 59 ((cs.drop 5).take (Try.prog.cellsOf 59)) = xs[5]? := hf 5 _ rfl
  rw [cells3, e _ (by decide)] at f0 f1 f2 f3 f4
  rw [cellsIntL, e _ (by decide)] at f5
  obtain ⟨n0, c0, _, _⟩ := DataW.trod_int Try.underlying3 f0
  obtain ⟨n1, c1, _, _⟩ := DataW.trod_int Try.underlying3 f1
  obtain ⟨n2, c2, _, _⟩ := DataW.trod_int Try.underlying3 f2
  obtain ⟨n3, c3, _, _⟩ := DataW.trod_int Try.underlying3 f3
  obtain ⟨n4, c4, _, _⟩ := DataW.trod_int Try.underlying3 f4
  obtain ⟨xa, xc, l, c5, hr, hll⟩ := openIntL f5 (agg_weights (i := 5) Try.underlying61 hw rfl (by rw [List.getElem?_map, e 5 (by decide)]; rfl))
  refine ⟨⟨n0, n1, n2, n3, n4, xa, xc, l⟩, ?_, hr, hll⟩
  apply List.ext_getElem?
  intro i
  by_cases hi : i < 6
  · have hi' : i = 0 ∨ i = 1 ∨ i = 2 ∨ i = 3 ∨ i = 4 ∨ i = 5 := by omega
    rcases hi' with rfl | rfl | rfl | rfl | rfl | rfl
    · exact drop1 c0
    · exact drop1 c1
    · exact drop1 c2
    · exact drop1 c3
    · exact drop1 c4
    · exact drop1 c5
  · rw [List.getElem?_eq_none (by omega), List.getElem?_eq_none (by simp [Co.cells]; omega)]
instance : Inhabited Co := ⟨⟨0, 0, 0, 0, 0, none, 0, []⟩⟩
theorem openCos {W : World} {n : Nat} {la : Option Addr} {ln lc : Nat} {x : DataW H × List MemPlace} (h : DataW.trod enc Try.prog W 0 (fun _ => true) true n 52 [.slice la ln lc] = some x) (hw : ∀ m ∈ x.1.weights Try.prog 52, m ≤ reachBytes) :
    ∃ l : List Co, l.length = ln ∧ Rd W 6 (.slice la l.length lc) l.length (l.flatMap Co.cells) ∧ (∀ o ∈ l, o.okIn W) ∧ l.length * 64 ≤ 140737488355328 :=
  openSl Co.cells Co.len (by decide) Try.underlying52 cellsCmd bytesCmd (fun o => o.okIn W) (fun _ _ _ h1 h2 => openCo h1 h2) h hw
end
end Go.Proofs.Ytnnoicacpcahfaa
