/- What the claims' reader says of what came in: weights, cells. No condition. -/
import Derived.ProofKit
import Derived.SizedLaws
import Derived.Deep.Slices
import Derived.Test.YtnnoicacpcahfaaBase
import Derived.Test.YtnnoicacpcahfaaChecked
namespace Go.Proofs.Ytnnoicacpcahfaa
open Go.RowKit

section
variable {H : Type} {enc : TypeId × Value → H}

theorem weightsAll_mem {P : Program} {e : TypeId} : ∀ {ds : List (DataW H)} {d : DataW H}, d ∈ ds → ∀ n ∈ d.weights P e, n ∈ DataW.weightsAll P e ds
  | [], _, h, _, _ => by simp at h
  | a :: r, d, h, n, hn => by
    simp only [DataW.weightsAll, List.mem_append]
    rcases List.mem_cons.1 h with h | h
    · subst h; exact .inl hn
    · exact .inr (weightsAll_mem h n hn)
theorem slice_weights {P : Program} {t e : TypeId} (hu : P.underlying t = some (.slice e)) {elems spare : List (DataW H)} (h : ∀ n ∈ (DataW.slice elems spare).weights P t, n ≤ reachBytes) :
    (elems.length + spare.length) * P.bytesOf e ≤ reachBytes ∧ ∀ d ∈ elems, ∀ n ∈ d.weights P e, n ≤ reachBytes := by
  simp only [DataW.weights, hu] at h
  exact ⟨h _ (List.mem_cons_self ..), fun d hd n hn => h n (List.mem_cons_of_mem _ (List.mem_append_left _ (weightsAll_mem hd n hn)))⟩
theorem agg_weights {P : Program} {t : TypeId} {fs : Array Field} (hu : P.underlying t = some (.struct fs)) {parts : List (DataW H)} (h : ∀ n ∈ (DataW.agg parts).weights P t, n ≤ reachBytes)
    {i : Nat} {u : TypeId} {d : DataW H} (hi : (fs.toList.map (·.type))[i]? = some u) (hd : parts[i]? = some d) : ∀ n ∈ d.weights P u, n ≤ reachBytes := by
  simp only [DataW.weights, hu] at h
  exact fun n hn => h n (DataW.weights_mem_each hi hd n hn)

theorem cellsGet {w : World} {a : Addr} {n : Nat} {cs : List Value} (h : w.cells? 0 a n = some cs) : cs.length = n ∧ ∀ j, j < n → w.cell? (a.add j) = cs[j]? := by
  obtain ⟨_, h1, h2⟩ := World.cells?_some h
  exact ⟨h1, h2⟩

theorem bytes5 : Try.prog.bytesOf 5 = 1 := by kernel_rfl
theorem cells5 : Try.prog.cellsOf 5 = 1 := by kernel_rfl
theorem bytes80 : Try.prog.bytesOf 80 = 24 := by kernel_rfl
theorem cells80 : Try.prog.cellsOf 80 = 1 := by kernel_rfl
theorem cells4 : Try.prog.cellsOf 4 = 1 := by kernel_rfl
theorem cells3 : Try.prog.cellsOf 3 = 1 := by kernel_rfl
theorem cells29 : Try.prog.cellsOf 29 = 1 := by kernel_rfl
theorem cells30 : Try.prog.cellsOf 30 = 1 := by kernel_rfl
theorem cells32 : Try.prog.cellsOf 32 = 9 := by kernel_rfl
theorem bytes32 : Try.prog.bytesOf 32 = 72 := by kernel_rfl

theorem drop1 {cs : List Value} {k : Nat} {c : Value} (h : (cs.drop k).take 1 = [c]) : cs[k]? = some c := by
  have h1 : ((cs.drop k).take 1)[0]? = some c := by rw [h]; rfl
  simpa [List.getElem?_take, List.getElem?_drop] using h1

end
end Go.Proofs.Ytnnoicacpcahfaa
