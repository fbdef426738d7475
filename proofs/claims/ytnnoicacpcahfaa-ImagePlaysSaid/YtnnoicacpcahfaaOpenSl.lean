/- A slice of structs that came in, opened: what each element is. No condition. -/
import Derived.Test.YtnnoicacpcahfaaOpenKit
import Derived.Test.YtnnoicacpcahfaaProdRep
namespace Go.Proofs.Ytnnoicacpcahfaa
open Go.RowKit

section
variable {H : Type} {enc : TypeId × Value → H}

theorem add_mul_add (a : Addr) (size i j : Nat) (hs : 0 < size) : a.add (i * size + j) = (a.add (i * size)).add j := by
  unfold Addr.add
  rcases Nat.eq_zero_or_pos i with hi0 | hi0
  · subst hi0; simp
  · have g0 : 0 < i * size := Nat.mul_pos hi0 hs
    have g1 : ¬ i * size = 0 := by omega
    have g2 : ¬ i * size + j = 0 := by omega
    by_cases hj0 : j = 0
    · subst hj0; simp [g1]
    · rw [if_neg g2, if_neg hj0, if_neg g1, Nat.add_assoc]

theorem openSl {α : Type} [Inhabited α] (F : α → List Value) {size bytes t e : Nat} (hlen : ∀ a, (F a).length = size) (hpos : 0 < size) (hu : Try.prog.underlying t = some (.slice e)) (hc : Try.prog.cellsOf e = size) (hb : Try.prog.bytesOf e = bytes) {W : World} (Q : α → Prop)
    (each : ∀ (n : Nat) (cs : List Value) (x : DataW H × List MemPlace), DataW.trod enc Try.prog W 0 (fun _ => true) true n e cs = some x → (∀ m ∈ x.1.weights Try.prog e, m ≤ reachBytes) → ∃ a, cs = F a ∧ Q a)
    {n : Nat} {la : Option Addr} {ln lc : Nat} {x : DataW H × List MemPlace} (h : DataW.trod enc Try.prog W 0 (fun _ => true) true n t [.slice la ln lc] = some x) (hw : ∀ m ∈ x.1.weights Try.prog t, m ≤ reachBytes) :
    ∃ l : List α, l.length = ln ∧ Rd W size (.slice la l.length lc) l.length (l.flatMap F) ∧ (∀ a ∈ l, Q a) ∧ l.length * bytes ≤ 140737488355328 := by
  rcases Go.Deep.open_slice hu h with ⟨h0, _⟩ | ⟨a, len, cap, m, n', D, Pl, h0, _, hl, _, hm, rfl, hel⟩
  · simp at h0
    obtain ⟨rfl, rfl, rfl⟩ := h0
    exact ⟨[], rfl, ⟨by simp, .inl ⟨rfl, rfl⟩⟩, by simp, by simp⟩
  · simp at h0
    obtain ⟨rfl, rfl, rfl⟩ := h0
    simp only [if_true] at hm
    subst hm
    obtain ⟨hw1, hw2⟩ := slice_weights hu hw
    rw [hb] at hw1
    simp only [List.length_map, List.length_range, reachBytes] at hw1
    have ex : ∀ i, i < ln → ∃ b : α, (∀ j, j < size → W.cell? (a.add (i * size + j)) = (F b)[j]?) ∧ Q b := by
      intro i hi
      obtain ⟨cs', h1, h2⟩ := hel i (by omega)
      rw [hc] at h1
      obtain ⟨b, rfl, q⟩ := each _ _ _ h2 (hw2 (D i) (List.mem_map.2 ⟨i, by simpa using hi, rfl⟩))
      obtain ⟨_, h3⟩ := cellsGet h1
      exact ⟨b, fun j hj => by rw [← h3 j hj, add_mul_add _ _ _ _ hpos], q⟩
    obtain ⟨f, hf⟩ := Go.Deep.choose_lt ex
    obtain ⟨l, hlx⟩ : ∃ l, l = (List.range ln).map f := ⟨_, rfl⟩
    have hll : l.length = ln := by rw [hlx]; simp
    have hli : ∀ i, i < ln → l[i]? = some (f i) := fun i hi => by rw [hlx]; simp [hi]
    have hsp : (ln + (m - ln)) * bytes ≤ 140737488355328 → ln * bytes ≤ 140737488355328 := fun h => Nat.le_trans (Nat.mul_le_mul_right _ (by omega)) h
    refine ⟨l, hll, ⟨flen F hlen l, .inr ⟨a, m, by rw [hll], fun j u hu' => ?_⟩⟩, fun b hb' => ?_, ?_⟩
    · have hj : j < l.length * size := by
        have := (List.getElem?_eq_some_iff.1 hu').1
        rwa [flen F hlen] at this
      have hi : j / size < ln := by rw [hll] at hj; exact Nat.div_lt_of_lt_mul (by rw [Nat.mul_comm]; exact hj)
      have hmod : j % size < size := Nat.mod_lt _ hpos
      have h2 := flat_get F hlen l (j / size) (j % size) (f (j / size)) (hli _ hi) hmod
      have e1 : j / size * size + j % size = j := by rw [Nat.mul_comm]; exact Nat.div_add_mod j size
      rw [e1] at h2
      have h3 := (hf (j / size) hi).1 (j % size) hmod
      rw [e1] at h3
      rw [h3, ← hu', h2]
    · obtain ⟨i, hi⟩ := List.getElem?_of_mem hb'
      have hi2 : i < ln := by have := (List.getElem?_eq_some_iff.1 hi).1; omega
      rw [hli i hi2] at hi
      simp at hi
      rw [← hi]; exact (hf i hi2).2
    · rw [hll]
      refine Nat.le_trans (Nat.mul_le_mul_right _ ?_) (Nat.le_trans hw1 (by decide))
      omega
end
end Go.Proofs.Ytnnoicacpcahfaa
