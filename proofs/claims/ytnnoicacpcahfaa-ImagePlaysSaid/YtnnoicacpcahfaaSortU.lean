/- Sorted lists of numbers are one. No condition. -/
namespace Go.Proofs.Ytnnoicacpcahfaa

def sortI (l : List Int) : List Int := l.mergeSort fun x y => decide (x ≤ y)
theorem sorted_unique : ∀ {a b : List Int}, a.Perm b → a.Pairwise (· ≤ ·) → b.Pairwise (· ≤ ·) → a = b
  | [], b, h, _, _ => by rw [h.symm.eq_nil]
  | x :: a, [], h, _, _ => by have := h.eq_nil; cases this
  | x :: a, y :: b, h, ha, hb => by
    obtain ⟨a1, a2⟩ := List.pairwise_cons.1 ha
    obtain ⟨b1, b2⟩ := List.pairwise_cons.1 hb
    have hxy : x = y := by
      have h1 : x ∈ y :: b := h.subset (List.mem_cons_self ..)
      have h2 : y ∈ x :: a := h.symm.subset (List.mem_cons_self ..)
      rcases List.mem_cons.1 h1 with e | e
      · exact e
      · rcases List.mem_cons.1 h2 with e2 | e2
        · exact e2.symm
        · have := a1 y e2; have := b1 x e; omega
    subst hxy
    rw [sorted_unique ((List.perm_cons x).1 h) a2 b2]

theorem sortI_perm (l : List Int) : (sortI l).Perm l := List.mergeSort_perm _ _
theorem sortI_sorted (l : List Int) : (sortI l).Pairwise (· ≤ ·) :=
  (List.pairwise_mergeSort (le := fun x y : Int => decide (x ≤ y)) (fun a b c h1 h2 => by simp at *; omega) (fun a b => by simp; omega) l).imp (fun h => by simpa using h)
end Go.Proofs.Ytnnoicacpcahfaa
