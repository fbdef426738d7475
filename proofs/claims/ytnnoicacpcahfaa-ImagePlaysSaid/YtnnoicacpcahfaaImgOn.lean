/- The nodes on which a partition stands at the beginning. No condition. -/
import Derived.Test.YtnnoicacpcahfaaSortU
namespace Go.Proofs.Ytnnoicacpcahfaa

def onN (n c k : Nat) : List Nat := (List.range n).filter fun j => (List.range c).any fun i => (k + i) % n == j
def onL (n c k : Nat) : List Int := (onN n c k).map (fun j : Nat => (j : Int))
def rawL (n c k : Nat) : List Int := (List.range c).map fun i => (((k + i) % n : Nat) : Int)

set_option maxRecDepth 100000 in
theorem on_perm : ∀ n, n < 6 → ∀ k, k < 6 → ∀ c, c < n + 1 → ((List.range c).map fun i => (k + i) % n).isPerm (onN n c k) = true := by decide
theorem onL_sorted (n c k : Nat) : (onL n c k).Pairwise (· ≤ ·) := by
  unfold onL onN
  rw [List.pairwise_map]
  refine List.Pairwise.imp (fun {a b} h => ?_) (List.Pairwise.filter _ List.pairwise_lt_range)
  omega
theorem raw_sort {n c k : Nat} (hn : n ≤ 5) (hk : k < 6) (hc : c ≤ n) : (rawL n c k).mergeSort (fun x y => decide (x ≤ y)) = onL n c k := by
  have hp : (rawL n c k).Perm (onL n c k) := by
    have := (List.isPerm_iff.1 (on_perm n (by omega) k hk c (by omega))).map (fun j : Nat => (j : Int))
    rw [List.map_map] at this
    exact this
  exact sorted_unique ((sortI_perm _).trans hp) (sortI_sorted _) (onL_sorted n c k)
theorem onL_in {n c k : Nat} : ∀ x ∈ onL n c k, 0 ≤ x ∧ x < n := by
  intro x hx
  unfold onL onN at hx
  obtain ⟨j, hj, rfl⟩ := List.mem_map.1 hx
  have := List.mem_range.1 (List.mem_filter.1 hj).1
  omega
theorem onL_len {n c k : Nat} : (onL n c k).length ≤ n := by
  unfold onL onN
  rw [List.length_map]
  have := List.length_filter_le (fun j => (List.range c).any fun i => (k + i) % n == j) (List.range n)
  simpa using this
end Go.Proofs.Ytnnoicacpcahfaa
