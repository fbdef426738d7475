/- An array of uint64 in memory, all of it known; cmp.Less on uint64. No condition. -/
import Derived.Sort.Row
import Derived.Test.YtnnoicacpcahfaaSortPlain
import Derived.Test.YtnnoicacpcahfaaRegionMore
import Derived.Test.YtnnoicacpcahfaaRefPids
namespace Go.Proofs.Ytnnoicacpcahfaa
open Go.RowKit Go.Sort

/-- Block g holds d from off on; sz cells in all. -/
def Arr (g off sz : Nat) (d : Array Int) (w : World) : Prop :=
  ∃ cur, w.heap[g]? = some (.cells cur 29 (0, 0)) ∧ cur.size = sz ∧ off + d.size ≤ sz ∧ ∀ j, j < d.size → cur[off + j]? = some (.int .u64 d[j]!)

section
variable {g off sz : Nat} {d : Array Int} {w w' : World}
theorem Arr.lt (h : Arr g off sz d w) : g < w.heap.size := by obtain ⟨cur, h1, _⟩ := h; exact ltOf h1
theorem Arr.cell (h : Arr g off sz d w) (j : Nat) (hj : j < d.size) : w.cell? ⟨g, off + j, none⟩ = some (.int .u64 d[j]!) := by
  obtain ⟨cur, h1, h2, h3, h4⟩ := h
  rw [cellOf h1, h4 j hj]
theorem Arr.frz (h : Arr g off sz d w) (o : Nat) : w.frozen? ⟨g, o, none⟩ = false := by
  obtain ⟨cur, h1, _⟩ := h
  exact frzOf h1 o
theorem Arr.keep {S : Nat → Prop} (h : Arr g off sz d w) (hm : Mods S w w') (hn : ¬ S g) : Arr g off sz d w' := by
  obtain ⟨cur, h1, r⟩ := h
  exact ⟨cur, hm.keep h1 hn, r⟩
theorem Arr.drew (h : Arr g off sz d w) : Arr g off sz d w.drew := h
theorem getI (d : Array Int) (i k : Nat) (x : Int) (hi : i < d.size) : (d.setIfInBounds i x)[k]! = if k = i then x else d[k]! := by
  by_cases h : k = i
  · subst h; rw [if_pos rfl]; exact getElem!_set_same d k x hi
  · rw [if_neg h]; exact getElem!_set_other d i k x h
theorem Arr.set (h : Arr g off sz d w) (i : Nat) (hi : i < d.size) (x : Int) : Arr g off sz (d.setIfInBounds i x) (w.setCell ⟨g, off + i, none⟩ (.int .u64 x)) := by
  obtain ⟨cur, h1, h2, h3, h4⟩ := h
  refine ⟨_, heap_setCell_same h1 _ _, by simpa using h2, by simpa using h3, fun j hj => ?_⟩
  have hj' : j < d.size := by simpa using hj
  rw [getI d i j x hi]
  by_cases hji : j = i
  · subst hji
    rw [if_pos rfl, Array.getElem?_setIfInBounds_self, if_pos (by omega)]
  · rw [if_neg hji, Array.getElem?_setIfInBounds_ne (by omega)]; exact h4 j hj'
theorem Arr.mods (g off : Nat) (w : World) (v : Value) : Mods (fun k => k = g) w (w.setCell ⟨g, off, none⟩ v) := Mods.refl.setCell _ (fun _ => rfl)
/-- An exchange. -/
theorem Arr.swp (h : Arr g off sz d w) (i j : Nat) (hi : i < d.size) (hj : j < d.size) : Arr g off sz (Sort.swp d i j) ((w.setCell ⟨g, off + i, none⟩ (.int .u64 d[j]!)).setCell ⟨g, off + j, none⟩ (.int .u64 d[i]!)) :=
  (h.set i hi _).set j (by simpa using hj) _
end

theorem isNaN_walk (x : Int) (w : World) : Calls Try.prog 118 #[.int .u64 x] w fun e w' => e = .returned (.bool false) ∧ w = w' := by
  go_enter Try.func118, Try.ntmps118
  go_wp2
  go_ret
  exact ⟨rfl, rfl⟩
theorem less_walk (x y : Int) (w : World) : Calls Try.prog 111 #[.int .u64 x, .int .u64 y] w fun e w' => e = .returned (.bool (decide (x < y))) ∧ w = w' := by
  go_enter Try.func111, Try.ntmps111
  go_wp2_with fail
  refine (isNaN_walk _ _).mono ?_
  rintro e w' ⟨rfl, rfl⟩
  go_wp2
  go_ret
  exact ⟨rfl, rfl⟩
end Go.Proofs.Ytnnoicacpcahfaa
