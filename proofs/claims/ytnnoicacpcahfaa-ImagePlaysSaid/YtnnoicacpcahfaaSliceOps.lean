/- Slicing a slice at the front and at the end, as laws at the operation; the parts can be read. No condition. -/
import Derived.Test.YtnnoicacpcahfaaBase
namespace Go.Proofs.Ytnnoicacpcahfaa
open Go

/-- x[:k] -/
def hiSl (la : Option Addr) (size k lc : Nat) : Value := .slice (if lc = 0 then la else la.map (·.add (0 * size))) k lc
/-- x[k:] -/
def loSl (la : Option Addr) (size n lc k : Nat) : Value := .slice (if lc = k then la else la.map (·.add (k * size))) (n - k) (lc - k)

section
variable {P : Program} {w : World} {t e size bytes : Nat}

theorem run_bound {k : IntKind} {i : Int} {y : Nat} {code : BoundsCode} (h0 : 0 ≤ i) (h1 : i ≤ y) : (Instr.sliceBound (.int k i) y code).run P w = .ok i.toNat w := by
  simp [Instr.sliceBound, asIntOf, h0, h1]

theorem run_slice_hi (T : ElT P t e size bytes) {la : Option Addr} {n lc : Nat} {q : IntKind} {i : Int} (h0 : 0 ≤ i) (h1 : i ≤ lc) :
    (Instr.sliceAt t (.slice la n lc) none (some (.int q i)) none).run P w = .ok (hiSl la size i.toNat lc) w := by
  obtain ⟨ht, hinfo, hpos⟩ := T
  obtain ⟨ii, hi, hi2⟩ := Option.map_eq_some_iff.1 hinfo
  simp only [Prod.mk.injEq] at hi2
  obtain ⟨hz, rfl, hby⟩ := hi2
  simp [Instr.sliceAt, Instr.slice, run_underlying ht, Instr.sliceBounds, run_bound h0 h1, sizeOf, typeInfo, hi, Result.andThen, hiSl]

theorem run_slice_lo (T : ElT P t e size bytes) {la : Option Addr} {n lc : Nat} {q : IntKind} {i : Int} (h0 : 0 ≤ i) (h1 : i ≤ n) :
    (Instr.sliceAt t (.slice la n lc) (some (.int q i)) none none).run P w = .ok (loSl la size n lc i.toNat) w := by
  obtain ⟨ht, hinfo, hpos⟩ := T
  obtain ⟨ii, hi, hi2⟩ := Option.map_eq_some_iff.1 hinfo
  simp only [Prod.mk.injEq] at hi2
  obtain ⟨hz, rfl, hby⟩ := hi2
  simp [Instr.sliceAt, Instr.slice, run_underlying ht, Instr.sliceBounds, run_bound h0 h1, sizeOf, typeInfo, hi, Result.andThen, loSl]

theorem Sl.hi {la : Option Addr} {n lc : Nat} {xs : List Value} (h : Sl w e size (.slice la n lc) n xs) (k : Nat) (hk : k ≤ n) : Rd w size (hiSl la size k lc) k (xs.take (k * size)) := by
  have hmul : k * size ≤ n * size := Nat.mul_le_mul_right _ hk
  refine ⟨by rw [List.length_take, h.1]; omega, ?_⟩
  rcases h.2 with ⟨h', h0⟩ | ⟨g, off, cap, cur, hv, hg, h1, h2, h3, h4⟩
  · simp only [Value.slice.injEq] at h'
    obtain ⟨rfl, rfl, rfl⟩ := h'
    obtain rfl : k = 0 := by omega
    exact .inl ⟨rfl, rfl⟩
  · simp only [Value.slice.injEq] at hv
    obtain ⟨rfl, _, rfl⟩ := hv
    refine .inr ⟨⟨g, off, none⟩, lc, ?_, fun j u hu => ?_⟩
    · unfold hiSl
      split
      · rfl
      · simp only [Option.map_some, Nat.zero_mul, addo, Nat.add_zero]
    · have hj : j < k * size := by have := (List.getElem?_eq_some_iff.1 hu).1; rw [List.length_take, h.1] at this; omega
      rw [List.getElem?_take_of_lt hj] at hu
      rw [addo, cellOf hg, h4 j (by omega), hu]

theorem Sl.lo {la : Option Addr} {n lc : Nat} {xs : List Value} (h : Sl w e size (.slice la n lc) n xs) (k : Nat) (hk : k ≤ n) : Rd w size (loSl la size n lc k) (n - k) (xs.drop (k * size)) := by
  have hmul : k * size ≤ n * size := Nat.mul_le_mul_right _ hk
  have hsub : n * size - k * size = (n - k) * size := (Nat.sub_mul _ _ _).symm
  refine ⟨by rw [List.length_drop, h.1, hsub], ?_⟩
  rcases h.2 with ⟨h', h0⟩ | ⟨g, off, cap, cur, hv, hg, h1, h2, h3, h4⟩
  · simp only [Value.slice.injEq] at h'
    obtain ⟨rfl, rfl, rfl⟩ := h'
    obtain rfl : k = 0 := by omega
    exact .inl ⟨rfl, rfl⟩
  · simp only [Value.slice.injEq] at hv
    obtain ⟨rfl, _, rfl⟩ := hv
    unfold loSl
    by_cases hc : lc = k
    · rw [if_pos hc]
      refine .inr ⟨⟨g, off, none⟩, lc - k, rfl, fun j u hu => ?_⟩
      have hj := (List.getElem?_eq_some_iff.1 hu).1
      rw [List.length_drop, h.1, hsub, show n - k = 0 by omega, Nat.zero_mul] at hj
      omega
    · rw [if_neg hc]
      refine .inr ⟨⟨g, off + k * size, none⟩, lc - k, by simp [addo], fun j u hu => ?_⟩
      have hj : j < n * size - k * size := by have := (List.getElem?_eq_some_iff.1 hu).1; rw [List.length_drop, h.1] at this; exact this
      rw [List.getElem?_drop] at hu
      rw [addo, cellOf hg, Nat.add_assoc, h4 (k * size + j) (by omega), hu]

variable {ops : Array Oper} {rest : List Oper} {o : Oper} {a : Act} {Q : Exit → Act → World → Prop}

theorem wpList_slice_hi (hg : o.guard = none) (x hi : Operand) (hop : o.op = Op.slice t x none (some hi) none) (T : ElT P t e size bytes) {la : Option Addr} {n lc : Nat} {q : IntKind} {i : Int} (hx : a.eval x = .slice la n lc) (hh : a.eval hi = .int q i) (h0 : 0 ≤ i) (h1 : i ≤ lc)
    (hK : wpList P ops Q rest (a.put o.dst (hiSl la size i.toNat lc)) w) : wpList P ops Q (o :: rest) a w := by
  refine wpList_plain hg fun K' hK' => ?_
  unfold Oper.wp
  simp [execOp, hop, hx, hh, run_slice_hi T h0 h1, Result.andThen]
  exact hK' _ _ hK

theorem wpList_slice_lo (hg : o.guard = none) (x lo : Operand) (hop : o.op = Op.slice t x (some lo) none none) (T : ElT P t e size bytes) {la : Option Addr} {n lc : Nat} {q : IntKind} {i : Int} (hx : a.eval x = .slice la n lc) (hh : a.eval lo = .int q i) (h0 : 0 ≤ i) (h1 : i ≤ n)
    (hK : wpList P ops Q rest (a.put o.dst (loSl la size n lc i.toNat)) w) : wpList P ops Q (o :: rest) a w := by
  refine wpList_plain hg fun K' hK' => ?_
  unfold Oper.wp
  simp [execOp, hop, hx, hh, run_slice_lo T h0 h1, Result.andThen]
  exact hK' _ _ hK
end
end Go.Proofs.Ytnnoicacpcahfaa
