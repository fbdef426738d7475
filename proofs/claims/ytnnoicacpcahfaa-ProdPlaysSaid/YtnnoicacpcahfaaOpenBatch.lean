/- Batches that came in, opened: what the claims' reader says of them, turned into what the walks ask. No condition. -/
import Derived.ProofKit
import Derived.SizedLaws
import Derived.Deep.Slices
import Derived.Test.YtnnoicacpcahfaaProdWalk
namespace Go.Proofs.Ytnnoicacpcahfaa
open Go.RowKit

section
variable {H : Type} {enc : TypeId × Value → H}

theorem weightsAll_mem {P : Program} {e : TypeId} : ∀ {ds : List (DataW H)} {d : DataW H}, d ∈ ds → ∀ n ∈ d.weights P e, n ∈ DataW.weightsAll P e ds
  | [], _, h, _, _ => by simp at h
  | a :: r, d, h, n, hn => by
    simp only [DataW.weightsAll, List.mem_append]
    rcases List.mem_cons.1 h with h | h
    · subst h; exact .inl hn
    · exact .inr (weightsAll_mem h n hn)
theorem slice_weights {P : Program} {t e : TypeId} (hu : P.underlying t = some (.slice e)) {elems spare : List (DataW H)} (h : ∀ n ∈ (DataW.slice elems spare).weights P t, n ≤ reachBytes) :
    (elems.length + spare.length) * P.bytesOf e ≤ reachBytes ∧ ∀ d ∈ elems, ∀ n ∈ d.weights P e, n ≤ reachBytes := by
  simp only [DataW.weights, hu] at h
  exact ⟨h _ (List.mem_cons_self ..), fun d hd n hn => h n (List.mem_cons_of_mem _ (List.mem_append_left _ (weightsAll_mem hd n hn)))⟩
theorem agg_weights {P : Program} {t : TypeId} {fs : Array Field} (hu : P.underlying t = some (.struct fs)) {parts : List (DataW H)} (h : ∀ n ∈ (DataW.agg parts).weights P t, n ≤ reachBytes)
    {i : Nat} {u : TypeId} {d : DataW H} (hi : (fs.toList.map (·.type))[i]? = some u) (hd : parts[i]? = some d) : ∀ n ∈ d.weights P u, n ≤ reachBytes := by
  simp only [DataW.weights, hu] at h
  exact fun n hn => h n (DataW.weights_mem_each hi hd n hn)

theorem cellsGet {w : World} {a : Addr} {n : Nat} {cs : List Value} (h : w.cells? 0 a n = some cs) : cs.length = n ∧ ∀ j, j < n → w.cell? (a.add j) = cs[j]? := by
  obtain ⟨_, h1, h2⟩ := World.cells?_some h
  exact ⟨h1, h2⟩

theorem bytes5 : Try.prog.bytesOf 5 = 1 := by kernel_rfl
theorem cells5 : Try.prog.cellsOf 5 = 1 := by kernel_rfl
theorem bytes80 : Try.prog.bytesOf 80 = 24 := by kernel_rfl
theorem cells80 : Try.prog.cellsOf 80 = 1 := by kernel_rfl
theorem cells4 : Try.prog.cellsOf 4 = 1 := by kernel_rfl
theorem cells3 : Try.prog.cellsOf 3 = 1 := by kernel_rfl
theorem cells29 : Try.prog.cellsOf 29 = 1 := by kernel_rfl
theorem cells30 : Try.prog.cellsOf 30 = 1 := by kernel_rfl
theorem cells32 : Try.prog.cellsOf 32 = 9 := by kernel_rfl
theorem bytes32 : Try.prog.bytesOf 32 = 72 := by kernel_rfl

theorem openBytes {W : World} {n : Nat} {cs : List Value} {x : DataW H × List MemPlace} (h : DataW.trod enc Try.prog W 0 (fun _ => true) true n 80 cs = some x) (hw : ∀ m ∈ x.1.weights Try.prog 80, m ≤ reachBytes) :
    ∃ v : Vl × List Int, cs = [v.1.val] ∧ v.1.n = v.2.length ∧ Rd W 1 (.slice v.1.a v.2.length v.1.c) v.2.length (u8s v.2) ∧ v.2.length ≤ 140737488355328 := by
  rcases Go.ChangeShapes.open_ints Try.underlying80 Try.underlying5 cells5 h with ⟨rfl, _⟩ | ⟨a, len, cap, zs, rfl, _, hl, _, hz, rfl, hc, _⟩
  · exact ⟨(⟨none, 0, 0⟩, []), rfl, rfl, ⟨rfl, .inl ⟨rfl, rfl⟩⟩, by simp⟩
  · simp only [if_true] at hz
    have hw2 := (slice_weights Try.underlying80 hw).1
    rw [bytes5] at hw2
    simp only [Go.ChangeShapes.lits, List.length_map, List.length_take, List.length_drop, reachBytes] at hw2
    have hlen : (zs.take len).length = len := by simp; omega
    refine ⟨(⟨some a, len, cap⟩, zs.take len), rfl, hlen.symm, ⟨by simp [u8s], .inr ⟨a, cap, rfl, fun j u hu => ?_⟩⟩, by simp; omega⟩
    have hj : j < len := by
      have := (List.getElem?_eq_some_iff.1 hu).1
      simp [u8s] at this; omega
    rw [hc j (by omega), ← hu]
    have hjz : j < zs.length := by omega
    simp [u8s, hj, List.getElem?_eq_getElem hjz]

theorem openVals {W : World} {n : Nat} {cs : List Value} {x : DataW H × List MemPlace} (h : DataW.trod enc Try.prog W 0 (fun _ => true) true n 30 cs = some x) (hw : ∀ m ∈ x.1.weights Try.prog 30, m ≤ reachBytes) :
    ∃ (va : Option Addr) (vn vc : Nat) (vals : List (List Int)), cs = [.slice va vn vc] ∧ ValsRd W va vn vc vals (fun _ => True) ∧ (∀ x ∈ vals, x.length ≤ 140737488355328) ∧ vn * 24 ≤ 140737488355328 := by
  rcases Go.Deep.open_slice Try.underlying30 h with ⟨rfl, _⟩ | ⟨a, len, cap, m, n', D, Pl, rfl, _, hl, _, hm, rfl, hel⟩
  · exact ⟨none, 0, 0, [], rfl, ⟨by simp, rfl, [], rfl, ⟨rfl, .inl ⟨rfl, rfl⟩⟩, by simp⟩, by simp, by simp⟩
  · simp only [if_true] at hm
    subst hm
    obtain ⟨hw1, hw2⟩ := slice_weights Try.underlying30 hw
    rw [bytes80] at hw1
    simp only [List.length_map, List.length_range, reachBytes] at hw1
    have each : ∀ i, i < len → ∃ v : Vl × List Int, W.cell? (a.add i) = some v.1.val ∧ v.1.n = v.2.length ∧ Rd W 1 (.slice v.1.a v.2.length v.1.c) v.2.length (u8s v.2) ∧ v.2.length ≤ 140737488355328 := by
      intro i hi
      obtain ⟨cs', h1, h2⟩ := hel i (by omega)
      rw [cells80, Nat.mul_one] at h1
      obtain ⟨v, rfl, q1, q2, q3⟩ := openBytes h2 (hw2 (D i) (List.mem_map.2 ⟨i, by simpa using hi, rfl⟩))
      obtain ⟨_, h3⟩ := cellsGet h1
      have h4 := h3 0 (by decide)
      have e0 : (a.add i).add 0 = a.add i := by simp [Addr.add]
      rw [e0] at h4
      exact ⟨v, h4, q1, q2, q3⟩
    haveI : Inhabited (Vl × List Int) := ⟨(⟨none, 0, 0⟩, [])⟩
    obtain ⟨f, hf⟩ := Go.Deep.choose_lt each
    refine ⟨some a, len, m, (List.range len).map (fun i => (f i).2), rfl, ⟨by simp, by simp, (List.range len).map (fun i => (f i).1), by simp, ⟨by simp, .inr ⟨a, m, rfl, fun j u hu => ?_⟩⟩, ?_⟩, ?_, by omega⟩
    · have hj : j < len := by
        have := (List.getElem?_eq_some_iff.1 hu).1
        simpa using this
      simp [hj] at hu
      rw [← hu]; exact (hf j hj).1
    · intro i v x hv hx
      have hi : i < len := by
        have := (List.getElem?_eq_some_iff.1 hv).1
        simpa using this
      simp [hi] at hv hx
      subst hv; subst hx
      exact ⟨(hf i hi).2.1, (hf i hi).2.2.1, fun _ _ => trivial⟩
    · intro x hx
      obtain ⟨i, hi, rfl⟩ := List.mem_map.1 hx
      exact (hf i (by simpa using hi)).2.2.2

theorem drop1 {cs : List Value} {k : Nat} {c : Value} (h : (cs.drop k).take 1 = [c]) : cs[k]? = some c := by
  have h1 : ((cs.drop k).take 1)[0]? = some c := by rw [h]; rfl
  simpa [List.getElem?_take, List.getElem?_drop] using h1

theorem openBatch {W : World} {n : Nat} {cs : List Value} {x : DataW H × List MemPlace} (h : DataW.trod enc Try.prog W 0 (fun _ => true) true n 32 cs = some x) (hw : ∀ m ∈ x.1.weights Try.prog 32, m ≤ reachBytes) :
    ∃ b : Bt, cs = b.cells ∧ b.okIn W := by
  obtain ⟨xs, m, _, rfl, hl, hx, hf⟩ := DataW.trod_struct Try.underlying32 h
  rw [cells32] at hl
  have hx9 : xs.length = 9 := hx
  have e : ∀ i, i < 9 → xs[i]? = some (xs.getD i (.nil, [])) := fun i hi => by rw [List.getD_eq_getElem?_getD, List.getElem?_eq_getElem (by omega)]; rfl
  have f0 : DataW.trod enc Try.prog W 0 (fun _ => true) true m 3 ((cs.drop 0).take (Try.prog.cellsOf 3)) = xs[0]? := hf 0 _ rfl
  have f1 : DataW.trod enc Try.prog W 0 (fun _ => true) true m 3 ((cs.drop 1).take (Try.prog.cellsOf 3)) = xs[1]? := hf 1 _ rfl
  have f2 : DataW.trod enc Try.prog W 0 (fun _ => true) true m 29 ((cs.drop 2).take (Try.prog.cellsOf 29)) = xs[2]? := hf 2 _ rfl
  have f3 : DataW.trod enc Try.prog W 0 (fun _ => true) true m 3 ((cs.drop 3).take (Try.prog.cellsOf 3)) = xs[3]? := hf 3 _ rfl
  have f4 : DataW.trod enc Try.prog W 0 (fun _ => true) true m 3 ((cs.drop 4).take (Try.prog.cellsOf 3)) = xs[4]? := hf 4 _ rfl
  have f5 : DataW.trod enc Try.prog W 0 (fun _ => true) true m 4 ((cs.drop 5).take (Try.prog.cellsOf 4)) = xs[5]? := hf 5 _ rfl
  have f6 : DataW.trod enc Try.prog W 0 (fun _ => true) true m 4 ((cs.drop 6).take (Try.prog.cellsOf 4)) = xs[6]? := hf 6 _ rfl
  have f7 : DataW.trod enc Try.prog W 0 (fun _ => true) true m 4 ((cs.drop 7).take (Try.prog.cellsOf 4)) = xs[7]? := hf 7 _ rfl
  have f8 : DataW.trod enc Try.prog W 0 (fun _ => true) true m 30 ((cs.drop 8).take (Try.prog.cellsOf 30)) = xs[8]? := hf 8 _ rfl
  rw [cells3, e _ (by decide)] at f0 f1 f3 f4
  rw [cells29, e _ (by decide)] at f2
  rw [cells4, e _ (by decide)] at f5 f6 f7
  rw [cells30, e _ (by decide)] at f8
  obtain ⟨n0, c0, _, _⟩ := DataW.trod_int Try.underlying3 f0
  obtain ⟨n1, c1, _, _⟩ := DataW.trod_int Try.underlying3 f1
  obtain ⟨n2, c2, _, w2⟩ := DataW.trod_int Try.underlying29 f2
  obtain ⟨n3, c3, _, _⟩ := DataW.trod_int Try.underlying3 f3
  obtain ⟨n4, c4, _, _⟩ := DataW.trod_int Try.underlying3 f4
  obtain ⟨n5, c5, _⟩ := DataW.trod_bool Try.underlying4 f5
  obtain ⟨n6, c6, _⟩ := DataW.trod_bool Try.underlying4 f6
  obtain ⟨n7, c7, _⟩ := DataW.trod_bool Try.underlying4 f7
  obtain ⟨va, vn, vc, vals, c8, hv, hvx, hvn⟩ := openVals f8 (agg_weights (i := 8) Try.underlying32 hw rfl (by rw [List.getElem?_map, e 8 (by decide)]; rfl))
  refine ⟨⟨n0, n1, n2, n3, n4, n5, n6, n7, va, vn, vc⟩, ?_, ⟨vals, _, hv, hvx⟩, hvn, w2, ?_⟩
  · apply List.ext_getElem?
    intro i
    by_cases hi : i < 9
    · have hi' : i = 0 ∨ i = 1 ∨ i = 2 ∨ i = 3 ∨ i = 4 ∨ i = 5 ∨ i = 6 ∨ i = 7 ∨ i = 8 := by omega
      rcases hi' with rfl | rfl | rfl | rfl | rfl | rfl | rfl | rfl | rfl
      · exact drop1 c0
      · exact drop1 c1
      · exact drop1 c2
      · exact drop1 c3
      · exact drop1 c4
      · exact drop1 c5
      · exact drop1 c6
      · exact drop1 c7
      · exact drop1 c8
    · rw [List.getElem?_eq_none (by omega), List.getElem?_eq_none (by simp [Bt.cells]; omega)]
  · simp only [Lit.wf, Bool.and_eq_true, decide_eq_true_eq] at w2
    have e0 : IntKind.min .u64 = 0 := by decide
    rw [e0] at w2
    exact w2.1

theorem openBatches {W : World} {n : Nat} {la : Option Addr} {ln lc : Nat} {x : DataW H × List MemPlace} (h : DataW.trod enc Try.prog W 0 (fun _ => true) true n 22 [.slice la ln lc] = some x) (hw : ∀ m ∈ x.1.weights Try.prog 22, m ≤ reachBytes) :
    ∃ l : List Bt, l.length = ln ∧ Rd W 9 (.slice la l.length lc) l.length (l.flatMap Bt.cells) ∧ (∀ b ∈ l, b.okIn W) ∧ l.length * 72 ≤ 140737488355328 := by
  rcases Go.Deep.open_slice Try.underlying22 h with ⟨h0, _⟩ | ⟨a, len, cap, m, n', D, Pl, h0, _, hl, _, hm, rfl, hel⟩
  · simp at h0
    obtain ⟨rfl, rfl, rfl⟩ := h0
    exact ⟨[], rfl, ⟨rfl, .inl ⟨rfl, rfl⟩⟩, by simp, by simp⟩
  · simp at h0
    obtain ⟨rfl, rfl, rfl⟩ := h0
    simp only [if_true] at hm
    subst hm
    obtain ⟨hw1, hw2⟩ := slice_weights Try.underlying22 hw
    rw [bytes32] at hw1
    simp only [List.length_map, List.length_range, reachBytes] at hw1
    have each : ∀ i, i < ln → ∃ b : Bt, (∀ j, j < 9 → W.cell? (a.add (i * 9 + j)) = b.cells[j]?) ∧ b.okIn W := by
      intro i hi
      obtain ⟨cs', h1, h2⟩ := hel i (by omega)
      rw [cells32] at h1
      obtain ⟨b, rfl, q⟩ := openBatch h2 (hw2 (D i) (List.mem_map.2 ⟨i, by simpa using hi, rfl⟩))
      obtain ⟨_, h3⟩ := cellsGet h1
      refine ⟨b, fun j hj => ?_, q⟩
      rw [← h3 j hj]
      have e3 : a.add (i * 9 + j) = (a.add (i * 9)).add j := by
        unfold Addr.add
        rcases Nat.eq_zero_or_pos i with hi0 | hi0
        · subst hi0; simp
        · have g1 : ¬ i * 9 = 0 := by omega
          have g2 : ¬ i * 9 + j = 0 := by omega
          by_cases hj0 : j = 0
          · subst hj0; simp [g1]
          · rw [if_neg g2, if_neg hj0, if_neg g1, Nat.add_assoc]
      rw [e3]
    haveI : Inhabited Bt := ⟨⟨0, 0, 0, 0, 0, false, false, false, none, 0, 0⟩⟩
    obtain ⟨f, hf⟩ := Go.Deep.choose_lt each
    obtain ⟨l, hlx⟩ : ∃ l, l = (List.range ln).map f := ⟨_, rfl⟩
    have hll : l.length = ln := by rw [hlx]; simp
    have hli : ∀ i, i < ln → l[i]? = some (f i) := fun i hi => by rw [hlx]; simp [hi]
    refine ⟨l, hll, ⟨by rw [flen Bt.cells Bt.len], .inr ⟨a, m, by rw [hll], fun j u hu => ?_⟩⟩, fun b hb => ?_, by omega⟩
    · have hj : j < l.length * 9 := by
        have := (List.getElem?_eq_some_iff.1 hu).1
        rwa [flen Bt.cells Bt.len] at this
      have hi : j / 9 < ln := by omega
      have h2 := flat_get Bt.cells Bt.len l (j / 9) (j % 9) (f (j / 9)) (hli _ hi) (by omega)
      have e1 : j / 9 * 9 + j % 9 = j := by omega
      rw [e1] at h2
      have h3 := (hf (j / 9) hi).1 (j % 9) (by omega)
      rw [e1] at h3
      rw [h3, ← hu, h2]
    · obtain ⟨i, hi⟩ := List.getElem?_of_mem hb
      have hi2 : i < ln := by have := (List.getElem?_eq_some_iff.1 hi).1; omega
      rw [hli i hi2] at hi
      simp at hi
      rw [← hi]; exact (hf i hi2).2
end
end Go.Proofs.Ytnnoicacpcahfaa
