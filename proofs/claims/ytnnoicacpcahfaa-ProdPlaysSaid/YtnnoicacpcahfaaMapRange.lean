/- Going over a map as a list of its entries: whichever entry comes next. No condition. -/
import Derived.Maps.RangeWalk
import Derived.Test.YtnnoicacpcahfaaMap
namespace Go.Proofs.Ytnnoicacpcahfaa
open Go Go.ChangeMaps Go.MapKept

abbrev entOf (e : MapEntry) : Value × Value := (e.key, e.val)

/-- Block rb goes over the map mb, whose entries are L; todo: those still to come. -/
def RangeL (w : World) (mb rb : Nat) (L todo : List (Value × Value)) : Prop :=
  ∃ es clock since seen c0, w.heap[mb]? = some (.map es clock) ∧ Stamped es clock ∧ es.toList.map entOf = L ∧
    w.heap[rb]? = some (.mapIter (some mb) since seen c0) ∧ (∀ x ∈ es.toList, x.born < since) ∧ since ≤ c0 ∧ since ≤ clock ∧ todo = (leftOf es seen).toList.map entOf

section
variable {P : Program} {k e t : TypeId} {w : World} {mb rb : Nat} {L todo : List (Value × Value)}

theorem RangeL.ne (h : RangeL w mb rb L todo) : mb ≠ rb := by
  obtain ⟨es, clock, since, seen, c0, h1, _, _, h2, _⟩ := h
  intro e; rw [e, h2] at h1; cases h1
theorem RangeL.lt (h : RangeL w mb rb L todo) : rb < w.heap.size := by
  obtain ⟨es, clock, since, seen, c0, h1, _, _, h2, _⟩ := h
  exact ltOf h2
theorem RangeL.keep {S : Nat → Prop} {w' : World} (h : RangeL w mb rb L todo) (hm : Mods S w w') (h1 : ¬ S mb) (h2 : ¬ S rb) : RangeL w' mb rb L todo := by
  obtain ⟨es, clock, since, seen, c0, a1, a2, a3, a4, r⟩ := h
  exact ⟨es, clock, since, seen, c0, hm.keep a1 h1, a2, a3, hm.keep a4 h2, r⟩
theorem RangeL.drew (h : RangeL w mb rb L todo) : RangeL w.drew mb rb L todo := h
theorem RangeL.left_eq (h : RangeL w mb rb L todo) : w.rangeLeft mb rb = todo.length := by
  obtain ⟨es, clock, since, seen, c0, h1, _, _, h2, _, _, _, rfl⟩ := h
  simp [World.rangeLeft, h1, h2]

theorem MapL.range (h : MapL P k w mb L) (ht : P.underlying t = some (.map k e)) :
    ∃ w', (Instr.range t (.map (some mb))).run P w = .ok (.pointer (some ⟨w.heap.size, 0, none⟩)) w' ∧ RangeL w' mb w.heap.size L L ∧ Mods Nil w w' ∧ w'.heap.size = w.heap.size + 1 := by
  have hlt := h.lt
  obtain ⟨es, clock, hb, hs, hk, rfl⟩ := h
  refine ⟨_, run_range_map w t k e mb es clock ht hb, ⟨es, clock, clock, #[], clock, heap_old hb, hs, rfl, heap_new _ _, hs.1, Nat.le_refl _, Nat.le_refl _, ?_⟩, Mods.refl.alloc _, by simp⟩
  have : leftOf es #[] = es := by unfold leftOf; exact Array.filter_eq_self.2 (fun _ _ => by simp)
  rw [this]

theorem RangeL.next (h : RangeL w mb rb L todo) (ty : TypeId) :
    (todo = [] ∧ (Instr.next (.pointer (some ⟨rb, 0, none⟩)) false ty).run P w = .ok (.tuple #[.bool false]) w) ∨
    ∃ x todo' w', todo.Perm (x :: todo') ∧ (Instr.next (.pointer (some ⟨rb, 0, none⟩)) false ty).run P w = .ok (.tuple #[.bool true, x.1, x.2]) w' ∧ RangeL w' mb rb L todo' ∧ Mods (fun j => j = rb) w w' ∧ w'.heap.size = w.heap.size ∧
      (Instr.entry (.pointer (some ⟨rb, 0, none⟩))).run P w' = .ok (.tuple #[x.1, x.2]) w' := by
  have hne := h.ne
  obtain ⟨es, clock, since, seen, c0, hb, hst, rfl, hr, hold, hsc, hsk, rfl⟩ := h
  rcases run_next_at (P := P) w ty rb mb since c0 seen es clock hr hb hold hsc with ⟨h0, hrun⟩ | ⟨x, hx, w1, hal, hrun⟩
  · refine .inl ⟨?_, hrun⟩
    have : leftOf es seen = #[] := Array.eq_empty_of_size_eq_zero h0
    simp [this]
  · have hr1 : w1.heap[rb]? = some (.mapIter (some mb) since seen c0) := by rcases hal with rfl | rfl <;> exact hr
    have hb1 : w1.heap[mb]? = some (.map es clock) := by rcases hal with rfl | rfl <;> exact hb
    have hm1 : Mods Nil w w1 := by
      rcases hal with rfl | rfl
      · exact Mods.refl
      · exact Mods.refl.drew
    have hms := mods_setBlock w1 rb (.mapIter (some mb) since (seen.push x.born) clock)
    have hb' := hms.keep hb1 (fun e => hne e)
    have hr' := heap_setBlock_same (o' := .mapIter (some mb) since (seen.push x.born) clock) hr1
    have hxe : x ∈ es.toList := by
      have : x ∈ (leftOf es seen).toList := hx
      unfold leftOf at this
      rw [Array.toList_filter] at this
      exact (List.mem_filter.1 this).1
    have hbn : (es.toList.map (·.born)).Nodup := ((stamped_iff es clock).1 hst).2.1
    refine .inr ⟨entOf x, (leftOf es (seen.push x.born)).toList.map entOf, _, ?_, hrun, ⟨es, clock, since, seen.push x.born, clock, hb', hst, rfl, hr', hold, hsk, hsk, rfl⟩, ?_, ?_, run_entry_at _ rb mb since seen es clock x hr' hb' hxe hbn⟩
    · -- the others are still to come
      have e1 : (leftOf es (seen.push x.born)).toList = (leftOf es seen).toList.filter (fun y => !(y.born == x.born)) := by
        unfold leftOf
        rw [Array.toList_filter, Array.toList_filter, List.filter_filter]
        congr 1
        funext y
        simp only [Array.contains_push]
        cases seen.contains y.born <;> cases hh : (y.born == x.born) <;> simp [hh, beq_iff_eq] <;> (try (simp at hh)) <;> first | exact hh.symm | (intro e; exact hh e.symm) | skip
      have hnd : ((leftOf es seen).toList.map (·.born)).Nodup := by
        unfold leftOf
        rw [Array.toList_filter]
        exact (List.Sublist.map _ List.filter_sublist).nodup hbn
      rw [e1]
      have hmem : x ∈ (leftOf es seen).toList := hx
      generalize (leftOf es seen).toList = l at hnd hmem
      clear e1 hx hrun
      have key : ∀ l : List MapEntry, (l.map (·.born)).Nodup → x ∈ l → l.Perm (x :: l.filter (fun y => !(y.born == x.born))) := by
        intro l
        induction l with
        | nil => intro _ h; cases h
        | cons a l ih =>
          intro hn hx
          simp only [List.map_cons, List.nodup_cons] at hn
          rcases List.mem_cons.1 hx with rfl | hx
          · have : l.filter (fun y => !(y.born == x.born)) = l := List.filter_eq_self.2 (fun y hy => by
              have : ¬ y.born = x.born := fun e => hn.1 (List.mem_map.2 ⟨y, hy, e⟩)
              simp [this])
            simp [this]
          · have hne : ¬ a.born = x.born := fun e => hn.1 (List.mem_map.2 ⟨x, hx, e.symm⟩)
            rw [List.filter_cons, if_pos (by simp [hne])]
            exact ((ih hn.2 hx).cons a).trans (List.Perm.swap _ _ _)
      exact (key l hnd hmem).map entOf
    · exact (hm1.mono (S' := fun j => j = rb) (fun _ h => h.elim)).trans hms (fun _ _ h => h)
    · rcases hal with rfl | rfl <;> simp [setBlock]

variable {ops : Array Oper} {rest : List Oper} {o : Oper} {a : Act} {Q : Exit → Act → World → Prop}

theorem wpList_range_l (hg : o.guard = none) (m : Operand) (hop : o.op = Op.range t m) (ht : P.underlying t = some (.map k e)) (hm : a.eval m = .map (some mb)) (h : MapL P k w mb L)
    (hK : ∀ w', RangeL w' mb w.heap.size L L → Mods Nil w w' → w'.heap.size = w.heap.size + 1 → wpList P ops Q rest (a.put o.dst (.pointer (some ⟨w.heap.size, 0, none⟩))) w') :
    wpList P ops Q (o :: rest) a w := by
  refine wpList_plain hg fun K' hK' => ?_
  obtain ⟨w', hrun, r1, r2, r3⟩ := h.range ht
  unfold Oper.wp
  simp [execOp, hop, hm, hrun, Result.andThen]
  exact hK' _ _ (hK w' r1 r2 r3)

theorem wpList_next_l (hg : o.guard = none) (it : Operand) (hop : o.op = Op.next it false) (hit : a.eval it = .pointer (some ⟨rb, 0, none⟩)) (h : RangeL w mb rb L todo)
    (hDone : todo = [] → wpList P ops Q rest (a.put o.dst (.tuple #[.bool false])) w)
    (hMore : ∀ kx vx todo' w', todo.Perm ((kx, vx) :: todo') → RangeL w' mb rb L todo' → Mods (fun j => j = rb) w w' → w'.heap.size = w.heap.size → (Instr.entry (.pointer (some ⟨rb, 0, none⟩))).run P w' = .ok (.tuple #[kx, vx]) w' →
      wpList P ops Q rest (a.put o.dst (.tuple #[.bool true, kx, vx])) w') :
    wpList P ops Q (o :: rest) a w := by
  refine wpList_plain hg fun K' hK' => ?_
  unfold Oper.wp
  rcases h.next (P := P) o.type with ⟨h0, hrun⟩ | ⟨x, todo', w', hp, hrun, h1, h2, h3, h4⟩
  · simp [execOp, hop, hit, hrun, Result.andThen]
    exact hK' _ _ (hDone h0)
  · simp [execOp, hop, hit, hrun, Result.andThen]
    exact hK' _ _ (hMore x.1 x.2 todo' w' hp h1 h2 h3 h4)
end
end Go.Proofs.Ytnnoicacpcahfaa
