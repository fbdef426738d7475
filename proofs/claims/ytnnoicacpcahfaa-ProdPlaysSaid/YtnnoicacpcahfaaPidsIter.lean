/- maps.Keys over a map's list of entries: the iterator's contract; slices.AppendSeq(nil, seq) over any iterator that SeqStops. No condition. -/
import Derived.RangeFuncNested
import Derived.RangeFuncBound
import Derived.RangeFuncCalls
import Derived.RangeFuncLeaves
import Derived.RangeFuncBox
import Derived.Shelf.Abstract
import Derived.Shelf.AbstractIn
import Derived.Shelf.RegionOpen
import Derived.WalkKit
import Derived.OwnWalkIn
import Derived.TacticsInMore
import Derived.RegionIn
import Derived.LoopNIn
import Derived.LoopIn
import Derived.Sort.MapsRangeIn
import Derived.Maps.AppendAt
import Derived.Test.YtnnoicacpcahfaaMapRange
import Derived.Test.YtnnoicacpcahfaaSortU64
namespace Go.Proofs.Ytnnoicacpcahfaa
open Go Go.RowKit Go.Shelf Go.ChangeMaps Go.MapKept
attribute [local go_sem] Oper.semAt_some

section
variable {F : Fence} {n : Nat} {P : Program} {k e t : TypeId} {w : World} {mb rb : Nat} {L todo : List (Value × Value)}
variable {ops : Array Oper} {rest : List Oper} {o : Oper} {a : Act} {Q : Exit → Act → World → Prop}

theorem wpListIn_range_l (hg : o.guard = none) (m : Operand) (hop : o.op = Op.range t m) (ht : P.underlying t = some (.map k e)) (hm : a.eval m = .map (some mb)) (h : MapL P k w mb L)
    (hK : ∀ w', RangeL w' mb w.heap.size L L → Mods Nil w w' → w'.heap.size = w.heap.size + 1 → wpListIn F n P ops Q rest (a.put o.dst (.pointer (some ⟨w.heap.size, 0, none⟩))) w') :
    wpListIn F n P ops Q (o :: rest) a w := by
  refine wpListIn_plain hg fun K' hK' => ?_
  obtain ⟨w', hrun, r1, r2, r3⟩ := h.range ht
  unfold Oper.wpIn
  refine ⟨by simp [Oper.about, hop], ?_⟩
  rw [Oper.semAt_plain F _ _ (by rw [hop]; intro c hc'; cases hc')]
  simp [execOp, hop, hm, hrun, Result.andThen]
  exact hK' _ _ (hK w' r1 r2 r3)

theorem wpListIn_next_l (hg : o.guard = none) (it : Operand) (hop : o.op = Op.next it false) (hit : a.eval it = .pointer (some ⟨rb, 0, none⟩)) (h : RangeL w mb rb L todo)
    (hDone : todo = [] → wpListIn F n P ops Q rest (a.put o.dst (.tuple #[.bool false])) w)
    (hMore : ∀ kx vx todo' w', todo.Perm ((kx, vx) :: todo') → RangeL w' mb rb L todo' → Mods (fun j => j = rb) w w' → w'.heap.size = w.heap.size → (Instr.entry (.pointer (some ⟨rb, 0, none⟩))).run P w' = .ok (.tuple #[kx, vx]) w' →
      wpListIn F n P ops Q rest (a.put o.dst (.tuple #[.bool true, kx, vx])) w') :
    wpListIn F n P ops Q (o :: rest) a w := by
  refine wpListIn_plain hg fun K' hK' => ?_
  unfold Oper.wpIn
  refine ⟨by simp [Oper.about, hop], ?_⟩
  rw [Oper.semAt_plain F _ _ (by rw [hop]; intro c hc'; cases hc')]
  rcases h.next (P := P) o.type with ⟨h0, hrun⟩ | ⟨x, todo', w', hp, hrun, h1, h2, h3, h4⟩
  · simp [execOp, hop, hit, hrun, Result.andThen]
    exact hK' _ _ (hDone h0)
  · simp [execOp, hop, hit, hrun, Result.andThen]
    exact hK' _ _ (hMore x.1 x.2 todo' w' hp h1 h2 h3 h4)

theorem RangeL.walks {w' : World} (h : RangeL w mb rb L todo) (hk : KeepsWalks w w') : RangeL w' mb rb L todo := by
  obtain ⟨es, clock, since, seen, c0, a1, a2, a3, a4, r⟩ := h
  exact ⟨es, clock, since, seen, c0, hk.same mb _ a1 rfl, a2, a3, hk.same rb _ a4 rfl, r⟩
theorem RangeL.iter_walk (h : RangeL w mb rb L todo) : ∃ o : Obj, w.heap[rb]? = some o ∧ o.isWalk = true := by
  obtain ⟨es, clock, since, seen, c0, a1, a2, a3, a4, r⟩ := h
  exact ⟨_, a4, rfl⟩
end

theorem Mods.toGrown {r : Nat} {w w' : World} (h : Mods (fun j => j = r) w w') : w.grownBy w' (some r) :=
  ⟨h.os, h.tape, h.output, h.size, fun k hk hne => h.block k hk (fun e => hne (by rw [e]))⟩
theorem Mods.toGrownNil {w w' : World} (h : Mods Nil w w') : w.grownBy w' none :=
  ⟨h.os, h.tape, h.output, h.size, fun k hk _ => h.block k hk id⟩

/-- The key of an entry. -/
def keyI : Value × Value → Int
  | (.int _ a, _) => a
  | _ => 0

set_option maxRecDepth 100000 in
set_option maxHeartbeats 2000000 in
theorem keys1_in (F : Fence) (n : Nat) (hF : F.fn 76) (hro : F.round = none) (hn : 1 ≤ n) (l Bm mb : Nat) (ks : List Int) (addr : Int → Nat) (J Jx : List Int → World → Prop)
    (hY : ∀ pre x W, J pre W → pre.length < ks.length → YieldAt F (n - 1) Try.prog l #[.int .u64 x] W fun e W' =>
      (e = .returned (.bool true) ∧ J (pre ++ [x]) W' ∧ KeepsWalks W W') ∨ (e = .returned (.bool false) ∧ Jx (pre ++ [x]) W'))
    (W : World) (hJ : AbidesFrom W.heap.size J) (hm : W.cell? ⟨Bm, 0, none⟩ = some (.map (some mb))) (hM : MapL Try.prog 29 W mb (ks.map fun k => (.int .u64 k, .pointer (some ⟨addr k, 0, none⟩)))) (h0 : J [] W) :
    CallsIn F n Try.prog 76 #[.func (.yield l) #[] #[], .pointer (some ⟨Bm, 0, none⟩)] W fun e W' => (∃ v, e = .returned v) ∧
      ((∃ ss : List Int, ss.Perm ks ∧ J ss W') ∨ (∃ pre : List Int, True ∧ Jx pre W')) := by
  refine callsIn_of_wp Try.func76 rfl hF ?_ hro
  simp only [Try.ntmps76, List.size_toArray, List.length_cons, List.length_nil, Nat.reduceAdd, Nat.reduceSub, Array.replicate_succ, Array.replicate_zero, List.push_toArray, List.append_toArray, List.nil_append, List.cons_append]
  gi_wp2_with (first
    | (gi_at_range; refine wpListIn_range_l rfl _ rfl Try.underlying68 rfl hM ?_; intro w0 hrg0 hg0 hs0)
    | gi_in)
  go_frame
  gi_loopw [3] (fun _ wr => ∃ (todo : List (Value × Value)) (ss : List Int), RangeL wr mb W.heap.size (ks.map fun k => (.int .u64 k, .pointer (some ⟨addr k, 0, none⟩))) todo ∧ (ss ++ todo.map keyI).Perm ks ∧ (∀ y ∈ todo, ∃ k, y = (.int .u64 k, .pointer (some ⟨addr k, 0, none⟩))) ∧ J ss wr)
    (fun _ wr => wr.rangeLeft mb W.heap.size)
  case atStart =>
    refine ⟨_, [], hrg0, ?_, ?_, hJ [] W w0 none h0 hg0.toGrownNil (fun r e => by cases e)⟩
    · rw [List.nil_append, List.map_map, show (keyI ∘ fun k => ((Value.int .u64 k, Value.pointer (some ⟨addr k, 0, none⟩)) : Value × Value)) = id from rfl, List.map_id]
    · intro y hy
      obtain ⟨k, _, rfl⟩ := List.mem_map.1 hy
      exact ⟨k, rfl⟩
  case round =>
    obtain ⟨todo, ss, hrg, hp, hall, hJs⟩ := hrel
    gi_wp2_with (first
      | (gi_at_next; refine wpListIn_next_l rfl _ rfl rfl hrg ?_ ?_)
      | gi_in)
    · intro ht
      gi_wp2
      go_end0
      exact ⟨⟨_, rfl⟩, .inl ⟨ss, by simpa [ht] using hp, hJs⟩⟩
    · intro kx vx todo' w2 hpt hrg2 hg2 hs2 hen
      obtain ⟨x, ex⟩ := hall (kx, vx) (hpt.symm.subset (List.mem_cons_self ..))
      obtain ⟨rfl, rfl⟩ := _root_.Prod.mk.inj ex
      have hJ2 : J ss w2 := hJ ss wr w2 (some W.heap.size) hJs hg2.toGrown (fun r e => by cases e; exact ⟨Nat.le_refl _, hrg.iter_walk⟩)
      have hp2 : (ss ++ [x] ++ todo'.map keyI).Perm ks := by
        have := (hpt.map keyI)
        rw [List.append_assoc]
        exact ((this.symm.append_left ss).trans hp)
      have hl : ss.length < ks.length := by have := hp2.length_eq; simp at this; omega
      have hall2 : ∀ y ∈ todo', ∃ k, y = (Value.int .u64 k, Value.pointer (some ⟨addr k, 0, none⟩)) := fun y hy => hall y (hpt.symm.subset (List.mem_cons_of_mem _ hy))
      have hlt : todo'.length < todo.length := by have := hpt.length_eq; simp at this; omega
      obtain ⟨fn, tmps, assign, body, hy, hR⟩ := hY ss x w2 hJ2 hl
      clear hs2 hp hpt hall
      gi_wp2
      refine hR.mono ?_
      rintro e W3 (⟨rfl, hJ3, hk3⟩ | ⟨rfl, hJx3⟩)
      · gi_wp2
        have hrg3 := hrg2.walks hk3
        go_roundw
        case rel => exact ⟨todo', ss ++ [x], hrg3, hp2, hall2, hJ3⟩
        case measure => rw [hrg3.left_eq, hrg.left_eq]; exact hlt
      · gi_wp2
        refine bodyPost_ret (results_none rfl _ _ _) rfl ?_
        exact ⟨⟨_, rfl⟩, .inr ⟨ss ++ [x], trivial, hJx3⟩⟩

theorem infoU : (Try.prog.info? 29).map (fun i => (i.zero, i.size, i.bytes)) = some (some (.int .u64 0), 1, 8) := by kernel_rfl

theorem keys_stops (F : Fence) (n : Nat) (hF : F.fn 76) (hro : F.round = none) (hn : 1 ≤ n) (Bm mb : Nat) (ks : List Int) (addr : Int → Nat) (w : World) (hBm : Bm < w.heap.size)
    (hm : w.cell? ⟨Bm, 0, none⟩ = some (.map (some mb))) (hM : MapL Try.prog 29 w mb (ks.map fun k => (.int .u64 k, .pointer (some ⟨addr k, 0, none⟩)))) :
    SeqStopsK F n Try.prog 76 #[.pointer (some ⟨Bm, 0, none⟩)] (fun x : Int => #[Value.int .u64 x]) KeepsWalks (fun ss => ss.Perm ks) (fun _ => True) ks.length w := fun l J Jx W hW hJ _ hY h0 => by
  have hbl := hM.lt
  refine keys1_in F n hF hro hn l Bm mb ks addr J Jx hY W hJ ((hW.cell (p := ⟨Bm, 0, none⟩) hBm).trans hm) ?_ h0
  obtain ⟨es, clock, hb, r⟩ := hM
  exact ⟨es, clock, (hW.block mb hbl).trans hb, r⟩

set_option maxRecDepth 100000 in
set_option maxHeartbeats 2000000 in
theorem appendSeq_in (F : Fence) (n : Nat) (hF : F.fn 95) (hro : F.round = none) (hn : 2 ≤ n) (g : Nat) (lb : Array Value) (hFg : F.fn g) (eg : ∀ args w, (callFunc g args).run Try.prog w = .ok (.enter g args) w)
    (S Sp : List Int → Prop) (N : Nat) (hN : N ≤ maxLen) (hNb : N * 8 ≤ 140737488355328) (w : World) (hseq : SeqStopsK F (n - 1) Try.prog g lb (fun x : Int => #[Value.int .u64 x]) KeepsWalks S Sp N w) :
    CallsIn F n Try.prog 95 #[.slice none 0 0, .func (.func g) #[] lb] w fun e w' => ∃ (v : Value) (ss : List Int), e = .returned v ∧ S ss ∧ w'.ownsRow w.heap.size 29 1 v ss.length (ss.map (Value.int .u64)) ∧ Below w.heap.size w w' := by
  have h1 : 1 ≤ n := by omega
  obtain ⟨i0, hi, hz0, hz1, hz2⟩ := info_parts infoU
  refine callsIn_of_wp_marks Try.func95 rfl hF ?_ hro
  simp only [Try.ntmps95, List.size_toArray, List.length_cons, List.length_nil, Nat.reduceAdd, Nat.reduceSub, Array.replicate_succ, Array.replicate_zero, List.push_toArray, List.append_toArray, List.nil_append, List.cons_append]
  gi_wp2
  have bO := Boxed.new w 88 (.slice none 0 0)
  have hB0 : Below w.heap.size w (w.alloc (.cells #[.slice none 0 0] 88)) := (Below.refl _ w).alloc (Nat.le_refl _) _
  refine wpIn_rangeFunc_ownG hro h1 (gf := g) (lb := lb) rfl hFg eg hseq walksK_t walksK_b hB0 (fun _ => rfl)
    (fun (pre : List Int) W => (∃ v, Boxed W w.heap.size 88 v ∧ W.ownsRow w.heap.size 29 1 v pre.length (pre.map (Value.int .u64)) ∧ True) ∧ Below w.heap.size w W)
    (fun _ _ _ => False)
    (OwnFrom.and (Own.from (holdsRow_own w.heap.size w.heap.size 88 29 1 (fun pre : List Int => pre.length) (fun pre : List Int => pre.map (Value.int .u64)) (fun _ _ => True)) _) (ownFrom_below (Nat.le_refl _) (by simp)))
    (fun _ _ _ _ _ hs _ _ => hs)
    ⟨⟨_, bO, World.ownsRow_nil _ _ _ _, trivial⟩, hB0⟩
    (fun x => { tmps := #[.slice none 0 0, .func (.func g) #[] lb, .pointer (some ⟨w.heap.size, 0, none⟩), undef, .slice none 0 0, .int .u64 x, .func (.func g) #[] lb, .int .u64 x, undef, undef, undef, undef, undef], defers := [] }) ?assign ?body ?done ?stop
  case assign =>
    intro l x W K hK
    gi_wp2
    exact hK
  case body =>
    rintro l pre x W ⟨⟨v, hv, hrow, _⟩, hB⟩ hlt
    have hc := hv.cell
    gi_wp2_with (gi_at_builtin; refine wpListIn_append_own _ rfl _ _ 88 rfl w.heap.size 29 i0 (.int .u64 0) 1 8 Try.underlying88 hi hz0 hz1 hz2 rfl (by decide) _ _ _ rfl (hrow.alloc _) ⟨W.heap.size, 0, none⟩ 1 1 [.int .u64 x] rfl rfl (cell_one_new _ _ _) (by simp [Value.oneCell']) (by omega) (by omega) (by have := hB.size; simp; omega) ?_; intro v' w1 hown' hgrow _; obtain ⟨g', cap', rfl⟩ := ownsRow_succ hown'; obtain ⟨hv1, hv2, hr2, hk2, hb2⟩ := hv.appended (by decide) hrow hB.size (Nat.le_refl _) hown' hgrow; have hc1 := hv1.cell; have hf1 := hv1.frozen)
    exact ⟨hk2.from _, hk2.walks, ⟨_, hv2, by simpa using hr2, trivial⟩, hB.trans hb2⟩
  case done =>
    rintro D ys W hD hS ⟨⟨v, hv, hrow, hnil⟩, hB⟩ hK
    have hc := hv.cell
    gi_wp2
    refine ⟨by simp, .inl ⟨_, _, rfl, run_takeDeferred hK, ?_⟩⟩
    exact ⟨_, results_tmp rfl _ _ _, v, ys, rfl, hS, ownsRow_putObj hrow _ hK rfl, hB.trans (belowK_b (w := w) (Nat.le_refl _) W D _ _ (by simp at hD; omega) hK rfl rfl)⟩
  case stop =>
    rintro D c pre W _ _ h _
    exact h.elim
end Go.Proofs.Ytnnoicacpcahfaa
