/- Words on memory for the walks: what may have turned, what a block holds, a slice of known elements, append at any offset. No condition. -/
import Derived.Laws.AppendOwn
import Derived.Below
import Derived.DataReads
import Derived.Test.YtnnoicacpcahfaaRegion
namespace Go.Proofs.Ytnnoicacpcahfaa
open Go

/-- Of the blocks of w only those in S may have turned; blocks may be new. -/
structure Mods (S : Nat → Prop) (w w' : World) : Prop where
  os : w'.os = w.os
  tape : w'.tape = w.tape
  output : w'.output = w.output
  size : w.heap.size ≤ w'.heap.size
  block : ∀ k, k < w.heap.size → ¬ S k → w'.heap[k]? = w.heap[k]?

abbrev Nil : Nat → Prop := fun _ => False

theorem ltOf {w : World} {b : Nat} {o : Obj} (h : w.heap[b]? = some o) : b < w.heap.size := (Array.getElem?_eq_some_iff.1 h).1

namespace Mods
variable {S S' : Nat → Prop} {w w1 w2 : World}
theorem refl : Mods S w w := ⟨rfl, rfl, rfl, Nat.le_refl _, fun _ _ _ => rfl⟩
theorem mono (h : Mods S w w1) (hs : ∀ k, S k → S' k) : Mods S' w w1 := ⟨h.os, h.tape, h.output, h.size, fun k hk hn => h.block k hk fun e => hn (hs k e)⟩
theorem trans (h : Mods S w w1) (h' : Mods S' w1 w2) (hs : ∀ k, k < w.heap.size → S' k → S k) : Mods S w w2 :=
  ⟨h'.os.trans h.os, h'.tape.trans h.tape, h'.output.trans h.output, Nat.le_trans h.size h'.size,
    fun k hk hn => (h'.block k (Nat.lt_of_lt_of_le hk h.size) fun e => hn (hs k hk e)).trans (h.block k hk hn)⟩
theorem keep (h : Mods S w w1) {b : Nat} {o : Obj} (hb : w.heap[b]? = some o) (hn : ¬ S b) : w1.heap[b]? = some o := (h.block b (ltOf hb) hn).trans hb
theorem lt (h : Mods S w w1) {b : Nat} (hb : b < w.heap.size) : b < w1.heap.size := Nat.lt_of_lt_of_le hb h.size
theorem drew (h : Mods S w w1) : Mods S w w1.drew := ⟨h.os, h.tape, h.output, h.size, h.block⟩
theorem drew_left (h : Mods S w.drew w1) : Mods S w w1 := ⟨h.os, h.tape, h.output, h.size, h.block⟩
theorem alloc (h : Mods S w w1) (o : Obj) : Mods S w (w1.alloc o) :=
  h.trans (S' := Nil) ⟨rfl, rfl, rfl, by simp, fun k hk _ => RowKit.Below.heap_alloc _ _ _ hk⟩ (fun _ _ e => e.elim)
theorem setCell (h : Mods S w w1) {a : Addr} (u : Value) (hs : a.block < w.heap.size → S a.block) : Mods S w (w1.setCell a u) :=
  h.trans (S' := fun k => k = a.block) ⟨rfl, rfl, rfl, by simp [World.setCell], fun k _ hn => RowKit.Below.heap_setCell _ _ _ _ hn⟩ (fun k hk e => by subst e; exact hs hk)
theorem grown {row : Option Nat} (h : Mods S w w1) (hg : w1.grownBy w2 row) (hs : ∀ k, row = some k → k < w.heap.size → S k) : Mods S w w2 :=
  h.trans (S' := fun k => row = some k) ⟨hg.os, hg.tape, hg.output, hg.size, fun k hk hn => hg.block k hk (fun e => hn e.symm)⟩ (fun k hk e => hs k e hk)
theorem below (h : Mods Nil w w1) : RowKit.Below w.heap.size w w1 := ⟨h.os, h.tape, h.output, h.size, fun k hk => h.block k hk id⟩
theorem of_below (h : RowKit.Below w.heap.size w w1) : Mods S w w1 := ⟨h.os, h.tape, h.output, h.size, fun k hk _ => h.block k hk⟩
theorem cell (h : Mods S w w1) {b : Nat} (hb : b < w.heap.size) (hn : ¬ S b) (o : Nat) : w1.cell? ⟨b, o, none⟩ = w.cell? ⟨b, o, none⟩ :=
  World.cell?_of_block (w := w) (h.block b hb hn)
end Mods

/-! ### What a block holds -/
section
variable {w : World} {b : Nat} {c : Array Value} {t : TypeId} {f : Nat × Nat}
theorem cellOf (h : w.heap[b]? = some (.cells c t f)) (o : Nat) : w.cell? ⟨b, o, none⟩ = c[o]? := by simp [World.cell?, h]
theorem frzOf (h : w.heap[b]? = some (.cells c t (0, 0))) (o : Nat) : w.frozen? ⟨b, o, none⟩ = false := by simp [World.frozen?, h]
theorem heap_setCell_same (h : w.heap[b]? = some (.cells c t f)) (o : Nat) (v : Value) : (w.setCell ⟨b, o, none⟩ v).heap[b]? = some (.cells (c.setIfInBounds o v) t f) := by
  have hlt := ltOf h
  have hv : w.heap[b] = .cells c t f := (Array.getElem?_eq_some_iff.1 h).2
  simp only [World.setCell]
  rw [Array.getElem?_eq_getElem (by simpa using hlt), Array.getElem_modify]
  simp [hv]
theorem heap_setCell_ne {a : Addr} (h : b ≠ a.block) (v : Value) : (w.setCell a v).heap[b]? = w.heap[b]? := RowKit.Below.heap_setCell _ _ _ _ h
theorem heap_new (w : World) (o : Obj) : (w.alloc o).heap[w.heap.size]? = some o := heap_alloc_new w o
theorem heap_old {o o' : Obj} (h : w.heap[b]? = some o) : (w.alloc o').heap[b]? = some o := (RowKit.Below.heap_alloc _ _ _ (ltOf h)).trans h
end

/-! ### Slices of known elements -/

/-- v is a slice of n elements of the type e (size cells each), which hold xs; what lies in its capacity may be written. -/
def Sl (w : World) (e : TypeId) (size : Nat) (v : Value) (n : Nat) (xs : List Value) : Prop :=
  xs.length = n * size ∧
  ((v = .slice none 0 0 ∧ n = 0) ∨
   ∃ g off cap cur, v = .slice (some ⟨g, off, none⟩) n cap ∧ w.heap[g]? = some (.cells cur e (0, 0)) ∧ n ≤ cap ∧ cap ≤ maxLen ∧ off + cap * size ≤ cur.size ∧ ∀ j, j < n * size → cur[off + j]? = xs[j]?)

/-- x is a slice that can be read: m elements that hold news. -/
def Rd (w : World) (size : Nat) (x : Value) (m : Nat) (news : List Value) : Prop :=
  news.length = m * size ∧ ((x = .slice none 0 0 ∧ m = 0) ∨ ∃ ad c, x = .slice (some ad) m c ∧ ∀ j u, news[j]? = some u → w.cell? (ad.add j) = some u)

/-- Facts of a slice type t, of its element type e. -/
structure ElT (P : Program) (t e size bytes : Nat) : Prop where
  und : P.underlying t = some (.slice e)
  info : (P.info? e).map (fun i => (i.zero.map (·.cells.size), i.size, i.bytes)) = some (some size, size, bytes)
  pos : 0 < size

section
variable {P : Program} {w : World} {t e size bytes : Nat} {v : Value} {n : Nat} {xs : List Value}

theorem Sl.nil (w : World) (e : TypeId) (size : Nat) : Sl w e size (.slice none 0 0) 0 [] := ⟨by simp, .inl ⟨rfl, rfl⟩⟩

theorem Sl.lt (h : Sl w e size v n xs) : ∀ k, v.ownBlock = some k → k < w.heap.size := by
  intro k hk
  rcases h.2 with ⟨rfl, _⟩ | ⟨g, off, cap, cur, rfl, hg, _⟩
  · simp [Value.ownBlock] at hk
  · simp [Value.ownBlock] at hk
    subst hk
    exact ltOf hg

theorem Sl.form (h : Sl w e size v n xs) : ∃ a c, v = .slice a n c := by
  rcases h.2 with ⟨rfl, rfl⟩ | ⟨g, off, cap, cur, rfl, _⟩
  · exact ⟨_, _, rfl⟩
  · exact ⟨_, _, rfl⟩

theorem Sl.keep {S : Nat → Prop} {w' : World} (h : Sl w e size v n xs) (hm : Mods S w w') (hn : ∀ k, v.ownBlock = some k → ¬ S k) : Sl w' e size v n xs := by
  refine ⟨h.1, ?_⟩
  rcases h.2 with h | ⟨g, off, cap, cur, rfl, hg, r⟩
  · exact .inl h
  · exact .inr ⟨g, off, cap, cur, rfl, hm.keep hg (hn g rfl), r⟩

theorem Sl.rd (h : Sl w e size v n xs) : Rd w size v n xs := by
  refine ⟨h.1, ?_⟩
  rcases h.2 with h' | ⟨g, off, cap, cur, rfl, hg, h1, h2, h3, h4⟩
  · exact .inl h'
  · refine .inr ⟨_, _, rfl, fun j u hu => ?_⟩
    have hj : j < n * size := by rw [← h.1]; exact (List.getElem?_eq_some_iff.1 hu).1
    have : (⟨g, off, none⟩ : Addr).add j = ⟨g, off + j, none⟩ := by unfold Addr.add; split <;> simp_all
    rw [this, cellOf hg, h4 j hj, hu]

theorem Rd.keep {S : Nat → Prop} {w' : World} {x : Value} {m : Nat} {news : List Value} (h : Rd w size x m news) (hm : Mods S w w') (hn : ∀ k, x.ownBlock = some k → ¬ S k) : Rd w' size x m news := by
  refine ⟨h.1, ?_⟩
  rcases h.2 with h | ⟨ad, c, rfl, hc⟩
  · exact .inl h
  · refine .inr ⟨ad, c, rfl, fun j u hu => ?_⟩
    have := hc j u hu
    have hb : (ad.add j).block = ad.block := by unfold Addr.add; split <;> simp
    have hlt := World.block_lt_of_cell? w _ this
    rw [World.cell?_of_block (w := w) (hm.block _ hlt (by rw [hb]; exact hn _ rfl))]
    exact this

theorem run_append_room_at (T : ElT P t e size bytes) (ty : TypeId)
    (g off sLen sCap : Nat) (cur : Array Value) (hg : w.heap[g]? = some (.cells cur e (0, 0)))
    (x : Value) (m : Nat) (news : List Value) (hx : Rd w size x m news) (h1 : ∀ u ∈ news, u.oneCell' = true)
    (hroom : sLen + m ≤ sCap) (hfit : off + sLen * size + news.length ≤ cur.size) :
    (Builtin.append_ #[t, t] ty #[.slice (some ⟨g, off, none⟩) sLen sCap, x]).run P w =
      .ok (.slice (some ⟨g, off, none⟩) (sLen + m) sCap) (w.setRow g (cur.toList.take (off + sLen * size) ++ news ++ cur.toList.drop (off + sLen * size + news.length)).toArray) := by
  obtain ⟨ht, hinfo, hpos⟩ := T
  obtain ⟨i, hi, hi2⟩ := Option.map_eq_some_iff.1 hinfo
  simp only [Prod.mk.injEq] at hi2
  obtain ⟨hz, rfl, hby⟩ := hi2
  have hadd : (⟨g, off, none⟩ : Addr).add (sLen * i.size) = ⟨g, off + sLen * i.size, none⟩ := by unfold Addr.add; split <;> simp_all
  have hst := run_storeCells_at P g (off + sLen * i.size) e news 0 cur w hg (by simpa using hfit) h1
  simp only [Nat.add_zero] at hst
  obtain ⟨hl, ⟨rfl, rfl⟩ | ⟨ad, c, rfl, hnews⟩⟩ := hx
  · have hn : news = [] := List.eq_nil_of_length_eq_zero (by simpa using hl)
    subst hn
    have hroom' : sLen ≤ sCap := by omega
    simp only [List.append_nil, List.length_nil, Nat.add_zero] at hst ⊢
    simp [Builtin.append_, run_underlying ht, sizeOf, typeInfo, hi, Builtin.lenOf, hroom', Builtin.firstCells, hadd, hst]
  · have hf := run_firstCells_some (P := P) w i.size m ad m c news hl hnews
    simp [Builtin.append_, run_underlying ht, sizeOf, typeInfo, hi, Builtin.lenOf, hroom, hf, hadd, hst]

/-- APPEND, whatever the room: the new slice's elements, what may have turned, where it lies. -/
theorem run_append_sl (T : ElT P t e size bytes) (ty : TypeId) (h : Sl w e size v n xs) {x : Value} {m : Nat} {news : List Value} (hx : Rd w size x m news) (h1 : ∀ u ∈ news, u.oneCell' = true)
    (h63 : n + m ≤ maxLen) (hb : (n + m) * bytes ≤ 140737488355328) :
    ∃ v' w', (Builtin.append_ #[t, t] ty #[v, x]).run P w = .ok v' w' ∧ Sl w' e size v' (n + m) (xs ++ news) ∧ w.grownBy w' v.ownBlock ∧
      (v'.ownBlock = v.ownBlock ∨ v'.ownBlock = some w.heap.size) ∧ (v' = .slice none 0 0 ↔ v = .slice none 0 0 ∧ m = 0) := by
  have hT := T
  obtain ⟨ht, hinfo, hpos⟩ := T
  obtain ⟨i, hi, hi2⟩ := Option.map_eq_some_iff.1 hinfo
  simp only [Prod.mk.injEq] at hi2
  obtain ⟨hz, rfl, rfl⟩ := hi2
  obtain ⟨z, hz, hzs⟩ := Option.map_eq_some_iff.1 hz
  have hsmall : n + m ≤ 9223372036854775807 := by simp only [maxLen] at h63; omega
  have hlen : (xs ++ news).length = (n + m) * i.size := by rw [List.length_append, h.1, hx.1, Nat.add_mul]
  have grown : ∀ (old : Nat), old < n + m → ∀ (row : Option Nat),
      Sl (w.drew.alloc (.cells (xs.toArray ++ news.toArray ++ Builtin.zeroCells z.cells (grownCap w (n + m) old e - (n + m))) e)) e i.size
        (.slice (some ⟨w.heap.size, 0, none⟩) (n + m) (grownCap w (n + m) old e)) (n + m) (xs ++ news) ∧
      w.grownBy (w.drew.alloc (.cells (xs.toArray ++ news.toArray ++ Builtin.zeroCells z.cells (grownCap w (n + m) old e - (n + m))) e)) row := by
    intro old ho row
    have hge := grownCap_ge w (n + m) old e
    have hcm : grownCap w (n + m) old e ≤ maxLen := grownCap_le_maxLen w (n + m) old e h63
    refine ⟨⟨hlen, .inr ⟨w.heap.size, 0, _, _, rfl, heap_alloc_new w.drew _, hge, hcm, ?_, ?_⟩⟩, ⟨rfl, rfl, rfl, by simp, fun k hk _ => heap_alloc_old w.drew _ k hk⟩⟩
    · simp only [Array.size_append, List.size_toArray, size_zeroCells, hzs, h.1, hx.1, ← Nat.add_mul]
      rw [show n + m + (grownCap w (n + m) old e - (n + m)) = grownCap w (n + m) old e by omega]
      omega
    · intro j hj
      rw [Nat.zero_add]
      have hj' : j < (xs.toArray ++ news.toArray).size := by
        rw [Array.size_append]; simp only [List.size_toArray]; rw [← List.length_append, hlen]; exact hj
      rw [Array.getElem?_append_left hj']
      simp
  rcases h.2 with ⟨rfl, rfl⟩ | ⟨g, off, cap, cur, rfl, hg, hnc, hcm, hcs, htake⟩
  · have hxs : xs = [] := List.eq_nil_of_length_eq_zero (by simpa using h.1)
    subst hxs
    by_cases hm : m = 0
    · subst hm
      have hn : news = [] := List.eq_nil_of_length_eq_zero (by simpa using hx.1)
      subst hn
      refine ⟨.slice none 0 0, w, ?_, Sl.nil w e i.size, ⟨rfl, rfl, rfl, Nat.le_refl _, fun _ _ _ => rfl⟩, .inl rfl, by simp⟩
      rcases hx.2 with ⟨rfl, _⟩ | ⟨ad, c, rfl, _⟩
      · simp [Builtin.append_, run_underlying ht, sizeOf, typeInfo, hi, Builtin.lenOf, Builtin.firstCells]
      · simp [Builtin.append_, run_underlying ht, sizeOf, typeInfo, hi, Builtin.lenOf, Builtin.firstCells, loadCells, loadCellsFrom]
    · rcases hx.2 with ⟨_, h0⟩ | ⟨ad, c, rfl, hnews⟩
      · exact absurd h0 hm
      have hr := run_append_nil (P := P) w t ty e i z ht hi hz ad m c news hx.1 hnews (by omega) (by omega) (by have hb := hb; simp only [Nat.zero_add] at hb; omega)
      have hgr := grown 0 (by omega) (Value.ownBlock (.slice none 0 0))
      simp only [Nat.zero_add, List.nil_append, Array.empty_append] at hgr ⊢
      exact ⟨_, _, hr, hgr.1, hgr.2, .inr rfl, by simp [hm]⟩
  · by_cases hroom : n + m ≤ cap
    · have hfit : off + n * i.size + news.length ≤ cur.size := by
        rw [hx.1, Nat.add_assoc, ← Nat.add_mul]
        exact Nat.le_trans (Nat.add_le_add_left (Nat.mul_le_mul_right _ hroom) _) hcs
      have hr := run_append_room_at (w := w) hT ty g off n cap cur hg x m news hx h1 hroom hfit
      refine ⟨_, _, hr, ⟨hlen, .inr ⟨g, off, cap, _, rfl, setRow_heap w g cur _ e _ hg, hroom, hcm, ?_, ?_⟩⟩, ⟨rfl, rfl, rfl, by simp, fun k _ hk => setRow_other w g k _ (fun e => hk (by simp [Value.ownBlock, e]))⟩, .inl rfl, by simp⟩
      · simp only [List.size_toArray, List.length_append, List.length_take, List.length_drop, Array.length_toList]
        omega
      · intro j hj
        have hn : (cur.toList.take (off + n * i.size)).length = off + n * i.size := by
          rw [List.length_take, Array.length_toList]; omega
        rw [List.getElem?_toArray, List.append_assoc]
        by_cases hjn : j < n * i.size
        · rw [List.getElem?_append_left (by rw [hn]; omega), List.getElem?_take_of_lt (by omega), List.getElem?_append_left (by rw [h.1]; exact hjn), ← htake j hjn]
          simp
        · rw [List.getElem?_append_right (by rw [hn]; omega), hn, show off + j - (off + n * i.size) = j - n * i.size by omega]
          rw [List.getElem?_append_left (by rw [hx.1]; rw [Nat.add_mul] at hj; omega)]
          rw [List.getElem?_append_right (by rw [h.1]; omega), h.1]
    · have holds : ∀ j u, xs[j]? = some u → w.cell? ((⟨g, off, none⟩ : Addr).add j) = some u := by
        intro j u hu
        have hj : j < n * i.size := by rw [← h.1]; exact (List.getElem?_eq_some_iff.1 hu).1
        have : (⟨g, off, none⟩ : Addr).add j = ⟨g, off + j, none⟩ := by unfold Addr.add; split <;> simp_all
        rw [this, cellOf hg, htake j hj, hu]
      rcases hx.2 with ⟨_, h0⟩ | ⟨ad, c, rfl, hnews⟩
      · omega
      have hr := run_append_grow (P := P) w t ty e i z ht hi hz ⟨g, off, none⟩ n cap xs h.1 holds ad m c news hx.1 hnews (by omega) (by omega) (growslice_fits (by omega) hb)
      have hgr := grown cap (by omega) (Value.ownBlock (.slice (some ⟨g, off, none⟩) n cap))
      exact ⟨_, _, hr, hgr.1, hgr.2, .inr rfl, by simp⟩

/-- APPEND AT AN OPERATION. -/
theorem wp_append_sl {o : Oper} {a : Act} {K : Act → World → Prop} {Q : Exit → Act → World → Prop} (s x : Operand)
    (ho : o.op = .call { callee := .builtin .append, args := #[s, x], argTypes := #[t, t] })
    (T : ElT P t e size bytes) (hs : a.eval s = v) (h : Sl w e size v n xs) {xv : Value} {m : Nat} {news : List Value} (hxv : a.eval x = xv) (hx : Rd w size xv m news) (h1 : ∀ u ∈ news, u.oneCell' = true)
    (h63 : n + m ≤ maxLen) (hb : (n + m) * bytes ≤ 140737488355328)
    (hK : ∀ v' w', Sl w' e size v' (n + m) (xs ++ news) → w.grownBy w' v.ownBlock → (v'.ownBlock = v.ownBlock ∨ v'.ownBlock = some w.heap.size) → (v' = .slice none 0 0 ↔ v = .slice none 0 0 ∧ m = 0) → K (a.put o.dst v') w') : o.wp P a w K Q := by
  obtain ⟨v', w', hr, h2, h3, h4, h5⟩ := run_append_sl (P := P) T o.type h hx h1 h63 hb
  unfold Oper.wp execOp
  simp only [ho, resolve, invoke, builtin, Sem.run_bind, Sem.run_pure, Result.andThen_ok, List.map_toArray, List.map_cons, List.map_nil, hs, hxv, hr]
  exact hK v' w' h2 h3 h4 h5
end
end Go.Proofs.Ytnnoicacpcahfaa
namespace Go.Proofs.Ytnnoicacpcahfaa
open Go
theorem Mods.cells {w w1 : World} (h : Mods Nil w w1) (b o : Nat) (hb : b < w.heap.size) : w1.cell? ⟨b, o, none⟩ = w.cell? ⟨b, o, none⟩ := h.cell hb id o
theorem alloc_size (w : World) (o : Obj) : (w.alloc o).heap.size = w.heap.size + 1 := by simp
end Go.Proofs.Ytnnoicacpcahfaa
namespace Go.Proofs.Ytnnoicacpcahfaa
open Go
theorem add0 (b j : Nat) : (⟨b, 0, none⟩ : Addr).add j = ⟨b, j, none⟩ := by unfold Addr.add; split <;> simp_all
theorem addo (b o j : Nat) : (⟨b, o, none⟩ : Addr).add j = ⟨b, o + j, none⟩ := by unfold Addr.add; split <;> simp_all
theorem Rd.blk {w : World} {b : Nat} {cs : List Value} {t : TypeId} {f : Nat × Nat} {size m c : Nat} (h : w.heap[b]? = some (.cells cs.toArray t f)) (hl : cs.length = m * size) : Rd w size (.slice (some ⟨b, 0, none⟩) m c) m cs :=
  ⟨hl, .inr ⟨_, _, rfl, fun j u hu => by rw [add0, cellOf h, ← hu]; simp⟩⟩
theorem heap_drew (w : World) : w.drew.heap = w.heap := rfl
end Go.Proofs.Ytnnoicacpcahfaa
namespace Go.Proofs.Ytnnoicacpcahfaa
open Go
theorem Sl.drop1 {w : World} {e size n lc : Nat} {la : Option Addr} {xs : List Value} (h : Sl w e size (.slice la (n + 1) lc) (n + 1) xs) :
    ∃ g off, la = some ⟨g, off, none⟩ ∧ n + 1 ≤ lc ∧ Sl w e size (.slice (some ⟨g, off + size, none⟩) n (lc - 1)) n (xs.drop size) := by
  rcases h.2 with ⟨_, h0⟩ | ⟨g, off, cap, cur, hv, hg, h1, h2, h3, h4⟩
  · omega
  · simp only [Value.slice.injEq] at hv
    obtain ⟨rfl, _, rfl⟩ := hv
    refine ⟨g, off, rfl, h1, ?_, .inr ⟨g, off + size, lc - 1, cur, rfl, hg, by omega, by omega, ?_, ?_⟩⟩
    · rw [List.length_drop, h.1, Nat.add_mul]; omega
    · obtain ⟨m, rfl⟩ : ∃ m, lc = m + 1 := ⟨lc - 1, by omega⟩
      rw [Nat.add_mul] at h3
      simp only [Nat.add_sub_cancel]
      omega
    · intro j hj
      rw [List.getElem?_drop, ← h4 (size + j) (by rw [Nat.add_mul]; omega), Nat.add_assoc]
end Go.Proofs.Ytnnoicacpcahfaa
namespace Go.Proofs.Ytnnoicacpcahfaa
open Go
theorem flat_get {α : Type} {size : Nat} (f : α → List Value) (hf : ∀ a, (f a).length = size) : ∀ (l : List α) (k j : Nat) (a : α), l[k]? = some a → j < size → (l.flatMap f)[k * size + j]? = (f a)[j]?
  | [], k, j, a, h, _ => by simp at h
  | x :: l, 0, j, a, h, hj => by
    simp at h; subst h
    rw [List.flatMap_cons, Nat.zero_mul, Nat.zero_add, List.getElem?_append_left (by rw [hf]; exact hj)]
  | x :: l, k + 1, j, a, h, hj => by
    rw [List.flatMap_cons, List.getElem?_append_right (by rw [hf, Nat.add_mul]; omega), hf, show (k + 1) * size + j - size = k * size + j by rw [Nat.add_mul]; omega]
    exact flat_get f hf l k j a (by simpa using h) hj
theorem Rd.form {w : World} {size n lc : Nat} {la : Option Addr} {xs : List Value} (h : Rd w size (.slice la n lc) n xs) (hs : 0 < size) (hn : 0 < n) :
    ∃ g off, la = some ⟨g, off, none⟩ ∧ g < w.heap.size ∧ ∀ j, j < n * size → w.cell? ⟨g, off + j, none⟩ = xs[j]? := by
  obtain ⟨hl, ⟨_, h0⟩ | ⟨ad, c, hv, hc⟩⟩ := h
  · omega
  · simp only [Value.slice.injEq] at hv
    obtain ⟨rfl, _, rfl⟩ := hv
    obtain ⟨g, off, spot⟩ := ad
    have hpos : 0 < xs.length := by rw [hl]; exact Nat.mul_pos hn hs
    have h0 := hc 0 _ (List.getElem?_eq_getElem hpos)
    have hsp : spot = none := by
      have := World.cell?_spot h0
      simpa [Addr.add] using this
    subst hsp
    refine ⟨g, off, rfl, ?_, fun j hj => ?_⟩
    · have := World.block_lt_of_cell? w _ h0
      simpa [Addr.add] using this
    · have hj' : j < xs.length := by rw [hl]; exact hj
      have := hc j _ (List.getElem?_eq_getElem hj')
      rw [addo] at this
      rw [this, List.getElem?_eq_getElem hj']
end Go.Proofs.Ytnnoicacpcahfaa
namespace Go.Proofs.Ytnnoicacpcahfaa
open Go
theorem results_tmp4 {fn : Func} {t u v x : Tmp} (h : fn.results = #[.tmp t, .tmp u, .tmp v, .tmp x]) (tmps : Array Value) (P : Program) (w : World) :
    (results fn tmps).run P w = .ok (.tuple #[tmps.getD t undef, tmps.getD u undef, tmps.getD v undef, tmps.getD x undef]) w := by
  simp [results, h]
end Go.Proofs.Ytnnoicacpcahfaa
namespace Go.Proofs.Ytnnoicacpcahfaa
open Go
theorem wpList_append_sl {P : Program} {w : World} {t e size bytes : Nat} {v : Value} {n : Nat} {xs : List Value} {ops : Array Oper} {rest : List Oper} {o : Oper} {a : Act} {Q : Exit → Act → World → Prop} (hgd : o.guard = none) (s x : Operand)
    (ho : o.op = .call { callee := .builtin .append, args := #[s, x], argTypes := #[t, t] })
    (T : ElT P t e size bytes) (hs : a.eval s = v) (h : Sl w e size v n xs) {xv : Value} {m : Nat} {news : List Value} (hxv : a.eval x = xv) (hx : Rd w size xv m news) (h1 : ∀ u ∈ news, u.oneCell' = true)
    (h63 : n + m ≤ maxLen) (hb : (n + m) * bytes ≤ 140737488355328)
    (hK : ∀ v' w', Sl w' e size v' (n + m) (xs ++ news) → w.grownBy w' v.ownBlock → (v'.ownBlock = v.ownBlock ∨ v'.ownBlock = some w.heap.size) → (v' = .slice none 0 0 ↔ v = .slice none 0 0 ∧ m = 0) → wpList P ops Q rest (a.put o.dst v') w') : wpList P ops Q (o :: rest) a w :=
  wpList_plain hgd fun _ hK' => wp_append_sl s x ho T hs h hxv hx h1 h63 hb (fun v' w' a b c d => hK' _ _ (hK v' w' a b c d))
/-- A slice of the call's own: new, or of one of its own blocks. -/
def NewSl (B : Nat) (w : World) (e size : Nat) (la : Option Addr) (n lc : Nat) (xs : List Value) : Prop :=
  Sl w e size (.slice la n lc) n xs ∧ ∀ a, la = some a → B ≤ a.block
theorem NewSl.nil {B : Nat} {w : World} {e size : Nat} : NewSl B w e size none 0 0 [] := ⟨Sl.nil _ _ _, by simp⟩
theorem ownOf {la : Option Addr} {n lc k : Nat} (h : (Value.slice la n lc).ownBlock = some k) : ∃ a, la = some a ∧ a.block = k := by
  cases la with
  | none => simp [Value.ownBlock] at h
  | some a => simp [Value.ownBlock] at h; exact ⟨a, rfl, h⟩
theorem NewSl.keep {B : Nat} {w w' : World} {e size : Nat} {la : Option Addr} {n lc : Nat} {xs : List Value} {S : Nat → Prop} (h : NewSl B w e size la n lc xs) (hm : Mods S w w') (hn : ∀ k, B ≤ k → ¬ S k) : NewSl B w' e size la n lc xs :=
  ⟨h.1.keep hm (fun k hk => by obtain ⟨a, ha, rfl⟩ := ownOf hk; exact hn _ (h.2 a ha)), h.2⟩
/-- One more appended to a slice of the call's own. -/
theorem NewSl.app {B : Nat} {W w w' : World} {e size n lc : Nat} {la : Option Addr} {xs : List Value} (h : NewSl B w e size la n lc xs) (hB : B ≤ w.heap.size) {v' : Value} {n' : Nat} {xs' : List Value} (h' : Sl w' e size v' n' xs')
    (hg : w.grownBy w' (Value.slice la n lc).ownBlock) (ho : v'.ownBlock = (Value.slice la n lc).ownBlock ∨ v'.ownBlock = some w.heap.size) (hm : Mods Nil W w) (hW : W.heap.size ≤ B) :
    ∃ la' lc', v' = .slice la' n' lc' ∧ NewSl B w' e size la' n' lc' xs' ∧ Mods Nil W w' := by
  obtain ⟨la', lc', rfl⟩ := h'.form
  refine ⟨la', lc', rfl, ⟨h', fun a ha => ?_⟩, hm.grown hg (fun k hk hlt => ?_)⟩
  · subst ha
    rcases ho with ho | ho
    · obtain ⟨x, hx, hxa⟩ := ownOf (k := a.block) (by rw [← ho]; rfl)
      rw [← hxa]; exact h.2 x hx
    · simp [Value.ownBlock] at ho; omega
  · obtain ⟨x, hx, rfl⟩ := ownOf hk
    have := h.2 x hx
    omega
end Go.Proofs.Ytnnoicacpcahfaa
namespace Go.Proofs.Ytnnoicacpcahfaa
open Go
theorem heap_new' {w : World} {n : Nat} (o : Obj) (h : n = w.heap.size) : (w.alloc o).heap[n]? = some o := by subst h; exact heap_new w o
end Go.Proofs.Ytnnoicacpcahfaa
namespace Go.Proofs.Ytnnoicacpcahfaa
open Go
theorem size_setCell (w : World) (a : Addr) (v : Value) : (w.setCell a v).heap.size = w.heap.size := by simp [World.setCell]
end Go.Proofs.Ytnnoicacpcahfaa
