/- The image of layer 13 in memory, and what its commands make of it, in plain words. No condition. -/
import Derived.Test.YtnnoicacpcahfaaRegionMore
import Derived.Test.YtnnoicacpcahfaaSliceOps
import Derived.Test.YtnnoicacpcahfaaProdRep
namespace Go.Proofs.Ytnnoicacpcahfaa
open Go.RowKit

/-! ### In plain words -/
structure Nd where
  alive : Bool
  comes : Int
  block : Int
structure Pl where
  lead : Int
  ep : Int
  ver : Int
  isr : List Int
  rep : List Int
  tar : List Int
def ints (l : List Int) : List Value := l.map (.int .i64)
theorem ints_len (l : List Int) : (ints l).length = l.length := by simp [ints]
abbrev w64 (x : Int) : Int := wrap64 x
def isUp (nds : List Nd) (x : Int) : Bool := (nds[x.toNat]?.map Nd.alive).getD false
def elP (nds : List Nd) (p : Pl) : Pl := { p with lead := (p.isr.find? (isUp nds)).getD (-1), ep := w64 (p.ep + 1) }
def settleP (nds : List Nd) (p : Pl) : Pl :=
  if p.tar = [] then p
  else if p.tar.all (fun x => p.isr.contains x) then
    let q : Pl := { p with rep := p.tar, isr := p.tar, tar := [], ver := w64 (p.ver + 1) }
    if q.isr.contains q.lead then q else elP nds q
  else p
def goneP (nds : List Nd) (n : Int) (p : Pl) : Pl :=
  if p.isr.contains n then
    let rest := p.isr.filter (fun x => !(x == n))
    let q : Pl := if rest.any (isUp nds) then { p with isr := rest, ver := w64 (p.ver + 1) } else p
    if q.lead = n then elP nds q else q
  else p
def joinP (nds : List Nd) (n : Int) (p : Pl) : Pl :=
  if p.lead = n ∨ p.lead < 0 ∧ p.isr.contains n then elP nds p else p
/-- It rises from 'last' on, below n. -/
def risesFrom (n last : Int) : List Int → Bool
  | [] => true
  | x :: l => decide (last < x ∧ x < n) && risesFrom n x l
def rises (n : Int) (l : List Int) : Bool := !l.isEmpty && risesFrom n (-1) l
structure Im where
  nds : List Nd
  pts : List Pl
  next : Int
  count : Int
structure Cm where
  kind : Int
  node : Int
  part : Int
  ep : Int
  ver : Int
  list : List Int
def mapAt {α : Type} (l : List α) (k : Nat) (f : α → α) : List α := match l[k]? with | some a => l.set k (f a) | none => l

/-- What a partition's numbers and lists are at most. -/
structure Pl.ok (n : Nat) (p : Pl) : Prop where
  lead : -1 ≤ p.lead
  li : p.isr.length * 8 ≤ 140737488355328
  lr : p.rep.length * 8 ≤ 140737488355328
  lt : p.tar.length * 8 ≤ 140737488355328
  isr : ∀ x ∈ p.isr, 0 ≤ x ∧ x < n
  tar : ∀ x ∈ p.tar, 0 ≤ x ∧ x < n

theorem elP_ok {n : Nat} {nds : List Nd} {p : Pl} (h : p.ok n) : (elP nds p).ok n := by
  refine ⟨?_, h.li, h.lr, h.lt, h.isr, h.tar⟩
  show -1 ≤ (p.isr.find? (isUp nds)).getD (-1)
  cases hf : p.isr.find? (isUp nds) with
  | none => simp
  | some x => have := h.isr x (List.mem_of_find?_eq_some hf); simp; omega
theorem settleP_ok {n : Nat} {nds : List Nd} {p : Pl} (h : p.ok n) : (settleP nds p).ok n := by
  unfold settleP
  split
  · exact h
  · split
    · have hq : ({ p with rep := p.tar, isr := p.tar, tar := [], ver := w64 (p.ver + 1) } : Pl).ok n := ⟨h.lead, h.lt, h.lt, by simp, h.tar, by simp⟩
      dsimp only
      split
      · exact hq
      · exact elP_ok hq
    · exact h
theorem goneP_ok {n : Nat} {nds : List Nd} {p : Pl} {m : Int} (h : p.ok n) : (goneP nds m p).ok n := by
  unfold goneP
  split
  · have hq : (if (p.isr.filter (fun x => !(x == m))).any (isUp nds) then ({ p with isr := p.isr.filter (fun x => !(x == m)), ver := w64 (p.ver + 1) } : Pl) else p).ok n := by
      split
      · exact ⟨h.lead, Nat.le_trans (Nat.mul_le_mul_right 8 (List.length_filter_le ..)) h.li, h.lr, h.lt, fun x hx => h.isr x (List.mem_filter.1 hx).1, h.tar⟩
      · exact h
    have aux : ∀ q : Pl, q.ok n → (if q.lead = m then elP nds q else q).ok n := fun q hq => by
      split
      · exact elP_ok hq
      · exact hq
    exact aux _ hq
  · exact h
theorem joinP_ok {n : Nat} {nds : List Nd} {p : Pl} {m : Int} (h : p.ok n) : (joinP nds m p).ok n := by
  unfold joinP
  split
  · exact elP_ok h
  · exact h
theorem risesFrom_in {n : Nat} {last : Int} {l : List Int} (h : risesFrom n last l = true) (h0 : -1 ≤ last) : ∀ x ∈ l, 0 ≤ x ∧ x < n := by
  induction l generalizing last with
  | nil => intro x hx; cases hx
  | cons a l ih =>
    simp only [risesFrom, Bool.and_eq_true, decide_eq_true_eq] at h
    intro x hx
    rcases List.mem_cons.1 hx with rfl | hx
    · omega
    · exact ih h.2 (by omega) x hx

/-! ### In memory -/
theorem Sl.cellAt {w : World} {e size g off n c : Nat} {xs : List Value} (h : Sl w e size (.slice (some ⟨g, off, none⟩) n c) n xs) (j : Nat) (hj : j < n * size) : w.cell? ⟨g, off + j, none⟩ = xs[j]? := by
  rcases h.2 with ⟨h', _⟩ | ⟨g', off', cap', cur, hv, hg, h1, h2, h3, h4⟩
  · simp at h'
  · simp only [Value.slice.injEq, Option.some.injEq, Addr.mk.injEq] at hv
    obtain ⟨⟨rfl, rfl, _⟩, _, rfl⟩ := hv
    rw [cellOf hg]; exact h4 j hj
theorem Sl.frzAt {w : World} {e size g off n c : Nat} {xs : List Value} (h : Sl w e size (.slice (some ⟨g, off, none⟩) n c) n xs) (o : Nat) : w.frozen? ⟨g, o, none⟩ = false := by
  rcases h.2 with ⟨h', _⟩ | ⟨g', off', cap', cur, hv, hg, h1, h2, h3, h4⟩
  · simp at h'
  · simp only [Value.slice.injEq, Option.some.injEq, Addr.mk.injEq] at hv
    obtain ⟨⟨rfl, rfl, _⟩, _, rfl⟩ := hv
    exact frzOf hg o
theorem Sl.ltAt {w : World} {e size g off n c : Nat} {xs : List Value} (h : Sl w e size (.slice (some ⟨g, off, none⟩) n c) n xs) : g < w.heap.size := h.lt g rfl
theorem Sl.capAt {w : World} {e size g off n c : Nat} {xs : List Value} (h : Sl w e size (.slice (some ⟨g, off, none⟩) n c) n xs) : n ≤ c ∧ c ≤ maxLen := by
  rcases h.2 with ⟨h', _⟩ | ⟨g', off', cap', cur, hv, hg, h1, h2, h3, h4⟩
  · simp at h'
  · simp only [Value.slice.injEq, Option.some.injEq, Addr.mk.injEq] at hv
    obtain ⟨⟨rfl, rfl, _⟩, _, rfl⟩ := hv
    exact ⟨h1, h2⟩
theorem Sl.setAt {w : World} {e size g off n c : Nat} {xs : List Value} (h : Sl w e size (.slice (some ⟨g, off, none⟩) n c) n xs) (j : Nat) (hj : j < n * size) (u : Value) :
    Sl (w.setCell ⟨g, off + j, none⟩ u) e size (.slice (some ⟨g, off, none⟩) n c) n (xs.set j u) := by
  refine ⟨by rw [List.length_set]; exact h.1, .inr ?_⟩
  have hx := h.1
  rcases h.2 with ⟨h', _⟩ | ⟨g', off', cap', cur, hv, hg, h1, h2, h3, h4⟩
  · simp at h'
  · simp only [Value.slice.injEq, Option.some.injEq, Addr.mk.injEq] at hv
    obtain ⟨⟨rfl, rfl, _⟩, _, rfl⟩ := hv
    refine ⟨g, off, c, _, rfl, heap_setCell_same hg _ _, h1, h2, by simpa using h3, fun i hi => ?_⟩
    have hcs : n * size ≤ c * size := Nat.mul_le_mul_right size h1
    by_cases hij : i = j
    · subst hij
      rw [Array.getElem?_setIfInBounds_self, if_pos (by omega), List.getElem?_set_self (by omega)]
    · rw [Array.getElem?_setIfInBounds_ne (by omega), List.getElem?_set_ne (by omega)]
      exact h4 i hi
theorem flat_set {α : Type} {size : Nat} (f : α → List Value) (hf : ∀ a, (f a).length = size) : ∀ (l : List α) (k j : Nat) (a a' : α) (u : Value), l[k]? = some a → j < size → f a' = (f a).set j u → (l.flatMap f).set (k * size + j) u = (l.set k a').flatMap f
  | [], k, j, a, a', u, h, _, _ => by simp at h
  | b :: l, 0, j, a, a', u, h, hj, he => by
    simp only [List.getElem?_cons_zero, Option.some.injEq] at h
    subst h
    simp only [List.flatMap_cons, List.set_cons_zero, Nat.zero_mul, Nat.zero_add]
    rw [List.set_append_left _ _ (by rw [hf]; exact hj), he]
  | b :: l, k + 1, j, a, a', u, h, hj, he => by
    simp only [List.getElem?_cons_succ] at h
    simp only [List.flatMap_cons, List.set_cons_succ]
    rw [List.set_append_right _ _ (by rw [hf, Nat.add_mul]; omega), hf, show (k + 1) * size + j - size = k * size + j by rw [Nat.add_mul]; omega, flat_set f hf l k j a a' u h hj he]

/-- A partition in memory: where its lists lie. -/
structure Pt where
  pl : Pl
  ai : Option Addr × Nat
  ar : Option Addr × Nat
  at_ : Option Addr × Nat
def Pt.vi (p : Pt) : Value := .slice p.ai.1 p.pl.isr.length p.ai.2
def Pt.vr (p : Pt) : Value := .slice p.ar.1 p.pl.rep.length p.ar.2
def Pt.vt (p : Pt) : Value := .slice p.at_.1 p.pl.tar.length p.at_.2
def Pt.cells (p : Pt) : List Value := [.int .i64 p.pl.lead, .int .i64 p.pl.ep, .int .i64 p.pl.ver, p.vi, p.vr, p.vt]
theorem Pt.len (p : Pt) : p.cells.length = 6 := rfl
/-- A list in memory that nobody turns. -/
def Il (w : World) (A : Nat → Prop) (a : Option Addr × Nat) (l : List Int) : Prop :=
  Sl w 3 1 (.slice a.1 l.length a.2) l.length (ints l) ∧ ∀ b, a.1 = some b → ¬ A b.block
theorem Il.keep {w w' : World} {A S : Nat → Prop} {a : Option Addr × Nat} {l : List Int} (h : Il w A a l) (hm : Mods S w w') (hs : ∀ k, S k → A k) : Il w' A a l :=
  ⟨slKeep h.1 hm (fun b hb hk => h.2 b hb (hs _ hk)), h.2⟩
theorem Il.of_new {w : World} {B : Nat} {A : Nat → Prop} {la : Option Addr} {lc : Nat} {l : List Int} (h : NewSl B w 3 1 la l.length lc (ints l)) (hA : ∀ k, A k → k < B) : Il w A (la, lc) l :=
  ⟨h.1, fun b hb hk => by have := h.2 b hb; have := hA _ hk; omega⟩
theorem Il.nil {w : World} {A : Nat → Prop} : Il w A (none, 0) [] := ⟨Sl.nil _ _ _, by simp⟩
def PtAt (w : World) (A : Nat → Prop) (p : Pt) : Prop := Il w A p.ai p.pl.isr ∧ Il w A p.ar p.pl.rep ∧ Il w A p.at_ p.pl.tar
theorem PtAt.keep {w w' : World} {A S : Nat → Prop} {p : Pt} (h : PtAt w A p) (hm : Mods S w w') (hs : ∀ k, S k → A k) : PtAt w' A p :=
  ⟨h.1.keep hm hs, h.2.1.keep hm hs, h.2.2.keep hm hs⟩
/-- An array of partitions. -/
def Pts (w : World) (g off c : Nat) (A : Nat → Prop) (n : Nat) (L : List Pt) : Prop :=
  Sl w 99 6 (.slice (some ⟨g, off, none⟩) L.length c) L.length (L.flatMap Pt.cells) ∧ (∀ p ∈ L, PtAt w A p) ∧ (∀ p ∈ L, p.pl.ok n) ∧ A g ∧ ∀ k, A k → k < w.heap.size
theorem Pts.keep {w w' : World} {g off c n : Nat} {A S : Nat → Prop} {L : List Pt} (h : Pts w g off c A n L) (hm : Mods S w w') (hs : ∀ k, S k → A k) (hg : ¬ S g) : Pts w' g off c A n L :=
  ⟨slKeep h.1 hm (fun b hb => by cases hb; exact hg), fun p hp => (h.2.1 p hp).keep hm hs, h.2.2.1, h.2.2.2.1, fun k hk => hm.lt (h.2.2.2.2 k hk)⟩
theorem Pts.cells {w : World} {g off c n k : Nat} {A : Nat → Prop} {L : List Pt} {p : Pt} (h : Pts w g off c A n L) (hk : L[k]? = some p) :
    w.cell? ⟨g, off + k * 6, none⟩ = some (.int .i64 p.pl.lead) ∧ w.cell? ⟨g, off + k * 6 + 1, none⟩ = some (.int .i64 p.pl.ep) ∧ w.cell? ⟨g, off + k * 6 + 2, none⟩ = some (.int .i64 p.pl.ver) ∧
    w.cell? ⟨g, off + k * 6 + 3, none⟩ = some p.vi ∧ w.cell? ⟨g, off + k * 6 + 4, none⟩ = some p.vr ∧ w.cell? ⟨g, off + k * 6 + 5, none⟩ = some p.vt := by
  have hl : k < L.length := (List.getElem?_eq_some_iff.1 hk).1
  have key : ∀ j, j < 6 → w.cell? ⟨g, off + k * 6 + j, none⟩ = p.cells[j]? := fun j hj => by
    rw [Nat.add_assoc, h.1.cellAt _ (by omega), flat_get Pt.cells Pt.len L k j p hk hj]
  exact ⟨key 0 (by omega), key 1 (by omega), key 2 (by omega), key 3 (by omega), key 4 (by omega), key 5 (by omega)⟩
/-- One cell of one partition is written. -/
theorem Pts.set {w : World} {g off c n k j : Nat} {A : Nat → Prop} {L : List Pt} {p p' : Pt} {u : Value} (h : Pts w g off c A n L) (hk : L[k]? = some p) (hj : j < 6) (he : p'.cells = p.cells.set j u) (hp : PtAt w A p') (ho : p'.pl.ok n) :
    Pts (w.setCell ⟨g, off + k * 6 + j, none⟩ u) g off c A n (L.set k p') := by
  have hl : k < L.length := (List.getElem?_eq_some_iff.1 hk).1
  have hm : Mods A w (w.setCell ⟨g, off + k * 6 + j, none⟩ u) := Mods.refl.setCell _ (fun _ => h.2.2.2.1)
  refine ⟨?_, fun q hq => ?_, fun q hq => ?_, h.2.2.2.1, fun k hk => hm.lt (h.2.2.2.2 k hk)⟩
  · have := h.1.setAt (k * 6 + j) (by omega) u
    rw [flat_set Pt.cells Pt.len L k j p p' u hk hj he, ← Nat.add_assoc] at this
    rwa [List.length_set]
  · rcases List.mem_or_eq_of_mem_set hq with hq | rfl
    · exact (h.2.1 q hq).keep hm (fun _ => id)
    · exact hp.keep hm (fun _ => id)
  · rcases List.mem_or_eq_of_mem_set hq with hq | rfl
    · exact h.2.2.1 q hq
    · exact ho

/-! ### The image of package image -/
def Nd.cells (d : Nd) : List Value := [.bool d.alive, .int .i64 d.comes, .int .u64 d.block]
theorem Nd.len (d : Nd) : d.cells.length = 3 := rfl
/-- Where its parts lie. -/
structure Ad where
  b : Nat
  gn : Nat
  on : Nat
  cn : Nat
  gp : Nat
  op : Nat
  cp : Nat
  gc : Nat
  E : Nat → Prop
/-- Its own blocks. -/
def Ad.A (d : Ad) (k : Nat) : Prop := k = d.b ∨ k = d.gn ∨ k = d.gp ∨ k = d.gc
/-- Where no list of its lies: its own blocks, and others. -/
def Ad.F (d : Ad) (k : Nat) : Prop := d.A k ∨ d.E k
structure Ad.apart (d : Ad) : Prop where
  bn : d.b ≠ d.gn
  bp : d.b ≠ d.gp
  bc : d.b ≠ d.gc
  np : d.gn ≠ d.gp
  nc : d.gn ≠ d.gc
  pc : d.gp ≠ d.gc
def Img (w : World) (d : Ad) (nds : List Nd) (L : List Pt) (next count : Int) : Prop :=
  w.heap[d.b]? = some (.cells #[.slice (some ⟨d.gn, d.on, none⟩) nds.length d.cn, .slice (some ⟨d.gp, d.op, none⟩) L.length d.cp, .pointer (some ⟨d.gc, 0, none⟩), .int .i64 count] 95 (0, 0)) ∧
  Sl w 136 3 (.slice (some ⟨d.gn, d.on, none⟩) nds.length d.cn) nds.length (nds.flatMap Nd.cells) ∧
  Pts w d.gp d.op d.cp d.F nds.length L ∧
  w.heap[d.gc]? = some (.cells #[.int .u64 next, .int .u64 1001] 130 (0, 0)) ∧ d.apart ∧ 1 ≤ next ∧ next ≤ 1001
theorem Img.keep {w w' : World} {S : Nat → Prop} {d : Ad} {nds : List Nd} {L : List Pt} {next count : Int} (h : Img w d nds L next count) (hm : Mods S w w') (hs : ∀ k, S k → ¬ d.A k) (hi : ∀ p ∈ L, PtAt w' d.F p) : Img w' d nds L next count := by
  obtain ⟨h1, h2, h3, h4, h5⟩ := h
  have hb : ∀ k, d.A k → ¬ S k := fun k hk hs' => hs k hs' hk
  exact ⟨hm.keep h1 (hb _ (.inl rfl)), slKeep h2 hm (fun b hb' => by cases hb'; exact hb _ (.inr (.inl rfl))), ⟨slKeep h3.1 hm (fun b hb' => by cases hb'; exact hb _ (.inr (.inr (.inl rfl)))), hi, h3.2.2.1, h3.2.2.2.1, fun k hk => hm.lt (h3.2.2.2.2 k hk)⟩, hm.keep h4 (hb _ (.inr (.inr (.inr rfl)))), h5⟩
theorem Img.keepNil {w w' : World} {d : Ad} {nds : List Nd} {L : List Pt} {next count : Int} (h : Img w d nds L next count) (hm : Mods Nil w w') : Img w' d nds L next count :=
  h.keep hm (fun _ h' => h'.elim) (fun p hp => (h.2.2.1.2.1 p hp).keep hm (fun _ h' => h'.elim))
theorem Img.lt {w : World} {d : Ad} {nds : List Nd} {L : List Pt} {next count : Int} (h : Img w d nds L next count) : ∀ k, d.A k → k < w.heap.size := by
  rintro k (rfl | rfl | rfl | rfl)
  · exact ltOf h.1
  · exact h.2.1.ltAt
  · exact h.2.2.1.1.ltAt
  · exact ltOf h.2.2.2.1
theorem Img.ltF {w : World} {d : Ad} {nds : List Nd} {L : List Pt} {next count : Int} (h : Img w d nds L next count) : ∀ k, d.F k → k < w.heap.size := h.2.2.1.2.2.2.2
theorem Img.nodeCells {w : World} {d : Ad} {nds : List Nd} {L : List Pt} {next count : Int} (h : Img w d nds L next count) {k : Nat} {x : Nd} (hk : nds[k]? = some x) :
    w.cell? ⟨d.gn, d.on + k * 3, none⟩ = some (.bool x.alive) ∧ w.cell? ⟨d.gn, d.on + k * 3 + 1, none⟩ = some (.int .i64 x.comes) ∧ w.cell? ⟨d.gn, d.on + k * 3 + 2, none⟩ = some (.int .u64 x.block) := by
  have hl : k < nds.length := (List.getElem?_eq_some_iff.1 hk).1
  have key : ∀ j, j < 3 → w.cell? ⟨d.gn, d.on + k * 3 + j, none⟩ = x.cells[j]? := fun j hj => by
    rw [Nat.add_assoc, h.2.1.cellAt _ (by omega), flat_get Nd.cells Nd.len nds k j x hk hj]
  exact ⟨key 0 (by omega), key 1 (by omega), key 2 (by omega)⟩
/-- One cell of one partition is written. -/
theorem Img.setPart {w : World} {d : Ad} {nds : List Nd} {L : List Pt} {next count : Int} (h : Img w d nds L next count) {k j : Nat} {p p' : Pt} {u : Value} (hk : L[k]? = some p) (hj : j < 6) (he : p'.cells = p.cells.set j u) (hp : PtAt w d.F p') (ho : p'.pl.ok nds.length) :
    Img (w.setCell ⟨d.gp, d.op + k * 6 + j, none⟩ u) d nds (L.set k p') next count := by
  obtain ⟨h1, h2, h3, h4, h5, h6⟩ := h
  have hm : Mods (fun i => i = d.gp) w (w.setCell ⟨d.gp, d.op + k * 6 + j, none⟩ u) := Mods.refl.setCell _ (fun _ => rfl)
  refine ⟨?_, slKeep h2 hm (fun b hb' => by cases hb'; exact h5.np), h3.set hk hj he hp ho, hm.keep h4 h5.pc.symm, h5, h6⟩
  rw [List.length_set]
  exact hm.keep h1 h5.bp
/-- One cell of one node is written. -/
theorem Img.setNode {w : World} {d : Ad} {nds : List Nd} {L : List Pt} {next count : Int} (h : Img w d nds L next count) {k j : Nat} {x x' : Nd} {u : Value} (hk : nds[k]? = some x) (hj : j < 3) (he : x'.cells = x.cells.set j u) :
    Img (w.setCell ⟨d.gn, d.on + k * 3 + j, none⟩ u) d (nds.set k x') L next count := by
  obtain ⟨h1, h2, h3, h4, h5, h6⟩ := h
  have hl : k < nds.length := (List.getElem?_eq_some_iff.1 hk).1
  have hm : Mods (fun i => i = d.gn) w (w.setCell ⟨d.gn, d.on + k * 3 + j, none⟩ u) := Mods.refl.setCell _ (fun _ => rfl)
  refine ⟨?_, ?_, ?_, hm.keep h4 h5.nc.symm, h5, h6⟩
  · rw [List.length_set]; exact hm.keep h1 h5.bn
  · have := h2.setAt (k * 3 + j) (by omega) u
    rw [flat_set Nd.cells Nd.len nds k j x x' u hk hj he, ← Nat.add_assoc] at this
    rwa [List.length_set]
  · rw [List.length_set]; exact h3.keep hm (fun i hi => .inl (.inr (.inl hi))) h5.np.symm
end Go.Proofs.Ytnnoicacpcahfaa
