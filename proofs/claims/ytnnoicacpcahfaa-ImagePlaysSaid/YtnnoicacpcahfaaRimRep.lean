/- The reference's image of layer 13 in memory. No condition. -/
import Derived.Test.YtnnoicacpcahfaaImgSettle
namespace Go.Proofs.Ytnnoicacpcahfaa
open Go.RowKit

/-- Where its parts lie. -/
structure RAd where
  b : Nat
  ga : Nat
  gm : Nat
  gk : Nat
  gp : Nat
  op : Nat
  cp : Nat
def RAd.A (d : RAd) (k : Nat) : Prop := k = d.b ∨ k = d.ga ∨ k = d.gm ∨ k = d.gk ∨ k = d.gp
structure RAd.apart (d : RAd) : Prop where
  ba : d.b ≠ d.ga
  bm : d.b ≠ d.gm
  bk : d.b ≠ d.gk
  bp : d.b ≠ d.gp
  am : d.ga ≠ d.gm
  ak : d.ga ≠ d.gk
  ap : d.ga ≠ d.gp
  m_k : d.gm ≠ d.gk
  mp : d.gm ≠ d.gp
  kp : d.gk ≠ d.gp
structure RImg (w : World) (d : RAd) (nds : List Nd) (L : List Pt) (next count : Int) : Prop where
  box : w.heap[d.b]? = some (.cells #[.slice (some ⟨d.ga, 0, none⟩) nds.length nds.length, .slice (some ⟨d.gm, 0, none⟩) nds.length nds.length, .slice (some ⟨d.gk, 0, none⟩) nds.length nds.length, .slice (some ⟨d.gp, d.op, none⟩) L.length d.cp, .int .u64 next, .int .i64 count] 102 (0, 0))
  al : Sl w 4 1 (.slice (some ⟨d.ga, 0, none⟩) nds.length nds.length) nds.length (nds.map fun x => .bool x.alive)
  co : Sl w 3 1 (.slice (some ⟨d.gm, 0, none⟩) nds.length nds.length) nds.length (nds.map fun x => .int .i64 x.comes)
  bl : Sl w 29 1 (.slice (some ⟨d.gk, 0, none⟩) nds.length nds.length) nds.length (nds.map fun x => .int .u64 x.block)
  pts : Pts w d.gp d.op d.cp d.A nds.length L
  ap : d.apart
  n1 : 1 ≤ next
  n2 : next ≤ 1001
section
variable {w w' : World} {d : RAd} {nds : List Nd} {L L' : List Pt} {next count : Int}
theorem RImg.keep {S : Nat → Prop} (h : RImg w d nds L next count) (hm : Mods S w w') (hs : ∀ k, S k → ¬ d.A k) (hi : ∀ p ∈ L, PtAt w' d.A p) : RImg w' d nds L next count := by
  have hb : ∀ k, d.A k → ¬ S k := fun k hk hs' => hs k hs' hk
  exact ⟨hm.keep h.box (hb _ (.inl rfl)), slKeep h.al hm (fun b hb' => by cases hb'; exact hb _ (.inr (.inl rfl))), slKeep h.co hm (fun b hb' => by cases hb'; exact hb _ (.inr (.inr (.inl rfl)))), slKeep h.bl hm (fun b hb' => by cases hb'; exact hb _ (.inr (.inr (.inr (.inl rfl))))),
    ⟨slKeep h.pts.1 hm (fun b hb' => by cases hb'; exact hb _ (.inr (.inr (.inr (.inr rfl))))), hi, h.pts.2.2.1, h.pts.2.2.2.1, fun k hk => hm.lt (h.pts.2.2.2.2 k hk)⟩, h.ap, h.n1, h.n2⟩
theorem RImg.keepNil (h : RImg w d nds L next count) (hm : Mods Nil w w') : RImg w' d nds L next count :=
  h.keep hm (fun _ h' => h'.elim) (fun p hp => (h.pts.2.1 p hp).keep hm (fun _ h' => h'.elim))
theorem RImg.lt (h : RImg w d nds L next count) : ∀ k, d.A k → k < w.heap.size := by
  rintro k (rfl | rfl | rfl | rfl | rfl)
  · exact ltOf h.box
  · exact h.al.ltAt
  · exact h.co.ltAt
  · exact h.bl.ltAt
  · exact h.pts.1.ltAt
/-- The partitions have turned. -/
theorem RImg.turnP (h : RImg w d nds L next count) (hm : Mods (fun i => i = d.gp) w w') (hl : L'.length = L.length) (hp : Pts w' d.gp d.op d.cp d.A nds.length L') : RImg w' d nds L' next count := by
  refine ⟨?_, slKeep h.al hm (fun b hb' => by cases hb'; exact h.ap.ap), slKeep h.co hm (fun b hb' => by cases hb'; exact h.ap.mp), slKeep h.bl hm (fun b hb' => by cases hb'; exact h.ap.kp), hp, h.ap, h.n1, h.n2⟩
  rw [hl]
  exact hm.keep h.box h.ap.bp
theorem RImg.setPart (h : RImg w d nds L next count) {k j : Nat} {p p' : Pt} {u : Value} (hk : L[k]? = some p) (hj : j < 6) (he : p'.cells = p.cells.set j u) (hp : PtAt w d.A p') (ho : p'.pl.ok nds.length) :
    RImg (w.setCell ⟨d.gp, d.op + k * 6 + j, none⟩ u) d nds (L.set k p') next count :=
  h.turnP (Mods.refl.setCell _ (fun _ => rfl)) (by simp) (h.pts.set hk hj he hp ho)
theorem sl1_at {e : TypeId} {g n : Nat} {xs : List Value} (h : Sl w e 1 (.slice (some ⟨g, 0, none⟩) n n) n xs) (k : Nat) (hk : k < n) : w.cell? ⟨g, k, none⟩ = xs[k]? := by
  have := h.cellAt k (by omega)
  rwa [Nat.zero_add] at this
theorem sl1_set {e : TypeId} {g n : Nat} {xs : List Value} (h : Sl w e 1 (.slice (some ⟨g, 0, none⟩) n n) n xs) (k : Nat) (hk : k < n) (u : Value) : Sl (w.setCell ⟨g, k, none⟩ u) e 1 (.slice (some ⟨g, 0, none⟩) n n) n (xs.set k u) := by
  have := h.setAt k (by omega) u
  rwa [Nat.zero_add] at this
theorem RImg.nodeCells (h : RImg w d nds L next count) {k : Nat} {x : Nd} (hk : nds[k]? = some x) :
    w.cell? ⟨d.ga, k, none⟩ = some (.bool x.alive) ∧ w.cell? ⟨d.gm, k, none⟩ = some (.int .i64 x.comes) ∧ w.cell? ⟨d.gk, k, none⟩ = some (.int .u64 x.block) := by
  have hl : k < nds.length := (List.getElem?_eq_some_iff.1 hk).1
  rw [sl1_at h.al k hl, sl1_at h.co k hl, sl1_at h.bl k hl]
  simp [hk]
theorem map_set_same {α β : Type} {f : α → β} {l : List α} {k : Nat} {x x' : α} (hk : l[k]? = some x) (hf : f x' = f x) : (l.set k x').map f = l.map f := by
  rw [List.map_set, hf]
  exact set_same (by rw [List.getElem?_map, hk]; rfl)
theorem RImg.setAl (h : RImg w d nds L next count) {k : Nat} {x : Nd} (hk : nds[k]? = some x) (b : Bool) : RImg (w.setCell ⟨d.ga, k, none⟩ (.bool b)) d (nds.set k { x with alive := b }) L next count := by
  have hl : k < nds.length := (List.getElem?_eq_some_iff.1 hk).1
  have hm : Mods (fun i => i = d.ga) w (w.setCell ⟨d.ga, k, none⟩ (.bool b)) := Mods.refl.setCell _ (fun _ => rfl)
  refine ⟨?_, ?_, ?_, ?_, ?_, h.ap, h.n1, h.n2⟩
  · rw [List.length_set]; exact hm.keep h.box h.ap.ba
  · rw [List.length_set, List.map_set]; exact sl1_set h.al k hl _
  · rw [List.length_set, map_set_same hk (by rfl)]; exact slKeep h.co hm (fun _ hb' => by cases hb'; exact h.ap.am.symm)
  · rw [List.length_set, map_set_same hk (by rfl)]; exact slKeep h.bl hm (fun _ hb' => by cases hb'; exact h.ap.ak.symm)
  · rw [List.length_set]; exact h.pts.keep hm (fun i hi => .inr (.inl hi)) h.ap.ap.symm
theorem RImg.setCo (h : RImg w d nds L next count) {k : Nat} {x : Nd} (hk : nds[k]? = some x) (b : Int) : RImg (w.setCell ⟨d.gm, k, none⟩ (.int .i64 b)) d (nds.set k { x with comes := b }) L next count := by
  have hl : k < nds.length := (List.getElem?_eq_some_iff.1 hk).1
  have hm : Mods (fun i => i = d.gm) w (w.setCell ⟨d.gm, k, none⟩ (.int .i64 b)) := Mods.refl.setCell _ (fun _ => rfl)
  refine ⟨?_, ?_, ?_, ?_, ?_, h.ap, h.n1, h.n2⟩
  · rw [List.length_set]; exact hm.keep h.box h.ap.bm
  · rw [List.length_set, map_set_same hk (by rfl)]; exact slKeep h.al hm (fun _ hb' => by cases hb'; exact h.ap.am)
  · rw [List.length_set, List.map_set]; exact sl1_set h.co k hl _
  · rw [List.length_set, map_set_same hk (by rfl)]; exact slKeep h.bl hm (fun _ hb' => by cases hb'; exact h.ap.m_k.symm)
  · rw [List.length_set]; exact h.pts.keep hm (fun i hi => .inr (.inr (.inl hi))) h.ap.mp.symm
theorem RImg.setBl (h : RImg w d nds L next count) {k : Nat} {x : Nd} (hk : nds[k]? = some x) (b : Int) : RImg (w.setCell ⟨d.gk, k, none⟩ (.int .u64 b)) d (nds.set k { x with block := b }) L next count := by
  have hl : k < nds.length := (List.getElem?_eq_some_iff.1 hk).1
  have hm : Mods (fun i => i = d.gk) w (w.setCell ⟨d.gk, k, none⟩ (.int .u64 b)) := Mods.refl.setCell _ (fun _ => rfl)
  refine ⟨?_, ?_, ?_, ?_, ?_, h.ap, h.n1, h.n2⟩
  · rw [List.length_set]; exact hm.keep h.box h.ap.bk
  · rw [List.length_set, map_set_same hk (by rfl)]; exact slKeep h.al hm (fun _ hb' => by cases hb'; exact h.ap.ak)
  · rw [List.length_set, map_set_same hk (by rfl)]; exact slKeep h.co hm (fun _ hb' => by cases hb'; exact h.ap.m_k)
  · rw [List.length_set, List.map_set]; exact sl1_set h.bl k hl _
  · rw [List.length_set]; exact h.pts.keep hm (fun i hi => .inr (.inr (.inr (.inl hi)))) h.ap.kp.symm
theorem RImg.setNext (h : RImg w d nds L next count) (x : Int) (h1 : 1 ≤ x) (h2 : x ≤ 1001) : RImg (w.setCell ⟨d.b, 4, none⟩ (.int .u64 x)) d nds L x count := by
  have hm : Mods (fun i => i = d.b) w (w.setCell ⟨d.b, 4, none⟩ (.int .u64 x)) := Mods.refl.setCell _ (fun _ => rfl)
  exact ⟨heap_setCell_same h.box 4 _, slKeep h.al hm (fun _ hb' => by cases hb'; exact h.ap.ba.symm), slKeep h.co hm (fun _ hb' => by cases hb'; exact h.ap.bm.symm), slKeep h.bl hm (fun _ hb' => by cases hb'; exact h.ap.bk.symm), h.pts.keep hm (fun i hi => .inl hi) h.ap.bp.symm, h.ap, h1, h2⟩
theorem RImg.setCount (h : RImg w d nds L next count) (x : Int) : RImg (w.setCell ⟨d.b, 5, none⟩ (.int .i64 x)) d nds L next x := by
  have hm : Mods (fun i => i = d.b) w (w.setCell ⟨d.b, 5, none⟩ (.int .i64 x)) := Mods.refl.setCell _ (fun _ => rfl)
  exact ⟨heap_setCell_same h.box 5 _, slKeep h.al hm (fun _ hb' => by cases hb'; exact h.ap.ba.symm), slKeep h.co hm (fun _ hb' => by cases hb'; exact h.ap.bm.symm), slKeep h.bl hm (fun _ hb' => by cases hb'; exact h.ap.bk.symm), h.pts.keep hm (fun i hi => .inl hi) h.ap.bp.symm, h.ap, h.n1, h.n2⟩

/-- All six cells of a partition are written. -/
theorem Pts.setAll {g off c n k : Nat} {A : Nat → Prop} {p : Pt} {lead ep ver : Int} {isr rep tar : List Int} {la ra ta : Option Addr} {lc rc tc : Nat} (h : Pts w g off c A n L) (hk : L[k]? = some p) (hp : PtAt w A ⟨⟨lead, ep, ver, isr, rep, tar⟩, (la, lc), (ra, rc), (ta, tc)⟩) (ho : (⟨lead, ep, ver, isr, rep, tar⟩ : Pl).ok n) :
    Pts ((((((w.setCell ⟨g, off + k * 6, none⟩ (.int .i64 lead)).setCell ⟨g, off + k * 6 + 1, none⟩ (.int .i64 ep)).setCell ⟨g, off + k * 6 + 2, none⟩ (.int .i64 ver)).setCell ⟨g, off + k * 6 + 3, none⟩ (.slice la isr.length lc)).setCell ⟨g, off + k * 6 + 4, none⟩ (.slice ra rep.length rc)).setCell ⟨g, off + k * 6 + 5, none⟩ (.slice ta tar.length tc)) g off c A n
      (L.set k ⟨⟨lead, ep, ver, isr, rep, tar⟩, (la, lc), (ra, rc), (ta, tc)⟩) := by
  obtain ⟨⟨l0, e0, v0, i0, r0, t0⟩, ai, ar, at_⟩ := p
  have hpp := h.2.1 _ (List.mem_of_getElem? hk)
  have hoo := h.2.2.1 _ (List.mem_of_getElem? hk)
  have hA := h.2.2.2.1
  have h1 := h.set (p' := ⟨⟨lead, e0, v0, i0, r0, t0⟩, ai, ar, at_⟩) (u := .int .i64 lead) hk (j := 0) (by omega) rfl hpp ⟨ho.lead, hoo.li, hoo.lr, hoo.lt, hoo.isr, hoo.tar⟩
  rw [Nat.add_zero] at h1
  have m1 : Mods A w (w.setCell ⟨g, off + k * 6, none⟩ (.int .i64 lead)) := Mods.refl.setCell _ (fun _ => hA)
  have k1 := get_set_same (a := (⟨⟨lead, e0, v0, i0, r0, t0⟩, ai, ar, at_⟩ : Pt)) hk
  have o1 := h1.2.2.1 _ (List.mem_of_getElem? k1)
  have q1 := h1.2.1 _ (List.mem_of_getElem? k1)
  have h2 := h1.set (p' := ⟨⟨lead, ep, v0, i0, r0, t0⟩, ai, ar, at_⟩) (u := .int .i64 ep) k1 (j := 1) (by omega) rfl q1 ⟨o1.lead, o1.li, o1.lr, o1.lt, o1.isr, o1.tar⟩
  have m2 := m1.setCell (a := ⟨g, off + k * 6 + 1, none⟩) (.int .i64 ep) (fun _ => hA)
  have k2 := get_set_same (a := (⟨⟨lead, ep, v0, i0, r0, t0⟩, ai, ar, at_⟩ : Pt)) k1
  have o2 := h2.2.2.1 _ (List.mem_of_getElem? k2)
  have q2 := h2.2.1 _ (List.mem_of_getElem? k2)
  have h3 := h2.set (p' := ⟨⟨lead, ep, ver, i0, r0, t0⟩, ai, ar, at_⟩) (u := .int .i64 ver) k2 (j := 2) (by omega) rfl q2 ⟨o2.lead, o2.li, o2.lr, o2.lt, o2.isr, o2.tar⟩
  have m3 := m2.setCell (a := ⟨g, off + k * 6 + 2, none⟩) (.int .i64 ver) (fun _ => hA)
  have k3 := get_set_same (a := (⟨⟨lead, ep, ver, i0, r0, t0⟩, ai, ar, at_⟩ : Pt)) k2
  have o3 := h3.2.2.1 _ (List.mem_of_getElem? k3)
  have q3 := h3.2.1 _ (List.mem_of_getElem? k3)
  have h4 := h3.set (p' := ⟨⟨lead, ep, ver, isr, r0, t0⟩, (la, lc), ar, at_⟩) (u := .slice la isr.length lc) k3 (j := 3) (by omega) rfl ⟨hp.1.keep m3 (fun _ => id), q3.2.1, q3.2.2⟩ ⟨o3.lead, ho.li, o3.lr, o3.lt, ho.isr, o3.tar⟩
  have m4 := m3.setCell (a := ⟨g, off + k * 6 + 3, none⟩) (.slice la isr.length lc) (fun _ => hA)
  have k4 := get_set_same (a := (⟨⟨lead, ep, ver, isr, r0, t0⟩, (la, lc), ar, at_⟩ : Pt)) k3
  have o4 := h4.2.2.1 _ (List.mem_of_getElem? k4)
  have q4 := h4.2.1 _ (List.mem_of_getElem? k4)
  have h5 := h4.set (p' := ⟨⟨lead, ep, ver, isr, rep, t0⟩, (la, lc), (ra, rc), at_⟩) (u := .slice ra rep.length rc) k4 (j := 4) (by omega) rfl ⟨q4.1, hp.2.1.keep m4 (fun _ => id), q4.2.2⟩ ⟨o4.lead, o4.li, ho.lr, o4.lt, o4.isr, o4.tar⟩
  have m5 := m4.setCell (a := ⟨g, off + k * 6 + 4, none⟩) (.slice ra rep.length rc) (fun _ => hA)
  have k5 := get_set_same (a := (⟨⟨lead, ep, ver, isr, rep, t0⟩, (la, lc), (ra, rc), at_⟩ : Pt)) k4
  have o5 := h5.2.2.1 _ (List.mem_of_getElem? k5)
  have q5 := h5.2.1 _ (List.mem_of_getElem? k5)
  have h6 := h5.set (p' := ⟨⟨lead, ep, ver, isr, rep, tar⟩, (la, lc), (ra, rc), (ta, tc)⟩) (u := .slice ta tar.length tc) k5 (j := 5) (by omega) rfl ⟨q5.1, q5.2.1, hp.2.2.keep m5 (fun _ => id)⟩ ⟨o5.lead, o5.li, o5.lr, ho.lt, o5.isr, ho.tar⟩
  simp only [set_set_same] at h6
  exact h6
theorem RImg.setAll {k : Nat} {p : Pt} {lead ep ver : Int} {isr rep tar : List Int} {la ra ta : Option Addr} {lc rc tc : Nat} (h : RImg w d nds L next count) (hk : L[k]? = some p) (hp : PtAt w d.A ⟨⟨lead, ep, ver, isr, rep, tar⟩, (la, lc), (ra, rc), (ta, tc)⟩) (ho : (⟨lead, ep, ver, isr, rep, tar⟩ : Pl).ok nds.length) :
    RImg ((((((w.setCell ⟨d.gp, d.op + k * 6, none⟩ (.int .i64 lead)).setCell ⟨d.gp, d.op + k * 6 + 1, none⟩ (.int .i64 ep)).setCell ⟨d.gp, d.op + k * 6 + 2, none⟩ (.int .i64 ver)).setCell ⟨d.gp, d.op + k * 6 + 3, none⟩ (.slice la isr.length lc)).setCell ⟨d.gp, d.op + k * 6 + 4, none⟩ (.slice ra rep.length rc)).setCell ⟨d.gp, d.op + k * 6 + 5, none⟩ (.slice ta tar.length tc)) d nds
      (L.set k ⟨⟨lead, ep, ver, isr, rep, tar⟩, (la, lc), (ra, rc), (ta, tc)⟩) next count ∧
    Mods (fun i => i = d.gp) w ((((((w.setCell ⟨d.gp, d.op + k * 6, none⟩ (.int .i64 lead)).setCell ⟨d.gp, d.op + k * 6 + 1, none⟩ (.int .i64 ep)).setCell ⟨d.gp, d.op + k * 6 + 2, none⟩ (.int .i64 ver)).setCell ⟨d.gp, d.op + k * 6 + 3, none⟩ (.slice la isr.length lc)).setCell ⟨d.gp, d.op + k * 6 + 4, none⟩ (.slice ra rep.length rc)).setCell ⟨d.gp, d.op + k * 6 + 5, none⟩ (.slice ta tar.length tc)) := by
  have hm : Mods (fun i => i = d.gp) w ((((((w.setCell ⟨d.gp, d.op + k * 6, none⟩ (.int .i64 lead)).setCell ⟨d.gp, d.op + k * 6 + 1, none⟩ (.int .i64 ep)).setCell ⟨d.gp, d.op + k * 6 + 2, none⟩ (.int .i64 ver)).setCell ⟨d.gp, d.op + k * 6 + 3, none⟩ (.slice la isr.length lc)).setCell ⟨d.gp, d.op + k * 6 + 4, none⟩ (.slice ra rep.length rc)).setCell ⟨d.gp, d.op + k * 6 + 5, none⟩ (.slice ta tar.length tc)) :=
    ((((((Mods.refl (S := fun i => i = d.gp)).setCell (a := ⟨d.gp, d.op + k * 6, none⟩) _ (fun _ => rfl)).setCell (a := ⟨d.gp, d.op + k * 6 + 1, none⟩) _ (fun _ => rfl)).setCell (a := ⟨d.gp, d.op + k * 6 + 2, none⟩) _ (fun _ => rfl)).setCell (a := ⟨d.gp, d.op + k * 6 + 3, none⟩) _ (fun _ => rfl)).setCell (a := ⟨d.gp, d.op + k * 6 + 4, none⟩) _ (fun _ => rfl)).setCell (a := ⟨d.gp, d.op + k * 6 + 5, none⟩) _ (fun _ => rfl)
  exact ⟨h.turnP hm (by simp) (h.pts.setAll hk hp ho), hm⟩
end
end Go.Proofs.Ytnnoicacpcahfaa
