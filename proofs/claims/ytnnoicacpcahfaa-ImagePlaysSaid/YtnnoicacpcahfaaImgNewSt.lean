/- image.New: the image under construction. No condition. -/
import Derived.Laws.MakeOwn
import Derived.Test.YtnnoicacpcahfaaImgSettle
import Derived.Test.YtnnoicacpcahfaaImgOn
namespace Go.Proofs.Ytnnoicacpcahfaa
open Go.RowKit

theorem made_get (z : Array Value) (s n j : Nat) (hz : z.size = s) (hj : j < n * s) : (madeCells z (n * s))[j]? = some z[j % s]! := by
  subst hz
  unfold madeCells
  rw [Array.getElem?_map, Array.getElem?_range, if_pos hj]; rfl
theorem rep_flat {α : Type} {s : Nat} (f : α → List Value) (hf : ∀ a, (f a).length = s) (x : α) (n j : Nat) (hj : j < n * s) : ((List.replicate n x).flatMap f)[j]? = (f x)[j % s]? := by
  have hs : 0 < s := by rcases Nat.eq_zero_or_pos s with h | h; (subst h; simp at hj); exact h
  have hk : j / s < n := (Nat.div_lt_iff_lt_mul hs).2 hj
  have := flat_get f hf (List.replicate n x) (j / s) (j % s) x (by rw [List.getElem?_replicate, if_pos hk]) (Nat.mod_lt _ hs)
  rwa [Nat.div_add_mod'] at this
theorem made_sl {w : World} {e s n : Nat} {z : Array Value} (hz : z.size = s) (hn : n ≤ maxLen) :
    Sl (w.alloc (.cells (madeCells z (n * s)) e)) e s (.slice (some ⟨w.heap.size, 0, none⟩) n n) n ((List.replicate n ()).flatMap fun _ => z.toList) := by
  refine ⟨?_, .inr ⟨w.heap.size, 0, n, _, rfl, heap_new _ _, Nat.le_refl _, hn, by rw [size_madeCells]; omega, fun j hj => ?_⟩⟩
  · rw [flen (n := s) _ (fun _ => by simpa using hz)]; simp
  · rw [Nat.zero_add, made_get z s n j hz hj, rep_flat (s := s) _ (fun _ => by simpa using hz) () n j hj]
    have hs : 0 < s := by rcases Nat.eq_zero_or_pos s with h | h; (subst h; simp at hj); exact h
    have : j % s < z.size := by rw [hz]; exact Nat.mod_lt _ hs
    simp [this]

def newP (n c k : Nat) : Pl := ⟨-1, 0, 0, onL n c k, onL n c k, []⟩
/-- The image under construction, k partitions made. -/
structure NewSt (w wr : World) (bi gn gc n c k : Nat) (L : List Pt) (pa : Option Addr) (pc : Nat) : Prop where
  img : wr.heap[bi]? = some (.cells #[.slice (some ⟨gn, 0, none⟩) n n, .slice pa k pc, .pointer (some ⟨gc, 0, none⟩), .int .i64 0] 95 (0, 0))
  nds : Sl wr 136 3 (.slice (some ⟨gn, 0, none⟩) n n) n ((List.replicate n ()).flatMap fun _ => [.bool false, .int .i64 0, .int .u64 0])
  ctr : Ctr wr gc 1
  sl : NewSl w.heap.size wr 99 6 pa k pc (L.flatMap Pt.cells)
  apart : ∀ a, pa = some a → a.block ≠ bi ∧ a.block ≠ gn ∧ a.block ≠ gc
  parts : L.map Pt.pl = (List.range k).map (newP n c)
  lists : ∀ p ∈ L, PtAt wr (fun i => i = bi ∨ i = gn ∨ i = gc ∨ ∃ a, pa = some a ∧ i = a.block) p
  mods : Mods Nil w wr
theorem NewSt.keep {w wr w2 : World} {bi gn gc n c k : Nat} {L : List Pt} {pa : Option Addr} {pc : Nat} {S : Nat → Prop} (h : NewSt w wr bi gn gc n c k L pa pc) (hm : Mods S wr w2) (hs : ∀ i, S i → wr.heap.size ≤ i) : NewSt w w2 bi gn gc n c k L pa pc := by
  have hS : ∀ i, i < wr.heap.size → ¬ S i := fun i hi h => by have := hs i h; omega
  have hnil : Mods Nil wr w2 := ⟨hm.os, hm.tape, hm.output, hm.size, fun i hi _ => hm.block i hi (hS i hi)⟩
  exact ⟨hnil.keep h.img id, slKeep h.nds hnil (fun _ _ => id), hnil.keep h.ctr id, h.sl.keep hnil (fun _ _ => id), h.apart, h.parts, fun p hp => (h.lists p hp).keep hnil (fun _ h => h.elim), h.mods.trans hnil (fun _ _ h => h)⟩
theorem raw_succ (n i k : Nat) : rawL n (i + 1) k = rawL n i k ++ [(((k + i) % n : Nat) : Int)] := by simp [rawL, List.range_succ]
theorem raw_len (n i k : Nat) : (rawL n i k).length = i := by simp [rawL]

theorem ord1 {W gn gc bi : Nat} (h1 : W = gn) (h2 : gn + 1 = gc) (h3 : gc < bi) : W ≤ gn ∧ W ≤ gc ∧ W ≤ bi ∧ bi ≠ gn ∧ bi ≠ gc ∧ gn ≠ gc := by omega
theorem ord2 {W gn gc bi : Nat} (h1 : W = gc) (h2 : gn + 1 = bi) (h3 : gc < gn) : W ≤ gn ∧ W ≤ gc ∧ W ≤ bi ∧ bi ≠ gn ∧ bi ≠ gc ∧ gn ≠ gc := by omega


theorem elPart : ElT Try.prog 93 99 6 96 := ⟨Try.underlying93, by kernel_rfl, by decide⟩
theorem onL_c {n c k : Nat} (hn : n ≤ 5) (hk : k < 6) (hc : c ≤ n) : (onL n c k).length = c := by
  rw [← raw_sort hn hk hc]; simp [raw_len]
theorem onL_ok {n c k : Nat} (hn : n ≤ 5) : (newP n c k).ok n :=
  ⟨by simp [newP], by have := onL_len (n := n) (c := c) (k := k); show (onL n c k).length * 8 ≤ _; omega, by have := onL_len (n := n) (c := c) (k := k); show (onL n c k).length * 8 ≤ _; omega, by simp [newP], onL_in, by simp [newP]⟩
/-- Where a list's block lies: below the heap's end. -/
theorem PtAt.lt {w : World} {A : Nat → Prop} {p : Pt} (h : PtAt w A p) (a : Addr) (ha : p.ai.1 = some a ∨ p.ar.1 = some a ∨ p.at_.1 = some a) : a.block < w.heap.size ∧ ¬ A a.block := by
  rcases ha with ha | ha | ha
  · exact ⟨h.1.1.lt _ (by rw [ha]; rfl), h.1.2 a ha⟩
  · exact ⟨h.2.1.1.lt _ (by rw [ha]; rfl), h.2.1.2 a ha⟩
  · exact ⟨h.2.2.1.lt _ (by rw [ha]; rfl), h.2.2.2 a ha⟩
theorem PtAt.re {w w' : World} {A A' : Nat → Prop} {S : Nat → Prop} {p : Pt} (h : PtAt w A p) (hm : Mods S w w') (hs : ∀ k, S k → A k) (ha : ∀ k, k < w.heap.size → A' k → A k) : PtAt w' A' p := by
  have h' := h.keep hm hs
  exact ⟨⟨h'.1.1, fun b hb hA => (h.lt b (.inl hb)).2 (ha _ (h.lt b (.inl hb)).1 hA)⟩, ⟨h'.2.1.1, fun b hb hA => (h.lt b (.inr (.inl hb))).2 (ha _ (h.lt b (.inr (.inl hb))).1 hA)⟩, ⟨h'.2.2.1, fun b hb hA => (h.lt b (.inr (.inr hb))).2 (ha _ (h.lt b (.inr (.inr hb))).1 hA)⟩⟩

/-- One partition more. -/
theorem NewSt.step {w wo w3 w4 : World} {bi gn gc n c k : Nat} {L : List Pt} {pa oa ca : Option Addr} {pc oc cc : Nat} {v' : Value} (h : NewSt w wo bi gn gc n c k L pa pc) (hn : n ≤ 5) (hk : k < 6) (hcn : c ≤ n)
    (hb : w.heap.size ≤ gn ∧ w.heap.size ≤ gc ∧ w.heap.size ≤ bi ∧ bi ≠ gn ∧ bi ≠ gc ∧ gn ≠ gc) (hm : Mods Nil wo w3)
    (hO : NewSl wo.heap.size w3 3 1 oa c oc (ints (onL n c k))) (hC : NewSl wo.heap.size w3 3 1 ca c cc (ints (onL n c k)))
    (h4 : Sl w4 99 6 v' (k + 1) (L.flatMap Pt.cells ++ [.int .i64 (-1), .int .i64 0, .int .i64 0, .slice ca c cc, .slice oa c oc, .slice none 0 0]))
    (hg : w3.grownBy w4 (Value.slice pa k pc).ownBlock) (ho : v'.ownBlock = (Value.slice pa k pc).ownBlock ∨ v'.ownBlock = some w3.heap.size) :
    ∃ pa' pc' L', v' = .slice pa' (k + 1) pc' ∧ NewSt w (w4.setCell ⟨bi, 1, none⟩ v') bi gn gc n c (k + 1) L' pa' pc' := by
  have hlen := onL_c (k := k) hn hk hcn
  have h3 := h.keep hm (fun _ h => h.elim)
  obtain ⟨b1, b2, b3, b4, b5, b6⟩ := hb
  have hz := hm.size
  have lbi := ltOf h.img
  have lgn : gn < wo.heap.size := h.nds.lt _ rfl
  have lgc := ltOf h.ctr
  obtain ⟨pa', pc', rfl, hsl4, hm4⟩ := NewSl.app (W := w) h3.sl (by have := h3.mods.size; omega) h4 hg ho h3.mods (Nat.le_refl _)
  -- where the new row lies
  have hpa : ∀ a, pa' = some a → (∃ b, pa = some b ∧ a.block = b.block) ∨ a.block = w3.heap.size := by
    rintro a rfl
    rcases ho with ho | ho
    · obtain ⟨x, hx, hxa⟩ := ownOf (k := a.block) (by rw [← ho]; rfl)
      exact .inl ⟨x, hx, hxa.symm⟩
    · simp [Value.ownBlock] at ho; exact .inr ho
  have hm34 : Mods (fun i => ∃ a, pa = some a ∧ i = a.block) w3 w4 := (Mods.refl.grown hg (fun i hi _ => by
    obtain ⟨x, hx, rfl⟩ := ownOf hi; exact ⟨x, hx, rfl⟩))
  have hm45 : Mods (fun i => i = bi) w4 (w4.setCell ⟨bi, 1, none⟩ (.slice pa' (k + 1) pc')) := Mods.refl.setCell _ (fun _ => rfl)
  have hm35 : Mods (fun i => i = bi ∨ ∃ a, pa = some a ∧ i = a.block) w3 (w4.setCell ⟨bi, 1, none⟩ (.slice pa' (k + 1) pc')) := (hm34.mono (fun _ h => .inr h)).trans hm45 (fun _ _ h => .inl h)
  have hnp : ∀ i, (i = bi ∨ i = gn ∨ i = gc) → ¬ ∃ a, pa = some a ∧ i = a.block := by
    rintro i hi ⟨a, ha, rfl⟩
    obtain ⟨x1, x2, x3⟩ := h.apart a ha
    rcases hi with hi | hi | hi
    · exact x1 hi
    · exact x2 hi
    · exact x3 hi
  refine ⟨pa', pc', L ++ [⟨newP n c k, (ca, cc), (oa, oc), (none, 0)⟩], rfl, ?_, ?_, ?_, ?_, ?_, ?_, ?_, ?_⟩
  · have := heap_setCell_same (hm34.keep h3.img (hnp bi (.inl rfl))) 1 (.slice pa' (k + 1) pc')
    simpa using this
  · exact slKeep (slKeep h3.nds hm34 (fun b hb => by cases hb; exact hnp gn (.inr (.inl rfl)))) hm45 (fun b hb => by cases hb; exact b4.symm)
  · exact hm45.keep (hm34.keep h3.ctr (hnp gc (.inr (.inr rfl)))) b5.symm
  · have hfl : (L ++ [(⟨newP n c k, (ca, cc), (oa, oc), (none, 0)⟩ : Pt)]).flatMap Pt.cells = L.flatMap Pt.cells ++ [.int .i64 (-1), .int .i64 0, .int .i64 0, .slice ca c cc, .slice oa c oc, .slice none 0 0] := by
      rw [List.flatMap_append, List.flatMap_singleton]
      simp only [Pt.cells, Pt.vi, Pt.vr, Pt.vt, newP, hlen, List.length_nil]
    rw [hfl]
    refine ⟨slKeep hsl4.1 hm45 (fun a ha e => ?_), hsl4.2⟩
    have e' : a.block = bi := e
    rcases hpa a ha with ⟨b, hb, e2⟩ | e2
    · exact (h.apart b hb).1 (by rw [← e2, e'])
    · omega
  · intro a ha
    rcases hpa a ha with ⟨b, hb, e⟩ | e
    · rw [e]; exact h.apart b hb
    · rw [e]; exact ⟨by omega, by omega, by omega⟩
  · rw [List.map_append, h.parts, List.range_succ, List.map_append]; rfl
  · intro p hp
    rcases List.mem_append.1 hp with hp | hp
    · refine (h3.lists p hp).re hm35 (fun i hi => ?_) (fun i hi hA => ?_)
      · rcases hi with hi | ⟨a, ha, hi⟩
        · exact .inl hi
        · exact .inr (.inr (.inr ⟨a, ha, hi⟩))
      · rcases hA with hA | hA | hA | ⟨a, ha, hA⟩
        · exact .inl hA
        · exact .inr (.inl hA)
        · exact .inr (.inr (.inl hA))
        · rcases hpa a ha with ⟨b, hb, e⟩ | e
          · exact .inr (.inr (.inr ⟨b, hb, by rw [hA, e]⟩))
          · omega
    · obtain rfl : p = ⟨newP n c k, (ca, cc), (oa, oc), (none, 0)⟩ := by simpa using hp
      have il : ∀ (xa : Option Addr) (xc : Nat), NewSl wo.heap.size w3 3 1 xa c xc (ints (onL n c k)) → Il w3 (fun i => i = bi ∨ i = gn ∨ i = gc ∨ ∃ a, pa = some a ∧ i = a.block) (xa, xc) (onL n c k) := fun xa xc hX => by
        have hX' : NewSl wo.heap.size w3 3 1 xa (onL n c k).length xc (ints (onL n c k)) := by rw [hlen]; exact hX
        refine Il.of_new hX' (fun i hi => ?_)
        rcases hi with rfl | rfl | rfl | ⟨a, ha, rfl⟩
        · exact lbi
        · exact lgn
        · exact lgc
        · exact h.sl.1.lt _ (by rw [ha]; rfl)
      have hP : PtAt w3 (fun i => i = bi ∨ i = gn ∨ i = gc ∨ ∃ a, pa = some a ∧ i = a.block) ⟨newP n c k, (ca, cc), (oa, oc), (none, 0)⟩ := ⟨il _ _ hC, il _ _ hO, Il.nil⟩
      refine hP.re hm35 (fun i hi => ?_) (fun i hi hA => ?_)
      · rcases hi with hi | ⟨a, ha, hi⟩
        · exact .inl hi
        · exact .inr (.inr (.inr ⟨a, ha, hi⟩))
      · rcases hA with hA | hA | hA | ⟨a, ha, hA⟩
        · exact .inl hA
        · exact .inr (.inl hA)
        · exact .inr (.inr (.inl hA))
        · rcases hpa a ha with ⟨b, hb, e⟩ | e
          · exact .inr (.inr (.inr ⟨b, hb, by rw [hA, e]⟩))
          · omega
  · exact hm4.trans hm45 (fun i hi e => by omega)
end Go.Proofs.Ytnnoicacpcahfaa
