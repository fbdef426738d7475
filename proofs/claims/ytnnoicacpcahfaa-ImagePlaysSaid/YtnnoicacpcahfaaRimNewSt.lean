/- The reference's New: the image under construction. No condition. -/
import Derived.Test.YtnnoicacpcahfaaRimRep
import Derived.Test.YtnnoicacpcahfaaRegionFork
import Derived.Test.YtnnoicacpcahfaaImgNewSt
namespace Go.Proofs.Ytnnoicacpcahfaa
open Go.RowKit

/-! ### Rows that were made -/
structure MkSt (w W : World) (n : Nat) (l : List (Nat × Nat × Value)) : Prop where
  sl : ∀ x ∈ l, Sl W x.2.1 1 (.slice (some ⟨x.1, 0, none⟩) n n) n (List.replicate n x.2.2)
  ge : ∀ x ∈ l, w.heap.size ≤ x.1
  lt : ∀ x ∈ l, x.1 < W.heap.size
  nd : (l.map (·.1)).Nodup
  mods : Mods Nil w W
theorem MkSt.nil {w : World} {n : Nat} : MkSt w w n [] := ⟨by simp, by simp, by simp, by simp, Mods.refl⟩
theorem rep_one (n : Nat) (z : Value) : (List.replicate n ()).flatMap (fun _ => [z]) = List.replicate n z := by
  induction n with
  | zero => rfl
  | succ n ih => rw [List.replicate_succ, List.flatMap_cons, ih, List.replicate_succ]; rfl
theorem MkSt.add {w W : World} {n : Nat} {l : List (Nat × Nat × Value)} (h : MkSt w W n l) (e : Nat) (z : Value) (hn : n ≤ maxLen) : MkSt w (W.alloc (.cells (madeCells #[z] n) e)) n ((W.heap.size, e, z) :: l) := by
  have hal : Mods Nil W (W.alloc (.cells (madeCells #[z] n) e)) := Mods.refl.alloc _
  have hsz := alloc_size W (.cells (madeCells #[z] n) e)
  refine ⟨fun x hx => ?_, fun x hx => ?_, fun x hx => ?_, ?_, h.mods.trans hal (fun _ _ h => h)⟩
  · rcases List.mem_cons.1 hx with rfl | hx
    · have := made_sl (w := W) (e := e) (s := 1) (n := n) (z := #[z]) rfl hn
      rw [show (#[z] : Array Value).toList = [z] from rfl, rep_one, Nat.mul_one] at this
      exact this
    · exact slKeep (h.sl x hx) hal (fun _ _ => id)
  · rcases List.mem_cons.1 hx with rfl | hx
    · exact h.mods.size
    · exact h.ge x hx
  · rcases List.mem_cons.1 hx with rfl | hx
    · show W.heap.size < _; omega
    · have := h.lt x hx; omega
  · rw [List.map_cons, List.nodup_cons]
    refine ⟨fun hm => ?_, h.nd⟩
    obtain ⟨x, hx, he⟩ := List.mem_map.1 hm
    have := h.lt x hx
    have he' : x.1 = W.heap.size := he
    omega
theorem MkSt.drew {w W : World} {n : Nat} {l : List (Nat × Nat × Value)} (h : MkSt w W n l) : MkSt w W.drew n l := ⟨h.sl, h.ge, h.lt, h.nd, h.mods.drew⟩

/-! ### The nodes of a partition, as the reference finds them -/
def rowN (n c k j i : Nat) : List Nat := ((List.range i).filter fun i => (k + i) % n == j).map fun _ => j
def refN (n c k j : Nat) : List Nat := (List.range j).flatMap fun j => rowN n c k j c
def natI (l : List Nat) : List Int := l.map (fun j : Nat => (j : Int))
set_option maxRecDepth 100000 in
theorem ref_on : ∀ n, n < 6 → ∀ k, k < 6 → ∀ c, c < n + 1 → refN n c k n = onN n c k := by decide
theorem ref_onL {n c k : Nat} (hn : n ≤ 5) (hk : k < 6) (hc : c ≤ n) : natI (refN n c k n) = onL n c k := by
  rw [ref_on n (by omega) k hk c (by omega)]; rfl
theorem ref_next (n c k j : Nat) : refN n c k (j + 1) = refN n c k j ++ rowN n c k j c := by
  rw [refN, List.range_succ, List.flatMap_append]; simp [refN]
theorem row_next (n c k j i : Nat) : rowN n c k j (i + 1) = if (k + i) % n = j then rowN n c k j i ++ [j] else rowN n c k j i := by
  unfold rowN
  rw [List.range_succ, List.filter_append, List.map_append]
  by_cases h : (k + i) % n = j <;> simp [h]
theorem natI_app (a b : List Nat) : natI (a ++ b) = natI a ++ natI b := by simp [natI]

/-! ### The image -/
structure RNewSt (w wr : World) (rb ga gm gk n c k : Nat) (L : List Pt) (pa : Option Addr) (pc : Nat) : Prop where
  box : wr.heap[rb]? = some (.cells #[.slice (some ⟨ga, 0, none⟩) n n, .slice (some ⟨gm, 0, none⟩) n n, .slice (some ⟨gk, 0, none⟩) n n, .slice pa k pc, .int .u64 1, .int .i64 0] 102 (0, 0))
  al : Sl wr 4 1 (.slice (some ⟨ga, 0, none⟩) n n) n (List.replicate n (.bool false))
  co : Sl wr 3 1 (.slice (some ⟨gm, 0, none⟩) n n) n (List.replicate n (.int .i64 0))
  bl : Sl wr 29 1 (.slice (some ⟨gk, 0, none⟩) n n) n (List.replicate n (.int .u64 0))
  sl : NewSl w.heap.size wr 99 6 pa k pc (L.flatMap Pt.cells)
  apart : ∀ a, pa = some a → a.block ≠ rb ∧ a.block ≠ ga ∧ a.block ≠ gm ∧ a.block ≠ gk
  parts : L.map Pt.pl = (List.range k).map (newP n c)
  lists : ∀ p ∈ L, PtAt wr (fun i => i = rb ∨ i = ga ∨ i = gm ∨ i = gk ∨ ∃ a, pa = some a ∧ i = a.block) p
  mods : Mods Nil w wr
theorem RNewSt.keep {w wr w2 : World} {rb ga gm gk n c k : Nat} {L : List Pt} {pa : Option Addr} {pc : Nat} (h : RNewSt w wr rb ga gm gk n c k L pa pc) (hm : Mods Nil wr w2) : RNewSt w w2 rb ga gm gk n c k L pa pc :=
  ⟨hm.keep h.box id, slKeep h.al hm (fun _ _ => id), slKeep h.co hm (fun _ _ => id), slKeep h.bl hm (fun _ _ => id), h.sl.keep hm (fun _ _ => id), h.apart, h.parts, fun p hp => (h.lists p hp).keep hm (fun _ h => h.elim), h.mods.trans hm (fun _ _ h => h)⟩
/-- How its blocks lie. -/
structure RApart (B rb ga gm gk : Nat) : Prop where
  r : B ≤ rb
  a : B ≤ ga
  m : B ≤ gm
  k : B ≤ gk
  ra : rb ≠ ga
  rm : rb ≠ gm
  rk : rb ≠ gk
  am : ga ≠ gm
  ak : ga ≠ gk
  m_k : gm ≠ gk

/-- One partition more. -/
theorem RNewSt.step {w wo w3 w4 : World} {rb ga gm gk n c k : Nat} {L : List Pt} {pa oa : Option Addr} {pc oc : Nat} {v' : Value} (h : RNewSt w wo rb ga gm gk n c k L pa pc) (hn : n ≤ 5) (hk : k < 6) (hcn : c ≤ n)
    (hb : RApart w.heap.size rb ga gm gk) (hm : Mods Nil wo w3)
    (hO : NewSl wo.heap.size w3 3 1 oa c oc (ints (onL n c k)))
    (h4 : Sl w4 99 6 v' (k + 1) (L.flatMap Pt.cells ++ [.int .i64 (-1), .int .i64 0, .int .i64 0, .slice oa c oc, .slice oa c oc, .slice none 0 0]))
    (hg : w3.grownBy w4 (Value.slice pa k pc).ownBlock) (ho : v'.ownBlock = (Value.slice pa k pc).ownBlock ∨ v'.ownBlock = some w3.heap.size) :
    ∃ pa' pc' L', v' = .slice pa' (k + 1) pc' ∧ RNewSt w (w4.setCell ⟨rb, 3, none⟩ v') rb ga gm gk n c (k + 1) L' pa' pc' := by
  have hlen := onL_c (k := k) hn hk hcn
  have h3 := h.keep hm
  have hz := hm.size
  have lbi := ltOf h.box
  have lga : ga < wo.heap.size := h.al.lt _ rfl
  have lgm : gm < wo.heap.size := h.co.lt _ rfl
  have lgk : gk < wo.heap.size := h.bl.lt _ rfl
  obtain ⟨pa', pc', rfl, hsl4, hm4⟩ := NewSl.app (W := w) h3.sl (by have := h3.mods.size; omega) h4 hg ho h3.mods (Nat.le_refl _)
  have hpa : ∀ a, pa' = some a → (∃ b, pa = some b ∧ a.block = b.block) ∨ a.block = w3.heap.size := by
    rintro a rfl
    rcases ho with ho | ho
    · obtain ⟨x, hx, hxa⟩ := ownOf (k := a.block) (by rw [← ho]; rfl)
      exact .inl ⟨x, hx, hxa.symm⟩
    · simp [Value.ownBlock] at ho; exact .inr ho
  have hm34 : Mods (fun i => ∃ a, pa = some a ∧ i = a.block) w3 w4 := (Mods.refl.grown hg (fun i hi _ => by
    obtain ⟨x, hx, rfl⟩ := ownOf hi; exact ⟨x, hx, rfl⟩))
  have hm45 : Mods (fun i => i = rb) w4 (w4.setCell ⟨rb, 3, none⟩ (.slice pa' (k + 1) pc')) := Mods.refl.setCell _ (fun _ => rfl)
  have hm35 : Mods (fun i => i = rb ∨ ∃ a, pa = some a ∧ i = a.block) w3 (w4.setCell ⟨rb, 3, none⟩ (.slice pa' (k + 1) pc')) := (hm34.mono (fun _ h => .inr h)).trans hm45 (fun _ _ h => .inl h)
  have hnp : ∀ i, (i = rb ∨ i = ga ∨ i = gm ∨ i = gk) → ¬ ∃ a, pa = some a ∧ i = a.block := by
    rintro i hi ⟨a, ha, rfl⟩
    obtain ⟨x1, x2, x3, x4⟩ := h.apart a ha
    rcases hi with hi | hi | hi | hi
    · exact x1 hi
    · exact x2 hi
    · exact x3 hi
    · exact x4 hi
  have ks : ∀ i, (i = rb ∨ ∃ a, pa = some a ∧ i = a.block) → (i = rb ∨ i = ga ∨ i = gm ∨ i = gk ∨ ∃ a, pa = some a ∧ i = a.block) := by
    rintro i (hi | ⟨a, ha, hi⟩)
    · exact .inl hi
    · exact .inr (.inr (.inr (.inr ⟨a, ha, hi⟩)))
  have ka : ∀ i, i < w3.heap.size → (i = rb ∨ i = ga ∨ i = gm ∨ i = gk ∨ ∃ a, pa' = some a ∧ i = a.block) → (i = rb ∨ i = ga ∨ i = gm ∨ i = gk ∨ ∃ a, pa = some a ∧ i = a.block) := by
    rintro i hi (hA | hA | hA | hA | ⟨a, ha, hA⟩)
    · exact .inl hA
    · exact .inr (.inl hA)
    · exact .inr (.inr (.inl hA))
    · exact .inr (.inr (.inr (.inl hA)))
    · rcases hpa a ha with ⟨b, hb, e⟩ | e
      · exact .inr (.inr (.inr (.inr ⟨b, hb, by rw [hA, e]⟩)))
      · omega
  refine ⟨pa', pc', L ++ [⟨newP n c k, (oa, oc), (oa, oc), (none, 0)⟩], rfl, ?_, ?_, ?_, ?_, ?_, ?_, ?_, ?_, ?_⟩
  · have := heap_setCell_same (hm34.keep h3.box (hnp rb (.inl rfl))) 3 (.slice pa' (k + 1) pc')
    simpa using this
  · exact slKeep (slKeep h3.al hm34 (fun b hb => by cases hb; exact hnp ga (.inr (.inl rfl)))) hm45 (fun b hb' => by cases hb'; exact hb.ra.symm)
  · exact slKeep (slKeep h3.co hm34 (fun b hb => by cases hb; exact hnp gm (.inr (.inr (.inl rfl))))) hm45 (fun b hb' => by cases hb'; exact hb.rm.symm)
  · exact slKeep (slKeep h3.bl hm34 (fun b hb => by cases hb; exact hnp gk (.inr (.inr (.inr rfl))))) hm45 (fun b hb' => by cases hb'; exact hb.rk.symm)
  · have hfl : (L ++ [(⟨newP n c k, (oa, oc), (oa, oc), (none, 0)⟩ : Pt)]).flatMap Pt.cells = L.flatMap Pt.cells ++ [.int .i64 (-1), .int .i64 0, .int .i64 0, .slice oa c oc, .slice oa c oc, .slice none 0 0] := by
      rw [List.flatMap_append, List.flatMap_singleton]
      simp only [Pt.cells, Pt.vi, Pt.vr, Pt.vt, newP, hlen, List.length_nil]
    rw [hfl]
    refine ⟨slKeep hsl4.1 hm45 (fun a ha e => ?_), hsl4.2⟩
    have e' : a.block = rb := e
    rcases hpa a ha with ⟨b, hb, e2⟩ | e2
    · exact (h.apart b hb).1 (by rw [← e2, e'])
    · omega
  · intro a ha
    rcases hpa a ha with ⟨b, hb, e⟩ | e
    · rw [e]; exact h.apart b hb
    · rw [e]; exact ⟨by omega, by omega, by omega, by omega⟩
  · rw [List.map_append, h.parts, List.range_succ, List.map_append]; rfl
  · intro p hp
    rcases List.mem_append.1 hp with hp | hp
    · exact (h3.lists p hp).re hm35 ks ka
    · obtain rfl : p = ⟨newP n c k, (oa, oc), (oa, oc), (none, 0)⟩ := by simpa using hp
      have il : Il w3 (fun i => i = rb ∨ i = ga ∨ i = gm ∨ i = gk ∨ ∃ a, pa = some a ∧ i = a.block) (oa, oc) (onL n c k) := by
        have hX' : NewSl wo.heap.size w3 3 1 oa (onL n c k).length oc (ints (onL n c k)) := by rw [hlen]; exact hO
        refine Il.of_new hX' (fun i hi => ?_)
        rcases hi with rfl | rfl | rfl | rfl | ⟨a, ha, rfl⟩
        · exact lbi
        · exact lga
        · exact lgm
        · exact lgk
        · exact h.sl.1.lt _ (by rw [ha]; rfl)
      have hP : PtAt w3 (fun i => i = rb ∨ i = ga ∨ i = gm ∨ i = gk ∨ ∃ a, pa = some a ∧ i = a.block) ⟨newP n c k, (oa, oc), (oa, oc), (none, 0)⟩ := ⟨il, il, Il.nil⟩
      exact hP.re hm35 ks ka
  · exact hm4.trans hm45 (fun i hi e => by have := hb.r; omega)

def RNewPost (w : World) (n m c : Nat) (e : Ending) (w' : World) : Prop :=
  ∃ d L, e = .returned (.tuple #[.pointer (some ⟨d.b, 0, none⟩), .int .i64 0]) ∧ RImg w' d (List.replicate n ⟨false, 0, 0⟩) L 1 0 ∧ L.map Pt.pl = (List.range m).map (newP n c) ∧ (∀ i, d.A i → w.heap.size ≤ i) ∧ Mods Nil w w'
theorem RNewSt.post {w wr : World} {rb ga gm gk n c k : Nat} {L : List Pt} {pa : Option Addr} {pc : Nat} (h : RNewSt w wr rb ga gm gk n c k L pa pc) (hn : n ≤ 5) (hk : 1 ≤ k) (hb : RApart w.heap.size rb ga gm gk) :
    RNewPost w n k c (.returned (.tuple #[.pointer (some ⟨rb, 0, none⟩), .int .i64 0])) wr := by
  have hlen : L.length = k := by have := congrArg List.length h.parts; simpa using this
  subst hlen
  rcases h.sl.1.2 with ⟨h', h0⟩ | ⟨g, off, cap, cur, hv, hg, h1, h2, h3, h4⟩
  · omega
  · simp only [Value.slice.injEq] at hv
    obtain ⟨rfl, _, rfl⟩ := hv
    obtain ⟨a1, a2, a3, a4⟩ := h.apart _ rfl
    have hB := h.sl.2 _ rfl
    dsimp only at a1 a2 a3 a4 hB
    have hAe : ∀ i, (⟨rb, ga, gm, gk, g, off, pc⟩ : RAd).A i → (i = rb ∨ i = ga ∨ i = gm ∨ i = gk ∨ ∃ a, some (⟨g, off, none⟩ : Addr) = some a ∧ i = a.block) := by
      rintro i (hi | hi | hi | hi | hi)
      · exact .inl hi
      · exact .inr (.inl hi)
      · exact .inr (.inr (.inl hi))
      · exact .inr (.inr (.inr (.inl hi)))
      · exact .inr (.inr (.inr (.inr ⟨_, rfl, hi⟩)))
    refine ⟨⟨rb, ga, gm, gk, g, off, pc⟩, L, rfl, ⟨?_, ?_, ?_, ?_, ⟨h.sl.1, fun p hp => (h.lists p hp).re (S := Nil) Mods.refl (fun _ h => h.elim) (fun i _ hA => hAe i hA), fun p hp => ?_, .inr (.inr (.inr (.inr rfl))), fun i hA => ?_⟩, ⟨hb.ra, hb.rm, hb.rk, fun e => a1 e.symm, hb.am, hb.ak, fun e => a2 e.symm, hb.m_k, fun e => a3 e.symm, fun e => a4 e.symm⟩, by omega, by omega⟩, h.parts, ?_, h.mods⟩
    · rw [List.length_replicate]; exact h.box
    · rw [List.length_replicate, List.map_replicate]; exact h.al
    · rw [List.length_replicate, List.map_replicate]; exact h.co
    · rw [List.length_replicate, List.map_replicate]; exact h.bl
    · rw [List.length_replicate]
      have hm : p.pl ∈ L.map Pt.pl := List.mem_map_of_mem hp
      rw [h.parts] at hm
      obtain ⟨j, _, hj⟩ := List.mem_map.1 hm
      rw [← hj]
      exact onL_ok hn
    · rcases hA with rfl | rfl | rfl | rfl | rfl
      · exact ltOf h.box
      · exact h.al.lt _ rfl
      · exact h.co.lt _ rfl
      · exact h.bl.lt _ rfl
      · exact ltOf hg
    · rintro i (rfl | rfl | rfl | rfl | rfl)
      · exact hb.r
      · exact hb.a
      · exact hb.m
      · exact hb.k
      · exact hB
end Go.Proofs.Ytnnoicacpcahfaa
