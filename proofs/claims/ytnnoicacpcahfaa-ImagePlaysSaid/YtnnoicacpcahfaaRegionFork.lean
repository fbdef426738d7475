/- A region whose order is drawn, by a plan that forks where two or three operations are free at once. No condition. -/
import Derived.Test.YtnnoicacpcahfaaRegion
namespace Go.Proofs.Ytnnoicacpcahfaa
open Go

inductive Tr where
  | done
  | step (k : Kind) (i : Nat) (p : Tr)
  | two (i j : Nat) (p q : Tr)
  | three (i j k : Nat) (p q r : Tr)
def Tr.size : Tr → Nat
  | .done => 0
  | .step _ _ p => p.size + 1
  | .two _ _ p _ => p.size + 1
  | .three _ _ _ p _ _ => p.size + 1

def treeB (md : Region.Mode) (ops : Array Oper) (t : Nat) : Tr → Array Bool → Bool
  | .done, listed => (Region.ready md ops listed).isEmpty
  | .step k i p, listed =>
    (match k with
      | .pure => (Region.ready md ops listed).contains i && Region.free md ops listed i && i != t
      | .read => (Region.ready md ops listed).contains i && Region.free md ops listed i && i != t && (t == ops.size || anc md ops ops.size t i)
      | .ben => (Region.ready md ops listed == [i]) && i != t
      | .eff => (Region.ready md ops listed == [i]) && (i == t || listed.getD t false)) && treeB md ops t p (listed.setIfInBounds i true)
  | .two i j p q, listed => (Region.ready md ops listed == [i, j]) && i != t && j != t && p.size == q.size && treeB md ops t p (listed.setIfInBounds i true) && treeB md ops t q (listed.setIfInBounds j true)
  | .three i j k p q r, listed => (Region.ready md ops listed == [i, j, k]) && i != t && j != t && k != t && p.size == q.size && p.size == r.size && treeB md ops t p (listed.setIfInBounds i true) && treeB md ops t q (listed.setIfInBounds j true) && treeB md ops t r (listed.setIfInBounds k true)

def benW (P : Program) (l : List Oper) (Q : Exit → Act → World → Prop) (S : World → Prop) (i : Nat) (K : Act → World → Prop) (a : Act) (w : World) : Prop :=
  ∃ o, l[i]? = some o ∧ if Region.wanted o (yielded l.toArray a.tmps) then o.wp P a w (fun a' w' => S w' ∧ K a' w') Q ∨ (o.asks P a w ∧ LetsOut Q) else K (a.put o.dst undef) w

def wpTree (P : Program) (l : List Oper) (Q : Exit → Act → World → Prop) (S : World → Prop) : Tr → Act → World → Prop
  | .done, a, w => Q .normal a w
  | .step k i p, a, w => ∃ o, l[i]? = some o ∧
    match k with
    | .pure => ∃ v, YieldsIf P l.toArray (fun _ => True) o v a ∧ wpTree P l Q S p (a.put o.dst v) w
    | .read => ∃ v, YieldsIf P l.toArray S o v a ∧ wpTree P l Q S p (a.put o.dst v) w
    | .ben => if Region.wanted o (yielded l.toArray a.tmps) then o.wp P a w (fun a' w' => S w' ∧ wpTree P l Q S p a' w') Q ∨ (o.asks P a w ∧ LetsOut Q) else wpTree P l Q S p (a.put o.dst undef) w
    | .eff => if Region.wanted o (yielded l.toArray a.tmps) then o.wp P a w (wpTree P l Q S p) Q ∨ (o.asks P a w ∧ LetsOut Q) else wpTree P l Q S p (a.put o.dst undef) w
  | .two i j p q, a, w => benW P l Q S i (wpTree P l Q S p) a w ∧ benW P l Q S j (wpTree P l Q S q) a w
  | .three i j k p q r, a, w => benW P l Q S i (wpTree P l Q S p) a w ∧ benW P l Q S j (wpTree P l Q S q) a w ∧ benW P l Q S k (wpTree P l Q S r) a w

variable {P : Program} {md : Region.Mode} {Q : Exit → Act → World → Prop} {S : World → Prop} {t : Nat}

theorem ben_case {l : List Oper} {listed : Array Bool} {i fuel : Nat} {K : Act → World → Prop} {a : Act} {w : World} (_ : i ∈ Region.ready md l.toArray listed) (hit : i ≠ t) (hS : listed.getD t false = false → S w) (h : benW P l Q S i K a w)
    (hnext : ∀ a' w', ((listed.setIfInBounds i true).getD t false = false → S w') → K a' w' → wpAnyG P md l.toArray Q S t fuel (listed.setIfInBounds i true) a' w') :
    wpOp P l.toArray Q i (fun a' w' => ((listed.setIfInBounds i true).getD t false = false → S w') ∧ wpAnyG P md l.toArray Q S t fuel (listed.setIfInBounds i true) a' w') a w := by
  obtain ⟨o, ho, h⟩ := h
  have ho' : l.toArray[i]? = some o := by simpa using ho
  unfold wpOp
  rw [ho']
  dsimp only at h ⊢
  split at h
  · rename_i hw
    rw [if_pos hw]
    exact h.imp (Oper.wp_mono fun a' w' h' => ⟨fun _ => h'.1, hnext _ _ (fun _ => h'.1) h'.2⟩) id
  · rename_i hw
    rw [if_neg hw]
    have h1 : (listed.setIfInBounds i true).getD t false = false → S w := fun h0 => hS (by rw [getD_set_ne false hit] at h0; exact h0)
    exact ⟨h1, hnext _ _ h1 h⟩

theorem wpAnyG_tree {l : List Oper} (hsel : Region.noSelect l.toArray = true) (hQ : ∀ c a w, ¬ Q (.panic c) a w) : ∀ (p : Tr) (listed : Array Bool) (a : Act) (w : World),
    Closed md l.toArray listed → listed.size = l.length → treeB md l.toArray t p listed = true → (listed.getD t false = false → S w) →
    wpTree P l Q S p a w → wpAnyG P md l.toArray Q S t p.size listed a w
  | .done, listed, a, w, _, _, hB, _, h => ⟨by simpa [treeB] using hB, h⟩
  | .two i j p q, listed, a, w, hc, hsz, hB, hS, h => by
    simp only [treeB, Bool.and_eq_true, bne_iff_ne, beq_iff_eq] at hB
    obtain ⟨⟨⟨⟨⟨hk, hi⟩, hj⟩, hs⟩, hp⟩, hq⟩ := hB
    have hri : i ∈ Region.ready md l.toArray listed := by rw [hk]; simp
    have hrj : j ∈ Region.ready md l.toArray listed := by rw [hk]; simp
    refine ⟨fun h0 => (by rw [hk] at h0; cases h0), fun x hx => ?_⟩
    rw [hk] at hx
    simp only [List.mem_cons, List.not_mem_nil, or_false] at hx
    rcases hx with rfl | rfl
    · exact ben_case hri hi hS h.1 (fun a' w' hS' hK => wpAnyG_tree hsel hQ p _ _ _ (hc.set hri) (by simpa using hsz) hp hS' hK)
    · exact ben_case hrj hj hS h.2 (fun a' w' hS' hK => by have := wpAnyG_tree hsel hQ q _ _ _ (hc.set hrj) (by simpa using hsz) hq hS' hK; rw [← hs] at this; exact this)
  | .three i j k p q r, listed, a, w, hc, hsz, hB, hS, h => by
    simp only [treeB, Bool.and_eq_true, bne_iff_ne, beq_iff_eq] at hB
    obtain ⟨⟨⟨⟨⟨⟨⟨⟨hk, hi⟩, hj⟩, hk3⟩, hs⟩, hs2⟩, hp⟩, hq⟩, hr3⟩ := hB
    have hri : i ∈ Region.ready md l.toArray listed := by rw [hk]; simp
    have hrj : j ∈ Region.ready md l.toArray listed := by rw [hk]; simp
    have hrk : k ∈ Region.ready md l.toArray listed := by rw [hk]; simp
    refine ⟨fun h0 => (by rw [hk] at h0; cases h0), fun x hx => ?_⟩
    rw [hk] at hx
    simp only [List.mem_cons, List.not_mem_nil, or_false] at hx
    rcases hx with rfl | rfl | rfl
    · exact ben_case hri hi hS h.1 (fun a' w' hS' hK => wpAnyG_tree hsel hQ p _ _ _ (hc.set hri) (by simpa using hsz) hp hS' hK)
    · exact ben_case hrj hj hS h.2.1 (fun a' w' hS' hK => by have := wpAnyG_tree hsel hQ q _ _ _ (hc.set hrj) (by simpa using hsz) hq hS' hK; rw [← hs] at this; exact this)
    · exact ben_case hrk hk3 hS h.2.2 (fun a' w' hS' hK => by have := wpAnyG_tree hsel hQ r _ _ _ (hc.set hrk) (by simpa using hsz) hr3 hS' hK; rw [← hs2] at this; exact this)
  | .step k i p, listed, a, w, hc, hsz, hB, hS, h => by
    obtain ⟨o, ho, h⟩ := h
    have ho' : l.toArray[i]? = some o := by simpa using ho
    simp only [treeB, Bool.and_eq_true] at hB
    obtain ⟨hk, hB'⟩ := hB
    have hsz' : (listed.setIfInBounds i true).size = l.length := by simpa using hsz
    cases k with
    | pure =>
      simp only [Bool.and_eq_true, bne_iff_ne] at hk
      obtain ⟨v, hy, h⟩ := h
      have hr : i ∈ Region.ready md l.toArray listed := by simpa using hk.1.1
      exact wpAnyG_first ho' (Region.noSelect_spec hsel) (fun c a w h => absurd h (hQ _ _ _)) hk.2 (fun _ _ _ _ _ _ => trivial) p.size listed a w (Region.free_spec ho' hk.1.2) (by simpa using hsz) hc hr hy hS
        (wpAnyG_tree hsel hQ p _ _ _ (hc.set hr) hsz' hB' (fun h0 => hS (by rw [getD_set_ne false hk.2] at h0; exact h0)) h)
    | read =>
      simp only [Bool.and_eq_true, bne_iff_ne] at hk
      obtain ⟨v, hy, h⟩ := h
      obtain ⟨⟨⟨hk1, hk2⟩, hk3⟩, hk4⟩ := hk
      have hr : i ∈ Region.ready md l.toArray listed := by simpa using hk1
      by_cases ht : t = l.toArray.size
      · -- no operation t
        refine wpAnyG_first (S' := S) ho' (Region.noSelect_spec hsel) (fun c a w h => absurd h (hQ _ _ _)) hk3 ?_ p.size listed a w (Region.free_spec ho' hk2) (by simpa using hsz) hc hr hy hS
          (wpAnyG_tree hsel hQ p _ _ _ (hc.set hr) hsz' hB' (fun h0 => hS (by rw [getD_set_ne false hk3] at h0; exact h0)) h)
        intro listed' w' hsz'' _ _ hS'
        exact hS' (getD_size (by rw [hsz'', ht]))
      · have hanc : anc md l.toArray l.toArray.size t i = true := by
          rcases Bool.or_eq_true _ _ ▸ hk4 with h1 | h1
          · exact absurd (by simpa using h1) ht
          · exact h1
        refine wpAnyG_first (S' := S) ho' (Region.noSelect_spec hsel) (fun c a w h => absurd h (hQ _ _ _)) hk3 ?_ p.size listed a w (Region.free_spec ho' hk2) (by simpa using hsz) hc hr hy hS
          (wpAnyG_tree hsel hQ p _ _ _ (hc.set hr) hsz' hB' (fun h0 => hS (by rw [getD_set_ne false hk3] at h0; exact h0)) h)
        intro listed' w' _ hc' hun hS'
        apply hS'
        cases hlt : listed'.getD t false with
        | false => rfl
        | true => rw [anc_listed hc' _ _ _ hanc hlt] at hun; cases hun
    | ben =>
      simp only [Bool.and_eq_true, bne_iff_ne, beq_iff_eq] at hk
      refine ⟨fun h0 => (by rw [hk.1] at h0; cases h0), fun j hj => ?_⟩
      have hr : i ∈ Region.ready md l.toArray listed := by rw [hk.1]; simp
      rw [hk.1] at hj
      obtain rfl : j = i := by simpa using hj
      unfold wpOp
      rw [ho']
      dsimp only at h ⊢
      split at h
      · rename_i hw
        rw [if_pos hw]
        refine h.imp (Oper.wp_mono fun a' w' h' => ?_) id
        exact ⟨fun _ => h'.1, wpAnyG_tree hsel hQ p _ _ _ (hc.set hr) hsz' hB' (fun _ => h'.1) h'.2⟩
      · rename_i hw
        rw [if_neg hw]
        have h1 : (listed.setIfInBounds j true).getD t false = false → S w := fun h0 => hS (by rw [getD_set_ne false hk.2] at h0; exact h0)
        exact ⟨h1, wpAnyG_tree hsel hQ p _ _ _ (hc.set hr) hsz' hB' h1 h⟩
    | eff =>
      simp only [Bool.and_eq_true, Bool.or_eq_true, beq_iff_eq] at hk
      refine ⟨fun h0 => (by rw [hk.1] at h0; cases h0), fun j hj => ?_⟩
      have hr : i ∈ Region.ready md l.toArray listed := by rw [hk.1]; simp
      rw [hk.1] at hj
      obtain rfl : j = i := by simpa using hj
      have hlt : j < listed.size := by
        obtain ⟨_, o', ho'', _⟩ := mem_ready.1 hr
        have := (Array.getElem?_eq_some_iff.1 ho'').1
        rw [hsz]; simpa using this
      have hno : ∀ w', (listed.setIfInBounds j true).getD t false = false → S w' := fun w' h0 => by
        rcases hk.2 with h1 | h1
        · subst h1; simp [hlt] at h0
        · rw [getD_set_true h1] at h0; cases h0
      unfold wpOp
      rw [ho']
      dsimp only at h ⊢
      split at h
      · rename_i hw
        rw [if_pos hw]
        refine h.imp (Oper.wp_mono fun a' w' h' => ?_) id
        exact ⟨hno w', wpAnyG_tree hsel hQ p _ _ _ (hc.set hr) hsz' hB' (hno w') h'⟩
      · rename_i hw
        rw [if_neg hw]
        exact ⟨hno w, wpAnyG_tree hsel hQ p _ _ _ (hc.set hr) hsz' hB' (hno w) h⟩


/-- A REGION WHOSE ORDER IS DRAWN, by a forking plan. -/
theorem wp_region_tree {id : Nat} {l : List Oper} {Q : Exit → Act → World → Prop} {a : Act} {w : World} (plan : Tr) (t : Nat) (S : World → Prop)
    (hm : P.follows .mixedOrders = true) (hsel : Region.noSelect l.toArray = true) (hlen : (plan.size == l.length && treeB .any l.toArray t plan (Array.replicate l.length false)) = true) (hS : S w.drew)
    (h : wpTree P l (QNP Q) S plan a w.drew) : (Code.region id l.toArray true).wp P Q a w := by
  refine Code.wp_mono QNP.imp ?_
  refine wp_region_any hm (wpAny_of_G (S := S) (t := t) _ _ _ _ ?_)
  simp only [Bool.and_eq_true, beq_iff_eq] at hlen
  have := wpAnyG_tree (P := P) (md := .any) (t := t) (Q := QNP Q) (S := S) hsel (fun _ _ _ h => h) plan (Array.replicate l.length false) a w.drew closed_none (by simp) hlen.2 (fun _ => hS) h
  rw [hlen.1] at this
  simpa using this

section steps
variable {l : List Oper} {a : Act} {w : World} {i : Nat} {p : Tr} {o : Oper}
theorem tree_of_reg {plan : List (Kind × Nat)} (h : wpReg P l Q S plan a w) : wpTree P l Q S (plan.foldr (fun x p => Tr.step x.1 x.2 p) .done) a w := by
  induction plan generalizing a w with
  | nil => exact h
  | cons x rest ih =>
    obtain ⟨k, i⟩ := x
    obtain ⟨o, ho, h⟩ := h
    refine ⟨o, ho, ?_⟩
    cases k with
    | pure => obtain ⟨v, hy, h⟩ := h; exact ⟨v, hy, ih h⟩
    | read => obtain ⟨v, hy, h⟩ := h; exact ⟨v, hy, ih h⟩
    | ben =>
      dsimp only at h ⊢
      split at h
      · rename_i hw; rw [if_pos hw]; exact h.imp (Oper.wp_mono fun a' w' h' => ⟨h'.1, ih h'.2⟩) id
      · rename_i hw; rw [if_neg hw]; exact ih h
    | eff =>
      dsimp only at h ⊢
      split at h
      · rename_i hw; rw [if_pos hw]; exact h.imp (Oper.wp_mono fun a' w' h' => ih h') id
      · rename_i hw; rw [if_neg hw]; exact ih h
theorem tree_pure {v : Value} (ho : l[i]? = some o) (hg : o.guard = none) (hv : ∀ W, (execOp a.eval o).run P W = .ok (.value v) W)
    (h : wpTree P l Q S p (a.put o.dst v) w) : wpTree P l Q S (.step .pure i p) a w :=
  ⟨o, ho, v, .inl ⟨by simp [Region.wanted, hg], fun W _ => hv W⟩, h⟩
theorem fork_ben {K : Act → World → Prop} (ho : l[i]? = some o) (hg : o.guard = none)
    (h : ∀ K' : Act → World → Prop, (∀ a' w', S w' → K a' w' → K' a' w') → o.wp P a w K' Q) : benW P l Q S i K a w := by
  refine ⟨o, ho, ?_⟩
  rw [show Region.wanted o (yielded l.toArray a.tmps) = true by simp [Region.wanted, hg]]
  exact .inl (h _ fun _ _ h1 h2 => ⟨h1, h2⟩)
/-- A list of steps, as a tree. -/
def Tr.of (plan : List (Kind × Nat)) : Tr := plan.foldr (fun x p => Tr.step x.1 x.2 p) .done
theorem tree_list {plan : List (Kind × Nat)} (h : wpReg P l Q S plan a w) : wpTree P l Q S (Tr.of plan) a w := tree_of_reg h
end steps
end Go.Proofs.Ytnnoicacpcahfaa
