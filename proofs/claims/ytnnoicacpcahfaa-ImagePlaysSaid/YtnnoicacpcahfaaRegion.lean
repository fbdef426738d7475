/- A law for a region whose order is drawn: operations that only read are taken in one order, the others must stand in a chain. No condition. -/
import Derived.OrdersHeld
import Derived.Tactics
namespace Go.Proofs.Ytnnoicacpcahfaa
open Go

/-- How an operation of a drawn region is met: 'pure': one value in every world; 'read': one value in every world that meets S; 'ben': carried out, S holds behind it; 'eff': carried out. -/
inductive Kind where
  | pure | read | ben | eff

/-- The post, but false at a panic. -/
def QNP (Q : Exit → Act → World → Prop) : Exit → Act → World → Prop
  | .panic _, _, _ => False
  | e, a, w => Q e a w

theorem QNP.imp {Q : Exit → Act → World → Prop} : ∀ (e : Exit) (a : Act) (w : World), QNP Q e a w → Q e a w := fun e a w h => by
  cases e <;> first | exact h | exact (h : False).elim

section
variable {P : Program} {md : Region.Mode}

/-- Is operation i waited for by operation t, by a chain of at most n edges? -/
def anc (md : Region.Mode) (ops : Array Oper) : Nat → Nat → Nat → Bool
  | 0, _, _ => false
  | n + 1, t, i => match ops[t]? with
    | some o => o.after.any fun e => Region.binds md e && (e.on == i || anc md ops n e.on i)
    | none => false

/-- What is listed is closed downwards. -/
def Closed (md : Region.Mode) (ops : Array Oper) (listed : Array Bool) : Prop :=
  ∀ j oj, ops[j]? = some oj → listed.getD j false = true → ∀ e ∈ oj.after, Region.binds md e = true → listed.getD e.on false = true

theorem anc_listed {ops : Array Oper} {listed : Array Bool} (hc : Closed md ops listed) : ∀ (n t i : Nat), anc md ops n t i = true → listed.getD t false = true → listed.getD i false = true
  | 0, _, _, h, _ => by simp [anc] at h
  | n + 1, t, i, h, ht => by
    unfold anc at h
    split at h
    · rename_i o ho
      obtain ⟨e, he, hb⟩ := Array.any_eq_true'.1 h
      simp only [Bool.and_eq_true, Bool.or_eq_true, beq_iff_eq] at hb
      have h1 := hc t o ho ht e he hb.1
      rcases hb.2 with h2 | h2
      · rw [← h2]; exact h1
      · exact anc_listed hc n _ _ h2 h1
    · cases h

theorem getD_false_of_true {listed : Array Bool} {i : Nat} (h : listed.getD i true = false) : listed.getD i false = false := by
  rcases Nat.lt_or_ge i listed.size with h' | h'
  · simp [h'] at h ⊢; exact h
  · simp [Array.getElem?_eq_none h'] at h

theorem Closed.set {ops : Array Oper} {listed : Array Bool} {i : Nat} (hc : Closed md ops listed) (hi : i ∈ Region.ready md ops listed) : Closed md ops (listed.setIfInBounds i true) := by
  obtain ⟨_, oi, hoi, hall⟩ := mem_ready.1 hi
  intro j oj hj hl e he hb
  by_cases hij : i = j
  · subst hij
    have : oj = oi := Option.some.inj (hj.symm.trans hoi)
    subst this
    exact getD_set_true (hall e he hb)
  · rw [getD_set_ne false hij] at hl
    exact getD_set_true (hc j oj hj hl e he hb)

/-- Whatever order is picked from here on; S is shown behind each step until operation t has come up. -/
def wpAnyG (P : Program) (md : Region.Mode) (ops : Array Oper) (Q : Exit → Act → World → Prop) (S : World → Prop) (t : Nat) : Nat → Array Bool → Act → World → Prop
  | 0, listed, a, w => Region.ready md ops listed = [] ∧ Q .normal a w
  | fuel + 1, listed, a, w =>
    (Region.ready md ops listed = [] → Q .normal a w) ∧
    ∀ i ∈ Region.ready md ops listed, wpOp P ops Q i (fun a' w' => ((listed.setIfInBounds i true).getD t false = false → S w') ∧ wpAnyG P md ops Q S t fuel (listed.setIfInBounds i true) a' w') a w

variable {ops : Array Oper} {Q : Exit → Act → World → Prop} {S : World → Prop} {t : Nat}

theorem wpAny_of_G : ∀ (fuel : Nat) (listed : Array Bool) (a : Act) (w : World), wpAnyG P md ops Q S t fuel listed a w → wpAny P md ops Q fuel listed a w
  | 0, _, _, _, h => h
  | fuel + 1, _, _, _, h => ⟨h.1, fun i hi => wpOp_mono (fun a' w' h' => wpAny_of_G fuel _ a' w' h'.2) (h.2 i hi)⟩

theorem wpAnyG_first {S' : World → Prop} {i : Nat} {oi : Oper} {v : Value} (hi : ops[i]? = some oi) (hsel : ∀ (j : Nat) (o : Oper) cs b, ops[j]? = some o → o.op ≠ .select cs b)
    (hQ : ∀ c a w, Q (.panic c) (a.put oi.dst v) w → Q (.panic c) a w) (hit : i ≠ t)
    (hS' : ∀ listed w, listed.size = ops.size → Closed md ops listed → listed.getD i false = false → (listed.getD t false = false → S w) → S' w) :
    ∀ (fuel : Nat) (listed : Array Bool) (a : Act) (w : World),
      (∀ j oj, ops[j]? = some oj → j ≠ i → listed.getD j true = false → (∀ e ∈ oj.after, Region.binds md e = true → e.on ≠ i) → oi.apart ops oj = true) →
      listed.size = ops.size → Closed md ops listed → i ∈ Region.ready md ops listed → YieldsIf P ops S' oi v a → (listed.getD t false = false → S w) →
      wpAnyG P md ops Q S t fuel (listed.setIfInBounds i true) (a.put oi.dst v) w → wpAnyG P md ops Q S t (fuel + 1) listed a w := by
  intro fuel
  induction fuel with
  | zero =>
    intro listed a w _ hsz hc hr hy hS H
    refine ⟨fun h => (by rw [h] at hr; cases hr), fun j hj => ?_⟩
    by_cases hji : j = i
    · subst hji
      exact hy.wpOp hi (hS' listed w hsz hc (getD_false_of_true (mem_ready.1 hr).1) hS) ⟨fun h => hS (by rw [getD_set_ne false hit] at h; exact h), H⟩
    · have := ready_mono hj hji
      rw [H.1] at this
      cases this
  | succ fuel ih =>
    intro listed a w hfree hsz hc hr hy hS H
    refine ⟨fun h => (by rw [h] at hr; cases hr), fun j hj => ?_⟩
    by_cases hji : j = i
    · subst hji
      exact hy.wpOp hi (hS' listed w hsz hc (getD_false_of_true (mem_ready.1 hr).1) hS) ⟨fun h => hS (by rw [getD_set_ne false hit] at h; exact h), H⟩
    · have h1 := H.2 j (ready_mono hj hji)
      obtain ⟨hjun, oj, hoj, hall⟩ := mem_ready.1 hj
      have hnot : ∀ e ∈ oj.after, Region.binds md e = true → e.on ≠ i := fun e he hb heq => by
        have h1 := hall e he hb
        have h0 := getD_false_of_true (mem_ready.1 hr).1
        rw [heq, h0] at h1
        cases h1
      have h2 := wpOp_putIf hoj (hfree j oj hoj hji hjun hnot) (fun cs b => hsel i oi cs b hi) (fun cs b => hsel j oj cs b hoj) hQ hy h1
      have hfree' : ∀ k ok, ops[k]? = some ok → k ≠ i → (listed.setIfInBounds j true).getD k true = false →
          (∀ e ∈ ok.after, Region.binds md e = true → e.on ≠ i) → oi.apart ops ok = true := fun k ok hk hki hun hno => by
        refine hfree k ok hk hki ?_ hno
        by_cases hjk : j = k
        · subst hjk; exact hjun
        · rw [getD_set_ne true hjk] at hun; exact hun
      refine wpOp_mono (fun a' w' h3 => ?_) h2
      obtain ⟨h4, h5, h6⟩ := h3
      rw [Array.setIfInBounds_comm _ _ (Ne.symm hji)] at h5 h6
      have h7 : (listed.setIfInBounds j true).getD t false = false → S w' := fun h => h5 (by rw [getD_set_ne false hit]; exact h)
      exact ⟨h7, ih (listed.setIfInBounds j true) a' w' hfree' (by simpa using hsz) (hc.set hj) (ready_mono hr (Ne.symm hji)) h4 h7 h6⟩

/-- The plan fits the region: what reads may be taken when it is its turn; what is carried out stands alone then. -/
def planB (md : Region.Mode) (ops : Array Oper) (t : Nat) : List (Kind × Nat) → Array Bool → Bool
  | [], listed => (Region.ready md ops listed).isEmpty
  | (k, i) :: rest, listed =>
    (match k with
      | .pure => (Region.ready md ops listed).contains i && Region.free md ops listed i && i != t
      | .read => (Region.ready md ops listed).contains i && Region.free md ops listed i && i != t && (t == ops.size || anc md ops ops.size t i)
      | .ben => (Region.ready md ops listed == [i]) && i != t
      | .eff => (Region.ready md ops listed == [i]) && (i == t || listed.getD t false)) && planB md ops t rest (listed.setIfInBounds i true)

/-- The region, in the plan's order. -/
def wpReg (P : Program) (l : List Oper) (Q : Exit → Act → World → Prop) (S : World → Prop) : List (Kind × Nat) → Act → World → Prop
  | [], a, w => Q .normal a w
  | (k, i) :: rest, a, w => ∃ o, l[i]? = some o ∧
    match k with
    | .pure => ∃ v, YieldsIf P l.toArray (fun _ => True) o v a ∧ wpReg P l Q S rest (a.put o.dst v) w
    | .read => ∃ v, YieldsIf P l.toArray S o v a ∧ wpReg P l Q S rest (a.put o.dst v) w
    | .ben => if Region.wanted o (yielded l.toArray a.tmps) then o.wp P a w (fun a' w' => S w' ∧ wpReg P l Q S rest a' w') Q ∨ (o.asks P a w ∧ LetsOut Q) else wpReg P l Q S rest (a.put o.dst undef) w
    | .eff => if Region.wanted o (yielded l.toArray a.tmps) then o.wp P a w (wpReg P l Q S rest) Q ∨ (o.asks P a w ∧ LetsOut Q) else wpReg P l Q S rest (a.put o.dst undef) w

theorem getD_size {b : Bool} {listed : Array Bool} {n : Nat} (h : listed.size = n) : listed.getD n b = b := by
  subst h; simp

theorem wpAnyG_plan {l : List Oper} (hsel : Region.noSelect l.toArray = true) (hQ : ∀ c a w, ¬ Q (.panic c) a w) : ∀ (plan : List (Kind × Nat)) (listed : Array Bool) (a : Act) (w : World),
    Closed md l.toArray listed → listed.size = l.length → planB md l.toArray t plan listed = true → (listed.getD t false = false → S w) →
    wpReg P l Q S plan a w → wpAnyG P md l.toArray Q S t plan.length listed a w
  | [], listed, a, w, _, _, hB, _, h => ⟨by simpa [planB] using hB, h⟩
  | (k, i) :: rest, listed, a, w, hc, hsz, hB, hS, h => by
    obtain ⟨o, ho, h⟩ := h
    have ho' : l.toArray[i]? = some o := by simpa using ho
    simp only [planB, Bool.and_eq_true] at hB
    obtain ⟨hk, hB'⟩ := hB
    have hsz' : (listed.setIfInBounds i true).size = l.length := by simpa using hsz
    cases k with
    | pure =>
      simp only [Bool.and_eq_true, bne_iff_ne] at hk
      obtain ⟨v, hy, h⟩ := h
      have hr : i ∈ Region.ready md l.toArray listed := by simpa using hk.1.1
      exact wpAnyG_first ho' (Region.noSelect_spec hsel) (fun c a w h => absurd h (hQ _ _ _)) hk.2 (fun _ _ _ _ _ _ => trivial) rest.length listed a w (Region.free_spec ho' hk.1.2) (by simpa using hsz) hc hr hy hS
        (wpAnyG_plan hsel hQ rest _ _ _ (hc.set hr) hsz' hB' (fun h0 => hS (by rw [getD_set_ne false hk.2] at h0; exact h0)) h)
    | read =>
      simp only [Bool.and_eq_true, bne_iff_ne] at hk
      obtain ⟨v, hy, h⟩ := h
      obtain ⟨⟨⟨hk1, hk2⟩, hk3⟩, hk4⟩ := hk
      have hr : i ∈ Region.ready md l.toArray listed := by simpa using hk1
      by_cases ht : t = l.toArray.size
      · -- no operation t
        refine wpAnyG_first (S' := S) ho' (Region.noSelect_spec hsel) (fun c a w h => absurd h (hQ _ _ _)) hk3 ?_ rest.length listed a w (Region.free_spec ho' hk2) (by simpa using hsz) hc hr hy hS
          (wpAnyG_plan hsel hQ rest _ _ _ (hc.set hr) hsz' hB' (fun h0 => hS (by rw [getD_set_ne false hk3] at h0; exact h0)) h)
        intro listed' w' hsz'' _ _ hS'
        exact hS' (getD_size (by rw [hsz'', ht]))
      · have hanc : anc md l.toArray l.toArray.size t i = true := by
          rcases Bool.or_eq_true _ _ ▸ hk4 with h1 | h1
          · exact absurd (by simpa using h1) ht
          · exact h1
        refine wpAnyG_first (S' := S) ho' (Region.noSelect_spec hsel) (fun c a w h => absurd h (hQ _ _ _)) hk3 ?_ rest.length listed a w (Region.free_spec ho' hk2) (by simpa using hsz) hc hr hy hS
          (wpAnyG_plan hsel hQ rest _ _ _ (hc.set hr) hsz' hB' (fun h0 => hS (by rw [getD_set_ne false hk3] at h0; exact h0)) h)
        intro listed' w' _ hc' hun hS'
        apply hS'
        cases hlt : listed'.getD t false with
        | false => rfl
        | true => rw [anc_listed hc' _ _ _ hanc hlt] at hun; cases hun
    | ben =>
      simp only [Bool.and_eq_true, bne_iff_ne, beq_iff_eq] at hk
      refine ⟨fun h0 => (by rw [hk.1] at h0; cases h0), fun j hj => ?_⟩
      have hr : i ∈ Region.ready md l.toArray listed := by rw [hk.1]; simp
      rw [hk.1] at hj
      obtain rfl : j = i := by simpa using hj
      unfold wpOp
      rw [ho']
      dsimp only at h ⊢
      split at h
      · rename_i hw
        rw [if_pos hw]
        refine h.imp (Oper.wp_mono fun a' w' h' => ?_) id
        exact ⟨fun _ => h'.1, wpAnyG_plan hsel hQ rest _ _ _ (hc.set hr) hsz' hB' (fun _ => h'.1) h'.2⟩
      · rename_i hw
        rw [if_neg hw]
        have h1 : (listed.setIfInBounds j true).getD t false = false → S w := fun h0 => hS (by rw [getD_set_ne false hk.2] at h0; exact h0)
        exact ⟨h1, wpAnyG_plan hsel hQ rest _ _ _ (hc.set hr) hsz' hB' h1 h⟩
    | eff =>
      simp only [Bool.and_eq_true, Bool.or_eq_true, beq_iff_eq] at hk
      refine ⟨fun h0 => (by rw [hk.1] at h0; cases h0), fun j hj => ?_⟩
      have hr : i ∈ Region.ready md l.toArray listed := by rw [hk.1]; simp
      rw [hk.1] at hj
      obtain rfl : j = i := by simpa using hj
      have hlt : j < listed.size := by
        obtain ⟨_, o', ho'', _⟩ := mem_ready.1 hr
        have := (Array.getElem?_eq_some_iff.1 ho'').1
        rw [hsz]; simpa using this
      have hno : ∀ w', (listed.setIfInBounds j true).getD t false = false → S w' := fun w' h0 => by
        rcases hk.2 with h1 | h1
        · subst h1; simp [hlt] at h0
        · rw [getD_set_true h1] at h0; cases h0
      unfold wpOp
      rw [ho']
      dsimp only at h ⊢
      split at h
      · rename_i hw
        rw [if_pos hw]
        refine h.imp (Oper.wp_mono fun a' w' h' => ?_) id
        exact ⟨hno w', wpAnyG_plan hsel hQ rest _ _ _ (hc.set hr) hsz' hB' (hno w') h'⟩
      · rename_i hw
        rw [if_neg hw]
        exact ⟨hno w, wpAnyG_plan hsel hQ rest _ _ _ (hc.set hr) hsz' hB' (hno w) h⟩

theorem closed_none {ops : Array Oper} {n : Nat} : Closed md ops (Array.replicate n false) := by
  intro j oj _ hl
  rcases Nat.lt_or_ge j n with h | h <;> simp [h] at hl

/-- A REGION WHOSE ORDER IS DRAWN, by a plan. -/
theorem wp_region_plan {id : Nat} {l : List Oper} {Q : Exit → Act → World → Prop} {a : Act} {w : World} (plan : List (Kind × Nat)) (t : Nat) (S : World → Prop)
    (hm : P.follows .mixedOrders = true) (hsel : Region.noSelect l.toArray = true) (hlen : (plan.length == l.length && planB .any l.toArray t plan (Array.replicate l.length false)) = true) (hS : S w.drew)
    (h : wpReg P l (QNP Q) S plan a w.drew) : (Code.region id l.toArray true).wp P Q a w := by
  refine Code.wp_mono QNP.imp ?_
  refine wp_region_any hm (wpAny_of_G (S := S) (t := t) _ _ _ _ ?_)
  simp only [Bool.and_eq_true, beq_iff_eq] at hlen
  have := wpAnyG_plan (P := P) (md := .any) (t := t) (Q := QNP Q) (S := S) hsel (fun _ _ _ h => h) plan (Array.replicate l.length false) a w.drew closed_none (by simp) hlen.2 (fun _ => hS) h
  rw [hlen.1] at this
  simpa using this

section steps
variable {l : List Oper} {Q : Exit → Act → World → Prop} {S : World → Prop} {a : Act} {w : World} {i : Nat} {rest : List (Kind × Nat)} {o : Oper}

theorem reg_pure {v : Value} (ho : l[i]? = some o) (hg : o.guard = none) (hv : ∀ W, (execOp a.eval o).run P W = .ok (.value v) W)
    (h : wpReg P l Q S rest (a.put o.dst v) w) : wpReg P l Q S ((.pure, i) :: rest) a w :=
  ⟨o, ho, v, .inl ⟨by simp [Region.wanted, hg], fun W _ => hv W⟩, h⟩

theorem reg_read {v : Value} (ho : l[i]? = some o) (hg : o.guard = none) (hv : ∀ W, S W → (execOp a.eval o).run P W = .ok (.value v) W)
    (h : wpReg P l Q S rest (a.put o.dst v) w) : wpReg P l Q S ((.read, i) :: rest) a w :=
  ⟨o, ho, v, .inl ⟨by simp [Region.wanted, hg], fun W hW => hv W hW⟩, h⟩

theorem reg_pure_on {v : Value} (ho : l[i]? = some o) (hg : Region.wanted o (yielded l.toArray a.tmps) = true) (hv : ∀ W, (execOp a.eval o).run P W = .ok (.value v) W)
    (h : wpReg P l Q S rest (a.put o.dst v) w) : wpReg P l Q S ((.pure, i) :: rest) a w :=
  ⟨o, ho, v, .inl ⟨hg, fun W _ => hv W⟩, h⟩

theorem reg_read_on {v : Value} (ho : l[i]? = some o) (hg : Region.wanted o (yielded l.toArray a.tmps) = true) (hv : ∀ W, S W → (execOp a.eval o).run P W = .ok (.value v) W)
    (h : wpReg P l Q S rest (a.put o.dst v) w) : wpReg P l Q S ((.read, i) :: rest) a w :=
  ⟨o, ho, v, .inl ⟨hg, fun W hW => hv W hW⟩, h⟩

theorem reg_off {k : Kind} (ho : l[i]? = some o) (hg : Region.wanted o (yielded l.toArray a.tmps) = false)
    (h : wpReg P l Q S rest (a.put o.dst undef) w) : wpReg P l Q S ((k, i) :: rest) a w := by
  refine ⟨o, ho, ?_⟩
  cases k
  · exact ⟨undef, .inr ⟨hg, rfl⟩, h⟩
  · exact ⟨undef, .inr ⟨hg, rfl⟩, h⟩
  · simpa [hg] using h
  · simpa [hg] using h

theorem reg_ben (ho : l[i]? = some o) (hg : o.guard = none)
    (h : ∀ K : Act → World → Prop, (∀ a' w', S w' → wpReg P l Q S rest a' w' → K a' w') → o.wp P a w K Q) : wpReg P l Q S ((.ben, i) :: rest) a w := by
  refine ⟨o, ho, ?_⟩
  rw [show Region.wanted o (yielded l.toArray a.tmps) = true by simp [Region.wanted, hg]]
  exact .inl (h _ fun _ _ h1 h2 => ⟨h1, h2⟩)

theorem reg_eff (ho : l[i]? = some o) (hg : o.guard = none)
    (h : ∀ K : Act → World → Prop, (∀ a' w', wpReg P l Q S rest a' w' → K a' w') → o.wp P a w K Q) : wpReg P l Q S ((.eff, i) :: rest) a w := by
  refine ⟨o, ho, ?_⟩
  rw [show Region.wanted o (yielded l.toArray a.tmps) = true by simp [Region.wanted, hg]]
  exact .inl (h _ fun _ _ h => h)

theorem reg_done (h : Q .normal a w) : wpReg P l Q S [] a w := h
theorem qnp_normal {Q : Exit → Act → World → Prop} (h : Q .normal a w) : QNP Q .normal a w := h
end steps
end
end Go.Proofs.Ytnnoicacpcahfaa
