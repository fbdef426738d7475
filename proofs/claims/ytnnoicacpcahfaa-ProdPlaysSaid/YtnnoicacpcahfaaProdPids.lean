/- The table of package prod and the reference of layer 9: the producers, rising, and where the first open transaction begins: plain law. No condition. -/
import Derived.Test.YtnnoicacpcahfaaProdLast
namespace Go.Proofs.Ytnnoicacpcahfaa

/-- A number laid into a rising list, once. -/
def insPid (p : Int) : List Int → List Int
  | [] => [p]
  | x :: r => if x < p then x :: insPid p r else if x = p then x :: r else p :: x :: r
def refPids (l : List Bt) : List Int := l.foldl (fun s b => insPid b.pid s) []

theorem insPid_mem (p x : Int) : ∀ s : List Int, x ∈ insPid p s ↔ x = p ∨ x ∈ s
  | [] => by simp [insPid]
  | y :: r => by
    rw [insPid]
    split
    · simp only [List.mem_cons, insPid_mem p x r]
      constructor
      · rintro (h | h | h) <;> simp [h]
      · rintro (h | h | h) <;> simp [h]
    · split
      · rename_i h; subst h; simp
      · simp
theorem insPid_sorted (p : Int) : ∀ s : List Int, s.Pairwise (· < ·) → (insPid p s).Pairwise (· < ·)
  | [], _ => by simp [insPid]
  | y :: r, h => by
    obtain ⟨h1, h2⟩ := List.pairwise_cons.1 h
    rw [insPid]
    split
    · rename_i hlt
      refine List.pairwise_cons.2 ⟨fun z hz => ?_, insPid_sorted p r h2⟩
      rcases (insPid_mem p z r).1 hz with rfl | hz
      · exact hlt
      · exact h1 z hz
    · split
      · exact h
      · refine List.pairwise_cons.2 ⟨fun z hz => ?_, h⟩
        rcases List.mem_cons.1 hz with rfl | hz
        · omega
        · have := h1 z hz; omega
theorem insPid_len (p : Int) : ∀ s : List Int, (insPid p s).length ≤ s.length + 1
  | [] => by simp [insPid]
  | y :: r => by
    rw [insPid]
    split
    · have := insPid_len p r; simp; omega
    · split <;> simp
theorem refPids_snoc (l : List Bt) (b : Bt) : refPids (l ++ [b]) = insPid b.pid (refPids l) := by simp [refPids]
theorem refPids_take (l : List Bt) (k : Nat) (b : Bt) (h : l[k]? = some b) : refPids (l.take (k + 1)) = insPid b.pid (refPids (l.take k)) := by
  rw [List.take_add_one, h]; exact refPids_snoc _ _
theorem refPids_all (l : List Bt) : (refPids l).Pairwise (· < ·) ∧ (∀ x, x ∈ refPids l ↔ ∃ b ∈ l, b.pid = x) ∧ (refPids l).length ≤ l.length := by
  suffices H : ∀ n, n ≤ l.length → (refPids (l.take n)).Pairwise (· < ·) ∧ (∀ x, x ∈ refPids (l.take n) ↔ ∃ b ∈ l.take n, b.pid = x) ∧ (refPids (l.take n)).length ≤ n by
    have := H l.length (Nat.le_refl _)
    rwa [List.take_length] at this
  intro n
  induction n with
  | zero => intro _; simp [refPids]
  | succ n ih =>
    intro hn
    obtain ⟨i1, i2, i3⟩ := ih (by omega)
    obtain ⟨b, hb⟩ : ∃ b, l[n]? = some b := ⟨_, List.getElem?_eq_getElem (by omega)⟩
    rw [refPids_take l n b hb]
    refine ⟨insPid_sorted _ _ i1, fun x => ?_, by have := insPid_len b.pid (refPids (l.take n)); omega⟩
    rw [insPid_mem, i2, List.take_add_one, hb]
    simp only [Option.toList_some, List.mem_append, List.mem_singleton]
    constructor
    · rintro (h | ⟨c, hc, h⟩)
      · exact ⟨b, .inr rfl, h.symm⟩
      · exact ⟨c, .inl hc, h⟩
    · rintro ⟨c, hc | rfl, h⟩
      · exact .inr ⟨c, hc, h⟩
      · exact .inl h.symm

theorem Agree.mem {T : Tab} {l : List Bt} (h : Agree T l) (hz : ∀ b ∈ l, b.pid ≠ 0) (k : Int) : k ∈ T.keys ↔ ∃ b ∈ l, b.pid = k := by
  obtain ⟨_, _, hk, hn, h0⟩ := h
  constructor
  · intro hm
    have hk0 : k ≠ 0 := fun e => h0 (e ▸ hm)
    obtain ⟨b, hb, hp, _⟩ := (known_pe k hk0 l).2 (by rw [hk k hm])
    exact ⟨b, hb, hp⟩
  · rintro ⟨b, hb, rfl⟩
    apply Decidable.byContradiction
    intro hm
    have := ((known_pe b.pid (hz b hb) l).1 b hb rfl).1
    rw [hn _ hm] at this
    cases this

theorem nodup_perm {a b : List Int} (ha : a.Nodup) (hb : b.Nodup) (h : ∀ x, x ∈ a ↔ x ∈ b) : a.Perm b := (List.perm_ext_iff_of_nodup ha hb).2 h

theorem Agree.pids {T : Tab} {l : List Bt} (h : Agree T l) (hz : ∀ b ∈ l, b.pid ≠ 0) (hnd : T.keys.Nodup) : T.keys.Perm (refPids l) := by
  obtain ⟨h1, h2, _⟩ := refPids_all l
  exact nodup_perm hnd (h1.imp (fun h => by omega)) (fun x => by rw [h.mem hz x, h2 x])

/-- The least that is not below 0. -/
def ustep (s : Int × Bool) (a : Int) : Int × Bool := if 0 ≤ a ∧ (s.2 = false ∨ a < s.1) then (a, true) else s
def unst (l : List Int) : Int × Bool := l.foldl ustep (0, false)
theorem ustep_comm (s : Int × Bool) (a b : Int) : ustep (ustep s a) b = ustep (ustep s b) a := by
  obtain ⟨f, any⟩ := s
  unfold ustep
  cases any with
  | false =>
    by_cases ha : 0 ≤ a <;> by_cases hb : 0 ≤ b <;> simp [ha, hb]
    by_cases h1 : b < a
    · simp [h1, show ¬ a < b by omega]
    · by_cases h2 : a < b
      · simp [h1, h2]
      · obtain rfl : a = b := by omega
        simp
  | true =>
    by_cases ha : 0 ≤ a <;> by_cases hb : 0 ≤ b <;> by_cases h1 : a < f <;> by_cases h2 : b < f <;> simp [ha, hb, h1, h2]
    · by_cases h3 : b < a
      · simp [h3, show ¬ a < b by omega]
      · by_cases h4 : a < b
        · simp [h3, h4]
        · obtain rfl : a = b := by omega
          simp
    · omega
    · omega
theorem unst_perm {a b : List Int} (h : a.Perm b) : unst a = unst b := by
  exact h.foldl_eq' (fun x _ y _ z => ustep_comm z x y) _
theorem unst_snoc (l : List Int) (a : Int) : unst (l ++ [a]) = ustep (unst l) a := by simp [unst]

def Tab.unstable (T : Tab) : Int × Bool := unst (T.keys.map fun k => (T.prod k).opn)
def refUnstable (l : List Bt) : Int × Bool := unst ((refPids l).map fun k => (known l k).opn)
theorem unstable_agree {T : Tab} {l : List Bt} (h : Agree T l) (hz : ∀ b ∈ l, b.pid ≠ 0) (hnd : T.keys.Nodup) : T.unstable = refUnstable l := by
  unfold Tab.unstable refUnstable
  have e : (T.keys.map fun k => (T.prod k).opn) = T.keys.map fun k => (known l k).opn := List.map_congr_left fun k hk => by rw [h.2.2.1 k hk]
  rw [e]
  exact unst_perm ((h.pids hz hnd).map _)
theorem known_agree {T : Tab} {l : List Bt} (h : Agree T l) (k : Int) : T.known k = known l k := by
  unfold Tab.known
  split
  · rename_i hm; rw [h.2.2.1 k hm]
  · rename_i hm; rw [h.2.2.2.1 k hm]
end Go.Proofs.Ytnnoicacpcahfaa
