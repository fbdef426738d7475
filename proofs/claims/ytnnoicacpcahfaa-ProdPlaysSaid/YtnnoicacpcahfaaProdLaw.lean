/- The table of package prod and the reference of layer 9 tell the same: plain law, no program in sight. No condition. -/
import Derived.Test.YtnnoicacpcahfaaRefAborts
namespace Go.Proofs.Ytnnoicacpcahfaa

theorem abUpTo_snoc (l : List Bt) (b : Bt) : ∀ k, k ≤ l.length → abUpTo (l ++ [b]) k = abUpTo l k
  | 0, _ => rfl
  | k + 1, h => by
    rw [abUpTo, abUpTo, abUpTo_snoc l b k (by omega), List.getElem?_append_left (by omega), List.take_append_of_le_length (by omega)]
theorem abAll_snoc (l : List Bt) (b : Bt) : abAll (l ++ [b]) = abAll l ++ abNext l b := by
  unfold abAll
  rw [List.length_append, List.length_singleton, abUpTo, abUpTo_snoc l b _ (Nat.le_refl _)]
  simp

/-- Table and list agree. -/
def Agree (T : Tab) (l : List Bt) : Prop :=
  T.aborts = abAll l ∧ (∀ k ∈ T.keys, (T.prod k).last.length ≤ 5) ∧ (∀ k ∈ T.keys, known l k = ⟨(T.prod k).epoch, (T.prod k).next, (T.prod k).opn, true⟩) ∧ (∀ k, k ∉ T.keys → known l k = ⟨0, 0, -1, false⟩) ∧ 0 ∉ T.keys
theorem Agree.nil (d : Prod) : Agree ⟨[], fun _ => d, []⟩ [] := ⟨rfl, by simp, by simp, fun _ _ => rfl, by simp⟩

theorem last5_len (l : List Seen) (x : Seen) (h : l.length ≤ 5) : (last5 (l ++ [x])).length ≤ 5 := by
  unfold last5
  split
  · simp; omega
  · omega

theorem Agree.step {T : Tab} {l : List Bt} (h : Agree T l) (b : Bt) (h0 : b.pid ≠ 0) : Agree (T.apply b) (l ++ [b]) := by
  obtain ⟨ha, hl, hk, hn, hz⟩ := h
  obtain ⟨T1, hT1⟩ : ∃ T1, T1 = T.ensure b := ⟨_, rfl⟩
  have a1 : T1.aborts = T.aborts := by rw [hT1]; unfold Tab.ensure; split <;> rfl
  have a2 : b.pid ∈ T1.keys := by
    rw [hT1]; unfold Tab.ensure; split
    · assumption
    · simp [Tab.add]
  have a3 : ∀ k, k ≠ b.pid → (k ∈ T1.keys ↔ k ∈ T.keys) := fun k hk => by
    rw [hT1]; unfold Tab.ensure; split
    · rfl
    · simp [Tab.add, hk]
  have a4 : ∀ k, k ≠ b.pid → T1.prod k = T.prod k := fun k hk => by
    rw [hT1]; unfold Tab.ensure; split
    · rfl
    · simp [Tab.add, hk]
  obtain ⟨p, hp⟩ : ∃ p, p = (T1.prod b.pid).raise b := ⟨_, rfl⟩
  obtain ⟨s, hs⟩ : ∃ s, s = known l b.pid := ⟨_, rfl⟩
  have a5 : p.last.length ≤ 5 ∧ s.up b = ⟨p.epoch, p.next, p.opn, true⟩ ∧ p.opn = s.opn ∧ (s.is = false → s.opn = -1) := by
    by_cases hm : b.pid ∈ T.keys
    · have e1 : T1 = T := by rw [hT1]; simp [Tab.ensure, hm]
      have e2 := hk _ hm
      have e3 := hl _ hm
      rw [← hs] at e2
      subst e1
      rw [hp, e2]
      unfold Prod.raise KSt.up
      by_cases hlt : (T1.prod b.pid).epoch < b.pe
      · simp [hlt]
      · simp [hlt, e3]
    · have e1 : T1.prod b.pid = ⟨b.pe, 0, [], -1⟩ := by rw [hT1]; simp [Tab.ensure, hm, Tab.add]
      have e2 := hn _ hm
      rw [← hs] at e2
      rw [hp, e1, e2]
      simp [Prod.raise, KSt.up]
  obtain ⟨b1, b2, b3, b4⟩ := a5
  have ks : known (l ++ [b]) b.pid = (s.up b).on b := by rw [known_snoc, kstep, if_neg (by simp [h0]), hs]
  have kn : ∀ k, k ≠ b.pid → known (l ++ [b]) k = known l k := fun k hk => by rw [known_snoc, kstep, if_pos (.inl (Ne.symm hk))]
  have fin : ∀ (T' : Tab), T'.keys = T1.keys → (∀ k, k ≠ b.pid → T'.prod k = T1.prod k) → T'.aborts = T.aborts ++ abNext l b → (T'.prod b.pid).last.length ≤ 5 →
      (s.up b).on b = ⟨(T'.prod b.pid).epoch, (T'.prod b.pid).next, (T'.prod b.pid).opn, true⟩ → Agree T' (l ++ [b]) := by
    intro T' c1 c2 c3 c4 c5
    refine ⟨by rw [c3, ha, abAll_snoc], fun k hk' => ?_, fun k hk' => ?_, fun k hk' => ?_, ?_⟩
    · by_cases e : k = b.pid
      · rw [e]; exact c4
      · rw [c2 k e, a4 k e]; rw [c1, a3 k e] at hk'; exact hl k hk'
    · by_cases e : k = b.pid
      · rw [e, ks, c5]
      · rw [kn k e, c2 k e, a4 k e]; rw [c1, a3 k e] at hk'; exact hk k hk'
    · by_cases e : k = b.pid
      · rw [e, c1] at hk'; exact absurd a2 hk'
      · rw [kn k e]; rw [c1, a3 k e] at hk'; exact hn k hk'
    · rw [c1, a3 0 (Ne.symm h0)]; exact hz
  have e0 : T.apply b = (if b.ctl then (T1.set b.pid p).mark b p else (T1.set b.pid p).set b.pid (p.step b)) := by
    rw [Tab.apply, if_neg h0, hp, hT1]
  rw [e0]
  cases hc : b.ctl with
  | false =>
    simp only [Bool.false_eq_true, if_false]
    refine fin _ rfl (fun k hk' => by simp [Tab.set, hk']) ?_ ?_ ?_
    · show T1.aborts = _
      rw [a1]; simp [abNext, hc]
    · simp only [Tab.set, if_true, Prod.step]; exact last5_len _ _ b1
    · simp [Tab.set, Prod.step, b2, KSt.on, hc]
  | true =>
    simp only [if_true]
    by_cases ho : 0 ≤ p.opn ∧ b.com = false
    · have hi : s.is = true := by
        cases hh : s.is with
        | true => rfl
        | false => have := b4 hh; omega
      refine fin _ (by simp [Tab.mark, ho, Tab.set, Tab.abort]) (fun k hk' => by simp [Tab.mark, ho, Tab.set, Tab.abort, hk']) ?_ ?_ ?_
      · simp only [Tab.mark, if_pos ho]
        show T1.aborts ++ _ = _
        rw [a1, abNext, if_pos ⟨hc, ho.2, by rw [← hs]; exact hi, by rw [← hs, ← b3]; exact ho.1⟩, ← hs, b3]
      · simp [Tab.mark, ho, Tab.set, Tab.abort, b1]
      · simp [Tab.mark, ho, Tab.set, Tab.abort, b2, KSt.on, hc]
    · refine fin _ (by simp [Tab.mark, ho, Tab.set]) (fun k hk' => by simp [Tab.mark, ho, Tab.set, hk']) ?_ ?_ ?_
      · simp only [Tab.mark, if_neg ho]
        show T1.aborts = _
        rw [a1, abNext, if_neg (fun hh => ho ⟨by rw [b3, hs]; exact hh.2.2.2, hh.2.1⟩)]
        simp
      · simp [Tab.mark, ho, Tab.set, b1]
      · simp [Tab.mark, ho, Tab.set, b2, KSt.on, hc]

theorem Agree.wf {T : Tab} {l : List Bt} (h : Agree T l) : T.aborts.length ≤ l.length := by
  rw [h.1]; exact abUpTo_len l l.length
end Go.Proofs.Ytnnoicacpcahfaa
