/- The table of package prod and the reference of layer 9: the last batches, and what Check answers: plain law, no program in sight. No condition. -/
import Derived.Test.YtnnoicacpcahfaaProdLaw
import Derived.Test.YtnnoicacpcahfaaRefCheck
namespace Go.Proofs.Ytnnoicacpcahfaa

def Bt.seen (b : Bt) : Seen := ⟨b.sq, b.vn, b.base⟩

theorem roseB_snoc (l : List Bt) (b : Bt) (i : Nat) (pid ep : Int) (h : i < l.length) : roseB (l ++ [b]) i pid ep = roseB l i pid ep := by
  unfold roseB
  rw [List.take_append_of_le_length (by omega)]

theorem lastGo_snoc (l : List Bt) (b : Bt) (pid ep : Int) : ∀ (m : Nat) (acc : List Bt), m ≤ l.length → lastGo (l ++ [b]) pid ep m acc = lastGo l pid ep m acc
  | 0, _, _ => rfl
  | m + 1, acc, h => by
    rw [lastGo, lastGo, List.getElem?_append_left (by omega)]
    rw [List.getElem?_eq_getElem (show m < l.length by omega)]
    dsimp only
    rw [roseB_snoc l b m _ ep (by omega)]
    simp only [lastGo_snoc l b pid ep m _ (show m ≤ l.length by omega)]

theorem known_pe (pid : Int) (h0 : pid ≠ 0) (l : List Bt) : (∀ b ∈ l, b.pid = pid → (known l pid).is = true ∧ b.pe ≤ (known l pid).epoch) ∧ ((known l pid).is = true → ∃ b ∈ l, b.pid = pid ∧ b.pe = (known l pid).epoch) := by
  suffices H : ∀ n, n ≤ l.length → (∀ b ∈ l.take n, b.pid = pid → (known (l.take n) pid).is = true ∧ b.pe ≤ (known (l.take n) pid).epoch) ∧ ((known (l.take n) pid).is = true → ∃ b ∈ l.take n, b.pid = pid ∧ b.pe = (known (l.take n) pid).epoch) by
    have := H l.length (Nat.le_refl _)
    rwa [List.take_length] at this
  intro n
  induction n with
  | zero => intro _; simp [known]
  | succ n ih =>
    intro hn
    obtain ⟨i1, i2⟩ := ih (by omega)
    obtain ⟨b, hb⟩ : ∃ b, l[n]? = some b := ⟨_, List.getElem?_eq_getElem (by omega)⟩
    rw [known_take l n b pid hb, List.take_add_one, hb]
    simp only [Option.toList_some]
    generalize known (l.take n) pid = s at *
    unfold kstep
    by_cases hp : b.pid ≠ pid ∨ pid = 0
    · rw [if_pos hp]
      have hbp : b.pid ≠ pid := hp.resolve_right h0
      refine ⟨fun c hc hcp => ?_, fun hs => ?_⟩
      · rcases List.mem_append.1 hc with hc | hc
        · exact i1 c hc hcp
        · simp at hc; subst hc; exact absurd hcp hbp
      · obtain ⟨c, hc, h⟩ := i2 hs
        exact ⟨c, List.mem_append_left _ hc, h⟩
    · rw [if_neg hp]
      have hbp : b.pid = pid := Decidable.byContradiction fun h => hp (.inl h)
      have hon : ((s.up b).on b).is = true ∧ ((s.up b).on b).epoch = (s.up b).epoch := by
        unfold KSt.on; split <;> exact ⟨rfl, rfl⟩
      rw [hon.1, hon.2]
      unfold KSt.up
      by_cases hu : s.is = false ∨ s.epoch < b.pe
      · rw [if_pos hu]
        refine ⟨fun c hc hcp => ⟨rfl, ?_⟩, fun _ => ⟨b, by simp, hbp, rfl⟩⟩
        rcases List.mem_append.1 hc with hc | hc
        · obtain ⟨j1, j2⟩ := i1 c hc hcp
          rcases hu with hu | hu
          · rw [j1] at hu; cases hu
          · show c.pe ≤ b.pe; omega
        · simp at hc; subst hc; exact Int.le_refl _
      · rw [if_neg hu]
        have hs : s.is = true := by
          cases hh : s.is with
          | true => rfl
          | false => exact absurd (.inl hh) hu
        have hle : b.pe ≤ s.epoch := by
          have : ¬ s.epoch < b.pe := fun h => hu (.inr h)
          omega
        refine ⟨fun c hc hcp => ⟨rfl, ?_⟩, fun _ => ?_⟩
        · rcases List.mem_append.1 hc with hc | hc
          · exact (i1 c hc hcp).2
          · simp at hc; subst hc; exact hle
        · obtain ⟨c, hc, h⟩ := i2 hs
          exact ⟨c, List.mem_append_left _ hc, h⟩

theorem lastGo_old (l : List Bt) (pid ep : Int) (h : ∀ b ∈ l, b.pid = pid → b.pe < ep) : ∀ (m : Nat) (acc : List Bt), lastGo l pid ep m acc = acc
  | 0, _ => rfl
  | m + 1, acc => by
    rw [lastGo]
    split
    · rfl
    · cases hb : l[m]? with
      | none => rfl
      | some b =>
        dsimp only
        by_cases hp : b.pid ≠ pid
        · rw [if_pos hp]; exact lastGo_old l pid ep h m acc
        · rw [if_neg hp]
          have hbp : b.pid = pid := Decidable.byContradiction hp
          have hlt := h b (List.mem_of_getElem? hb) hbp
          have hro : roseB l m b.pid ep = true := by
            unfold roseB
            simp only [Bool.not_eq_true']
            rw [List.any_eq_false]
            intro c hc
            have := h c (List.mem_of_mem_take hc)
            simp only [Bool.and_eq_true, decide_eq_true_eq, not_and]
            intro h1 h2
            have := this (h1.trans hbp)
            omega
          rw [if_pos ⟨hlt, hro⟩]

def lastAll (l : List Bt) (pid : Int) : List Bt := lastGo l pid (known l pid).ep0 l.length []

theorem lastAll_other (l : List Bt) (b : Bt) (pid : Int) (h : b.pid ≠ pid) : lastAll (l ++ [b]) pid = lastAll l pid := by
  unfold lastAll
  rw [known_snoc, kstep, if_pos (.inl h), List.length_append, List.length_singleton, lastGo, if_neg (by simp)]
  simp only [List.getElem?_append_right (Nat.le_refl _), Nat.sub_self, List.getElem?_cons_zero]
  rw [if_pos h, lastGo_snoc _ _ _ _ _ _ (Nat.le_refl _)]

theorem lastAll_up (l : List Bt) (b : Bt) (h0 : b.pid ≠ 0) (hu : (known l b.pid).is = false ∨ (known l b.pid).epoch < b.pe) : lastAll (l ++ [b]) b.pid = if b.ctl then [] else [b] := by
  have hp := (known_pe b.pid h0 l).1
  have hep : (known (l ++ [b]) b.pid).ep0 = b.pe := by
    rw [known_snoc, kstep, if_neg (by simp [h0])]
    unfold KSt.ep0 KSt.on KSt.up
    rw [if_pos hu]
    split <;> rfl
  unfold lastAll
  rw [hep, List.length_append, List.length_singleton, lastGo, if_neg (by simp)]
  simp only [List.getElem?_append_right (Nat.le_refl _), Nat.sub_self, List.getElem?_cons_zero]
  rw [if_neg (by simp), if_neg (fun h => by have := h.1; omega), lastGo_snoc _ _ _ _ _ _ (Nat.le_refl _), lastGo_old]
  · simp
  · intro c hc hcp
    obtain ⟨h1, h2⟩ := hp c hc hcp
    rcases hu with hu | hu
    · rw [h1] at hu; cases hu
    · omega

theorem lastAll_on (l : List Bt) (b : Bt) (h0 : b.pid ≠ 0) (hi : (known l b.pid).is = true) (hu : ¬ (known l b.pid).epoch < b.pe) : lastAll (l ++ [b]) b.pid = if b.ctl then lastAll l b.pid else b :: (lastAll l b.pid).take 4 := by
  obtain ⟨c, hc, hcp, hce⟩ := (known_pe b.pid h0 l).2 hi
  have hep : (known (l ++ [b]) b.pid).ep0 = (known l b.pid).epoch := by
    rw [known_snoc, kstep, if_neg (by simp [h0])]
    have hup : (known l b.pid).up b = ⟨(known l b.pid).epoch, (known l b.pid).next, (known l b.pid).opn, true⟩ := by
      unfold KSt.up
      exact if_neg (fun h => h.elim (fun h => by rw [hi] at h; cases h) hu)
    rw [hup]
    unfold KSt.on
    cases b.ctl <;> rfl
  have hep2 : (known l b.pid).ep0 = (known l b.pid).epoch := by simp [KSt.ep0, hi]
  unfold lastAll
  rw [hep, hep2, List.length_append, List.length_singleton, lastGo, if_neg (by simp)]
  simp only [List.getElem?_append_right (Nat.le_refl _), Nat.sub_self, List.getElem?_cons_zero]
  have hro : roseB (l ++ [b]) l.length b.pid (known l b.pid).epoch = false := by
    unfold roseB
    simp only [Bool.not_eq_false']
    refine List.any_eq_true.2 ⟨c, ?_, by simp [hcp, hce]⟩
    rw [List.take_of_length_le (by simp)]
    exact List.mem_append_left _ hc
  rw [if_neg (by simp), if_neg (by rw [hro]; simp), lastGo_snoc _ _ _ _ _ _ (Nat.le_refl _), lastGo_acc _ _ _ _ _ (by split <;> simp)]
  have hl := lastGo_len l b.pid (known l b.pid).epoch l.length
  split
  · simp only [List.nil_append, List.length_nil]
    rw [List.take_of_length_le (by simpa using hl)]
  · simp

/-- The last batches agree. -/
def AgreeL (T : Tab) (l : List Bt) : Prop := ∀ k ∈ T.keys, (T.prod k).last = (lastAll l k).reverse.map Bt.seen

theorem AgreeL.nil (d : Prod) : AgreeL ⟨[], fun _ => d, []⟩ [] := by intro k hk; simp at hk

theorem AgreeL.step {T : Tab} {l : List Bt} (hA : Agree T l) (h : AgreeL T l) (b : Bt) (h0 : b.pid ≠ 0) : AgreeL (T.apply b) (l ++ [b]) := by
  obtain ⟨_, _, hk, hn, _⟩ := hA
  have ka : (T.apply b).keys = (T.ensure b).keys ∧ ∀ k, k ≠ b.pid → (T.apply b).prod k = (T.ensure b).prod k := by
    unfold Tab.apply
    rw [if_neg h0]
    dsimp only
    cases hc : b.ctl with
    | true =>
      rw [if_pos rfl]
      unfold Tab.mark
      split <;> exact ⟨rfl, fun k hk => by simp [Tab.set, Tab.abort, hk]⟩
    | false =>
      rw [if_neg (by decide)]
      exact ⟨rfl, fun k hk => by simp [Tab.set, hk]⟩
  have ke : ∀ k ∈ (T.ensure b).keys, k ≠ b.pid → k ∈ T.keys ∧ (T.ensure b).prod k = T.prod k := by
    intro k hk' hne
    unfold Tab.ensure at *
    by_cases hm : b.pid ∈ T.keys
    · rw [if_pos hm] at hk' ⊢; exact ⟨hk', rfl⟩
    · rw [if_neg hm] at hk' ⊢
      refine ⟨?_, by simp [Tab.add, hne]⟩
      rcases List.mem_append.1 (show k ∈ T.keys ++ [b.pid] from hk') with h | h
      · exact h
      · simp at h; exact absurd h hne
  have key : ∀ k ∈ (T.apply b).keys, k ≠ b.pid → k ∈ T.keys ∧ (T.apply b).prod k = T.prod k := by
    intro k hk' hne
    rw [ka.1] at hk'
    obtain ⟨h1, h2⟩ := ke k hk' hne
    exact ⟨h1, by rw [ka.2 k hne, h2]⟩
  have hown : ((T.apply b).prod b.pid).last = (lastAll (l ++ [b]) b.pid).reverse.map Bt.seen := by
    have e0 : ((T.apply b).prod b.pid).last = if b.ctl then (((T.ensure b).prod b.pid).raise b).last else last5 ((((T.ensure b).prod b.pid).raise b).last ++ [b.seen]) := by
      unfold Tab.apply
      rw [if_neg h0]
      cases hc : b.ctl with
      | true =>
        simp only [if_true]
        unfold Tab.mark
        split <;> simp [Tab.set, Tab.abort]
      | false =>
        simp [Tab.set, Prod.step, Bt.seen]
    rw [e0]
    by_cases hm : b.pid ∈ T.keys
    · have e1 : T.ensure b = T := by simp [Tab.ensure, hm]
      have e2 := hk _ hm
      have e3 := h _ hm
      have ei : (known l b.pid).is = true := by rw [e2]
      have ee : (known l b.pid).epoch = (T.prod b.pid).epoch := by rw [e2]
      rw [e1]
      unfold Prod.raise
      by_cases hu : (T.prod b.pid).epoch < b.pe
      · rw [if_pos hu, lastAll_up l b h0 (.inr (by rw [ee]; exact hu))]
        cases hc : b.ctl <;> simp [last5]
      · rw [if_neg hu, lastAll_on l b h0 ei (by rw [ee]; exact hu), e3]
        cases hc : b.ctl with
        | true => simp
        | false =>
          simp only [Bool.false_eq_true, if_false]
          have hl := lastGo_len l b.pid (known l b.pid).ep0 l.length
          change (lastAll l b.pid).length ≤ 5 at hl
          generalize lastAll l b.pid = X at *
          unfold last5
          by_cases h6 : 5 < ((X.reverse.map Bt.seen) ++ [b.seen]).length
          · rw [if_pos h6]
            have h5 : X.length = 5 := by simp at h6; omega
            match X, h5 with
            | [x1, x2, x3, x4, x5], _ => simp
          · rw [if_neg h6, List.take_of_length_le (by simp at h6; omega)]
            simp
    · have e1 : (T.ensure b).prod b.pid = ⟨b.pe, 0, [], -1⟩ := by simp [Tab.ensure, hm, Tab.add]
      have e2 := hn _ hm
      rw [e1, lastAll_up l b h0 (.inl (by rw [e2]))]
      unfold Prod.raise
      rw [if_neg (show ¬ (⟨b.pe, 0, [], -1⟩ : Prod).epoch < b.pe from by simp)]
      cases hc : b.ctl <;> simp [last5]
  intro k hk'
  by_cases hne : k = b.pid
  · rw [hne]; exact hown
  · obtain ⟨h1, h2⟩ := key k hk' hne
    rw [h2, lastAll_other l b k (Ne.symm hne), h k h1]

/-- What Check answers. -/
theorem check_agree {T : Tab} {l : List Bt} (hA : Agree T l) (h : AgreeL T l) (b : Bt) (vals : List (List Int)) : T.check b (b.check vals) = refCheck l b (b.check vals) := by
  unfold Tab.check refCheck
  by_cases he : b.check vals = 0
  · have hne : ¬ (b.check vals ≠ 0) := by simp [he]
    rw [if_neg hne, if_neg hne]
    have hsq : 0 ≤ b.sq := by
      have ha : b.argB = false := by
        cases hh : b.argB with
        | false => rfl
        | true => rw [Bt.check, hh] at he; simp at he
      unfold Bt.argB at ha
      simp at ha
      omega
    by_cases h0 : b.pid = 0
    · rw [if_pos h0, if_pos h0]
    · rw [if_neg h0, if_neg h0]
      have hs0 : (if b.sq ≠ 0 then (11 : Int) else 0) = if 0 < b.sq then 11 else 0 := by
        by_cases hz : b.sq = 0
        · rw [if_neg (by simp [hz]), if_neg (by omega)]
        · rw [if_pos hz, if_pos (by omega)]
      obtain ⟨_, _, hk, hn, _⟩ := hA
      by_cases hm : b.pid ∈ T.keys
      · have e2 := hk _ hm
        have e3 := h _ hm
        have hi : (known l b.pid).is = true := by rw [e2]
        have ee : (known l b.pid).epoch = (T.prod b.pid).epoch := by rw [e2]
        have en : (known l b.pid).next = (T.prod b.pid).next := by rw [e2]
        rw [hi, ee]
        simp only [hm, true_and]
        by_cases hf : b.pe < (T.prod b.pid).epoch
        · rw [if_pos hf, if_pos hf]
        · rw [if_neg hf, if_neg hf]
          cases hc : b.ctl with
          | true => simp
          | false =>
            simp only [Bool.false_eq_true, if_false]
            by_cases hq : b.pe = (T.prod b.pid).epoch
            · rw [if_pos hq, if_neg (by simp; omega)]
              unfold seenPick refPick
              rw [en, e3, List.find?_map]
              have hh : (seenHit b ∘ Bt.seen) = btHit b := by
                funext c
                unfold seenHit btHit Bt.seen Bt.size
                rw [hc]
                by_cases g1 : c.vn = b.vn
                · simp [g1]
                · simp [g1]
                  intro _ h2; exact g1 (by exact_mod_cast h2)
              rw [hh]
              change _ = match List.find? (btHit b) (lastAll l b.pid).reverse with | some c => _ | none => _
              cases List.find? (btHit b) (lastAll l b.pid).reverse <;> rfl
            · rw [if_neg hq, hs0, if_pos (show true = false ∨ (T.prod b.pid).epoch < b.pe from .inr (by omega))]
      · have e2 := hn _ hm
        rw [e2]
        simp only [hm, false_and, if_false, Bool.false_eq_true, true_or, if_true]
        cases hc : b.ctl with
        | true => simp
        | false => simp only [Bool.false_eq_true, if_false]; rw [hs0]
  · rw [if_pos he, if_pos he]
end Go.Proofs.Ytnnoicacpcahfaa
