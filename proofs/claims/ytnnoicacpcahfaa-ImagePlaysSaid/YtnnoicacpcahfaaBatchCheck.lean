/- What is wrong with a batch: package batch's Check, walked. No condition. -/
import Derived.Test.YtnnoicacpcahfaaCopy
namespace Go.Proofs.Ytnnoicacpcahfaa
open Go.RowKit

def Bt.argB (b : Bt) : Bool := decide (b.base < 0) || decide (b.ep < 0) || decide (b.pe < 0) || decide (1000 < b.pe) || decide (b.sq < 0) || decide (1000 < b.pid)
def Bt.formB (b : Bt) : Bool :=
  (b.ctl && (decide (0 < b.vn) || !b.txn || decide (b.pid = 0) || decide (0 < b.sq))) || (!b.ctl && (decide (b.vn = 0) || b.com)) || (b.txn && decide (b.pid = 0)) || (decide (b.pid = 0) && (decide (0 < b.pe) || decide (0 < b.sq)))
def Bt.check (b : Bt) (vals : List (List Int)) : Int :=
  if b.argB then 1 else if b.formB then 7 else if 16 < b.vn then 2 else if vals.any (fun x => decide (64 < x.length)) then 2 else 0

set_option maxRecDepth 100000 in
set_option maxHeartbeats 3200000 in
theorem check_walk (w : World) (b : Bt) (vals : List (List Int)) (G : Nat → Prop) (h : ValsRd w b.va b.vn b.vc vals G) (hn : b.vn ≤ 4611686018427387904) (hp : 0 ≤ b.pid) :
    Calls Try.prog 28 #[.agg #[.int .i64 b.base, .int .i64 b.ep, .int .u64 b.pid, .int .i64 b.pe, .int .i64 b.sq, .bool b.txn, .bool b.ctl, .bool b.com, .slice b.va b.vn b.vc]] w
      fun e w' => e = .returned (.int .i64 (b.check vals)) ∧ Mods Nil w w' := by
  obtain ⟨R, hR⟩ : ∃ R, R = b.check vals := ⟨_, rfl⟩
  obtain ⟨fm, hfm⟩ : ∃ fm, fm = b.formB := ⟨_, rfl⟩
  rw [← hR]
  have hR1 : b.argB = true → R = 1 := fun h => by rw [hR, Bt.check, if_pos h]
  have hR2 : b.argB = false → fm = true → R = 7 := fun h h2 => by rw [hR, Bt.check, if_neg (by rw [h]; decide), if_pos (by rw [← hfm]; exact h2)]
  have hR3 : b.argB = false → fm = false → R = if 16 < b.vn then 2 else if vals.any (fun x => decide (64 < x.length)) then 2 else 0 := fun h h2 => by
    rw [hR, Bt.check, if_neg (by rw [h]; decide), if_neg (by rw [← hfm, h2]; decide)]
  unfold Bt.argB at hR1 hR2 hR3
  unfold Bt.formB at hfm
  clear hR
  obtain ⟨base, ep, pid, pe, sq, txn, ctl, com, va, vn, vc⟩ := b
  dsimp only at *
  replace hR1 := Lib.hid hR1
  replace hR2 := Lib.hid hR2
  replace hR3 := Lib.hid hR3
  replace hfm := Lib.hid hfm
  go_enter Try.func28, Try.ntmps28
  by_cases ha : base < 0 ∨ ep < 0 ∨ pe < 0 ∨ 1000 < pe ∨ sq < 0 ∨ 1000 < pid
  · have e1 : R = 1 := hR1.out (by simp; omega)
    subst e1
    have ha' : base < 0 ∨ (¬ base < 0 ∧ ep < 0) ∨ (¬ base < 0 ∧ ¬ ep < 0 ∧ pe < 0) ∨ (¬ base < 0 ∧ ¬ ep < 0 ∧ ¬ pe < 0 ∧ 1000 < pe) ∨ (¬ base < 0 ∧ ¬ ep < 0 ∧ ¬ pe < 0 ∧ ¬ 1000 < pe ∧ sq < 0) ∨ (¬ base < 0 ∧ ¬ ep < 0 ∧ ¬ pe < 0 ∧ ¬ 1000 < pe ∧ ¬ sq < 0 ∧ 1000 < pid) := by omega
    clear ha
    rcases ha' with h1 | ⟨h1, h2⟩ | ⟨h1, h2, h3⟩ | ⟨h1, h2, h3, h4⟩ | ⟨h1, h2, h3, h4, h5⟩ | ⟨h1, h2, h3, h4, h5, h6⟩
    all_goals go_wp2
    all_goals go_ret
    all_goals exact ⟨rfl, Mods.refl.alloc _⟩
  · have h1 : ¬ base < 0 := by omega
    have h2 : ¬ ep < 0 := by omega
    have h3 : ¬ pe < 0 := by omega
    have h4 : ¬ 1000 < pe := by omega
    have h5 : ¬ sq < 0 := by omega
    have h6 : ¬ 1000 < pid := by omega
    clear ha
    have hA : (decide (base < 0) || decide (ep < 0) || decide (pe < 0) || decide (1000 < pe) || decide (sq < 0) || decide (1000 < pid)) = false := by simp [h1, h2, h3, h4, h5, h6]
    have hR2 := Lib.hid (hR2.out hA)
    have hR3 := Lib.hid (hR3.out hA)
    clear hA
    go_upto_if 5 with fail
    go_step
    go_step
    go_cut [34] (fun s34 wc => s34 = .bool fm ∧ wc = w.alloc (.cells #[.int .i64 base, .int .i64 ep, .int .u64 pid, .int .i64 pe, .int .i64 sq, .bool txn, .bool ctl, .bool com, .slice va vn vc] 32))
    case first =>
      cases ctl <;> cases txn <;> cases com
      all_goals refine (Nat.eq_zero_or_pos vn).elim (fun v0 => ?_) (fun v0 => ?_)
      all_goals try subst v0
      all_goals refine (Decidable.em (pid = 0)).elim (fun p0 => ?_) (fun p0 => ?_)
      all_goals try subst p0
      all_goals go_wp2
      all_goals go_meet
      all_goals refine ⟨?_, rfl⟩
      all_goals rw [hfm.out]
      all_goals first | rfl | (simp [*]; done) | (simp [*]; omega) | skip
    case rest =>
      obtain ⟨rfl, rfl⟩ := hcut
      cases fm with
      | true =>
        have e1 : R = 7 := hR2.out rfl
        subst e1
        go_wp2
        go_ret
        exact ⟨rfl, Mods.refl.alloc _⟩
      | false =>
        by_cases h16 : 16 < vn
        · have e1 : R = 2 := by rw [hR3.out rfl, if_pos h16]
          subst e1
          go_wp2
          go_ret
          exact ⟨rfl, Mods.refl.alloc _⟩
        · have e1 : R = if vals.any (fun x => decide (64 < x.length)) then 2 else 0 := by rw [hR3.out rfl, if_neg h16]
          replace e1 := Lib.hid e1
          clear hR1 hR2 hR3 hfm
          go_wp2_with fail
          have hm2 : Mods Nil w (w.alloc (.cells #[.int .i64 base, .int .i64 ep, .int .u64 pid, .int .i64 pe, .int .i64 sq, .bool txn, .bool ctl, .bool com, .slice va vn vc] 32)) := Mods.refl.alloc _
          have hv2 := h.keep hm2 (fun _ _ => id)
          generalize hw2 : w.alloc (.cells #[.int .i64 base, .int .i64 ep, .int .u64 pid, .int .i64 pe, .int .i64 sq, .bool txn, .bool ctl, .bool com, .slice va vn vc] 32) = w2 at *
          clear hw2 h
          obtain ⟨hva, hvl, vs, hvsl, hrd, hel⟩ := hv2
          go_loopw [99] (fun s99 wr => ∃ k : Nat, k ≤ vn ∧ s99 = .int .i64 k ∧ Mods Nil w2 wr ∧ Hid (∀ (i : Nat) (x : List Int), i < k → vals[i]? = some x → x.length ≤ 64)) (fun s99 _ => vn - (intOf s99).toNat)
          case atStart => exact ⟨0, by omega, rfl, Mods.refl, by intro i x h; omega⟩
          case round =>
            obtain ⟨k, hk, rfl, hm, hq⟩ := hrel
            by_cases hlt : k < vn
            · obtain ⟨g, off, rfl, hg, hcells⟩ := (rdKeep hrd hm (fun _ _ => id)).form (by omega) (by omega)
              obtain ⟨v, hvk⟩ : ∃ v, vs[k]? = some v := ⟨_, List.getElem?_eq_getElem (by omega)⟩
              obtain ⟨x, hxk⟩ : ∃ x, vals[k]? = some x := ⟨_, List.getElem?_eq_getElem (by omega)⟩
              obtain ⟨hvn, hvx, hva1⟩ := hel k v x hvk hxk
              have hck : wr.cell? ⟨g, off + k, none⟩ = some (.slice v.a x.length v.c) := by
                rw [hcells k (by omega), List.getElem?_map, hvk]; simp [Vl.val, hvn]
              replace hvk := Lib.hid hvk
              replace hxk := Lib.hid hxk
              clear hcells hva1 hvx
              by_cases hbig : 64 < x.length
              · have e2 : R = 2 := by
                  rw [e1.out, if_pos]
                  exact List.any_eq_true.2 ⟨x, List.mem_of_getElem? hxk.out, by simp; omega⟩
                subst e2
                go_wp2
                go_ret
                exact ⟨rfl, hm2.trans hm (fun _ _ h => h)⟩
              · go_wp2
                refine ⟨⟨k + 1, by omega, by go_num, hm, ?_⟩, by simp [intOf]; omega⟩
                show _
                intro i y hi hy
                by_cases hik : i < k
                · exact hq.out i y hik hy
                · obtain rfl : i = k := by omega
                  rw [hxk.out] at hy
                  cases hy
                  omega
            · obtain rfl : k = vn := by omega
              have e2 : R = 0 := by
                rw [e1.out, if_neg]
                intro hany
                obtain ⟨x, hx, hx2⟩ := List.any_eq_true.1 hany
                obtain ⟨i, hi⟩ := List.getElem?_of_mem hx
                have := hq.out i x (by have := (List.getElem?_eq_some_iff.1 hi).1; omega) hi
                simp at hx2; omega
              subst e2
              go_wp2
              go_ret
              exact ⟨rfl, hm2.trans hm (fun _ _ h => h)⟩
end Go.Proofs.Ytnnoicacpcahfaa
