/- The document's Check of a batch: DocCheck, walked: it tells what batch.Check tells. No condition. -/
import Derived.Test.YtnnoicacpcahfaaBatchCheck
import Derived.Handy
namespace Go.Proofs.Ytnnoicacpcahfaa
open Go.RowKit

set_option maxRecDepth 100000 in
set_option maxHeartbeats 3200000 in
theorem docCheck_walk (w : World) (b : Bt) (vals : List (List Int)) (G : Nat → Prop) (h : ValsRd w b.va b.vn b.vc vals G) (hn : b.vn ≤ 4611686018427387904) (hp : 0 ≤ b.pid) :
    Calls Try.prog 29 #[.agg #[.int .i64 b.base, .int .i64 b.ep, .int .u64 b.pid, .int .i64 b.pe, .int .i64 b.sq, .bool b.txn, .bool b.ctl, .bool b.com, .slice b.va b.vn b.vc]] w
      fun e w' => e = .returned (.int .i64 (b.check vals)) ∧ Mods Nil w w' := by
  obtain ⟨R, hR⟩ : ∃ R, R = b.check vals := ⟨_, rfl⟩
  obtain ⟨fm, hfm⟩ : ∃ fm, fm = b.formB := ⟨_, rfl⟩
  rw [← hR]
  have hR1 : b.argB = true → R = 1 := fun h => by rw [hR, Bt.check, if_pos h]
  have hR2 : b.argB = false → fm = true → R = 7 := fun h h2 => by rw [hR, Bt.check, if_neg (by rw [h]; decide), if_pos (by rw [← hfm]; exact h2)]
  have hR3 : b.argB = false → fm = false → R = if 16 < b.vn then 2 else if vals.any (fun x => decide (64 < x.length)) then 2 else 0 := fun h h2 => by
    rw [hR, Bt.check, if_neg (by rw [h]; decide), if_neg (by rw [← hfm, h2]; decide)]
  unfold Bt.argB at hR1 hR2 hR3
  unfold Bt.formB at hfm
  clear hR
  obtain ⟨base, ep, pid, pe, sq, txn, ctl, com, va, vn, vc⟩ := b
  dsimp only at *
  replace hR1 := Lib.hid hR1
  replace hR2 := Lib.hid hR2
  replace hR3 := Lib.hid hR3
  replace hfm := Lib.hid hfm
  go_enter Try.func29, Try.ntmps29
  by_cases ha : base < 0 ∨ ep < 0 ∨ pe < 0 ∨ 1000 < pe ∨ sq < 0 ∨ 1000 < pid
  · have e1 : R = 1 := hR1.out (by simp; omega)
    subst e1
    have ha' : base < 0 ∨ (0 ≤ base ∧ ep < 0) ∨ (0 ≤ base ∧ 0 ≤ ep ∧ pe < 0) ∨ (0 ≤ base ∧ 0 ≤ ep ∧ 0 ≤ pe ∧ sq < 0) ∨ (0 ≤ base ∧ 0 ≤ ep ∧ 0 ≤ pe ∧ 0 ≤ sq ∧ 1000 < pe) ∨ (0 ≤ base ∧ 0 ≤ ep ∧ 0 ≤ pe ∧ 0 ≤ sq ∧ pe ≤ 1000 ∧ 1000 < pid) := by omega
    clear ha
    rcases ha' with h1 | ⟨h1, h2⟩ | ⟨h1, h2, h3⟩ | ⟨h1, h2, h3, h4⟩ | ⟨h1, h2, h3, h4, h5⟩ | ⟨h1, h2, h3, h4, h5, h6⟩
    all_goals go_wp2_with fail
    all_goals go_rounds 5
    all_goals go_ret
    all_goals exact ⟨rfl, (Mods.refl.alloc _).alloc _⟩
  · have h1 : 0 ≤ base := by omega
    have h2 : 0 ≤ ep := by omega
    have h3 : 0 ≤ pe := by omega
    have h4 : pe ≤ 1000 := by omega
    have h5 : 0 ≤ sq := by omega
    have h6 : pid ≤ 1000 := by omega
    clear ha
    have hA : (decide (base < 0) || decide (ep < 0) || decide (pe < 0) || decide (1000 < pe) || decide (sq < 0) || decide (1000 < pid)) = false := by simp [h1, h2, h3, h4, h5, h6]
    have hQ2 := Lib.hid (hR2.out hA)
    have hQ3 := Lib.hid (hR3.out hA)
    clear hA hR1 hR2 hR3
    go_wp2_with fail
    refine wp_loop_rounds 5 ?_
    rw [rounds_succ]
    go_wp2
    rw [rounds_succ]
    go_wp2
    rw [rounds_succ]
    go_wp2
    rw [rounds_succ]
    go_wp2
    rw [rounds_succ]
    go_upto_if 32 with fail
    have hp2 := heap_old (o' := .cells #[.int .i64 base, .int .i64 ep, .int .i64 pe, .int .i64 sq] 3) (heap_new w (.cells #[.int .i64 base, .int .i64 ep, .int .u64 pid, .int .i64 pe, .int .i64 sq, .bool txn, .bool ctl, .bool com, .slice va vn vc] 32))
    have hm2 : Mods Nil w ((w.alloc (.cells #[.int .i64 base, .int .i64 ep, .int .u64 pid, .int .i64 pe, .int .i64 sq, .bool txn, .bool ctl, .bool com, .slice va vn vc] 32)).alloc (.cells #[.int .i64 base, .int .i64 ep, .int .i64 pe, .int .i64 sq] 3)) := (Mods.refl.alloc _).alloc _
    have hv2 := h.keep hm2 (fun _ _ => id)
    generalize hw2 : (w.alloc (.cells #[.int .i64 base, .int .i64 ep, .int .u64 pid, .int .i64 pe, .int .i64 sq, .bool txn, .bool ctl, .bool com, .slice va vn vc] 32)).alloc (.cells #[.int .i64 base, .int .i64 ep, .int .i64 pe, .int .i64 sq] 3) = w2 at *
    clear hw2 h
    have cp2 := cellOf hp2
    have lp2 := ltOf hp2
    generalize hB : w.heap.size = B at *
    go_cut [2] (fun s2 wc => s2 = .int .i64 0 ∧ wc = w2 ∧ Hid ((ctl = true → vn = 0 ∧ txn = true ∧ pid ≠ 0 ∧ sq = 0) ∧ (ctl = false → 0 < vn ∧ com = false)))
    case first =>
      cases ctl with
      | false =>
        rcases Nat.eq_zero_or_pos vn with v0 | v0
        · subst v0
          have e1 : R = 7 := hQ2.out (by rw [hfm.out]; simp)
          subst e1
          go_wp2
          go_ret
          exact ⟨rfl, hm2⟩
        · cases com with
          | true =>
            have e1 : R = 7 := hQ2.out (by rw [hfm.out]; simp)
            subst e1
            go_wp2
            go_ret
            exact ⟨rfl, hm2⟩
          | false =>
            go_wp2
            go_meet
            refine ⟨rfl, rfl, ?_⟩
            show _ ∧ _
            simp
            try omega
      | true =>
        rcases Nat.eq_zero_or_pos vn with v0 | v0
        · subst v0
          cases txn with
          | false =>
            have e1 : R = 7 := hQ2.out (by rw [hfm.out]; simp)
            subst e1
            go_wp2
            go_ret
            exact ⟨rfl, hm2⟩
          | true =>
            by_cases p0 : pid = 0
            · subst p0
              have e1 : R = 7 := hQ2.out (by rw [hfm.out]; simp)
              subst e1
              go_wp2
              go_ret
              exact ⟨rfl, hm2⟩
            · by_cases q0 : sq = 0
              · subst q0
                go_wp2
                go_meet
                refine ⟨rfl, rfl, ?_⟩
                show _ ∧ _
                simp
                try exact p0
              · have q1 : 0 < sq := by omega
                have q2 := Lib.hid q1
                have q3 : (sq != 0) = true := by simp [q0]
                have e1 : R = 7 := hQ2.out (by rw [hfm.out]; simp [q2.out])
                subst e1
                go_wp2
                go_ret
                exact ⟨rfl, hm2⟩
        · have v2 := Lib.hid v0
          have e1 : R = 7 := hQ2.out (by rw [hfm.out]; simp [v2.out])
          subst e1
          go_wp2
          go_ret
          exact ⟨rfl, hm2⟩
    case rest =>
      obtain ⟨rfl, hwc, hf1⟩ := hcut
      obtain rfl := hwc.symm
      have hform : Hid (fm = (decide (pid = 0) && (txn || decide (0 < pe) || decide (0 < sq)))) := by
        rw [hfm.out]
        obtain ⟨g1, g2⟩ := hf1.out
        cases hc : ctl with
        | true =>
          obtain ⟨a1, a2, a3, a4⟩ := g1 hc
          subst a1 a2 a4
          show _ = _
          simp [a3]
        | false =>
          obtain ⟨a1, a2⟩ := g2 hc
          subst a2
          have a3 : ¬ vn = 0 := by omega
          show _ = _
          cases txn <;> by_cases p0 : pid = 0 <;> simp [p0, a3]
      clear hfm hf1
      by_cases p0 : pid = 0
      · subst p0
        cases txn with
        | true =>
          have e1 : R = 7 := hQ2.out (by rw [hform.out]; simp)
          subst e1
          go_wp2
          go_ret
          exact ⟨rfl, hm2⟩
        | false =>
          by_cases e0 : 0 < pe
          · have e1 : R = 7 := hQ2.out (by rw [hform.out]; simp [e0])
            subst e1
            go_wp2
            go_ret
            exact ⟨rfl, hm2⟩
          · obtain rfl : pe = 0 := by omega
            by_cases q0 : 0 < sq
            · have e1 : R = 7 := hQ2.out (by rw [hform.out]; simp [q0])
              subst e1
              go_wp2
              go_ret
              exact ⟨rfl, hm2⟩
            · obtain rfl : sq = 0 := by omega
              have e1 := Lib.hid (hQ3.out (by rw [hform.out]; simp))
              clear hform hQ2 hQ3 q0 e0
              go_upto_if 80 with fail
              by_cases h16 : 16 < vn
              · have e2 : R = 2 := by rw [e1.out, if_pos h16]
                subst e2
                clear e1
                go_wp2
                go_ret
                exact ⟨rfl, hm2⟩
              · have e2 : R = if vals.any (fun x => decide (64 < x.length)) then 2 else 0 := by rw [e1.out, if_neg h16]
                have h17 : vn ≤ 16 := by omega
                replace e2 := Lib.hid e2
                clear e1 h16
                go_wp2_with fail
                obtain ⟨hva, hvl, vs, hvsl, hrd, hel⟩ := hv2
                clear cp2 lp2
                go_loopw [5] (fun s5 wr => ∃ k : Nat, k ≤ vn ∧ s5 = .int .i64 k ∧ Mods Nil w2 wr ∧ Hid (∀ (i : Nat) (x : List Int), i < k → vals[i]? = some x → x.length ≤ 64)) (fun s5 _ => vn - (intOf s5).toNat)
                case atStart => exact ⟨0, by omega, rfl, Mods.refl, by intro i x h; omega⟩
                case round =>
                  obtain ⟨k, hk, rfl, hm, hq⟩ := hrel
                  have cp5 := cellOf (hm.keep hp2 id)
                  by_cases hlt : k < vn
                  · obtain ⟨g, off, rfl, hg, hcells⟩ := (rdKeep hrd hm (fun _ _ => id)).form (by omega) (by omega)
                    obtain ⟨v, hvk⟩ : ∃ v, vs[k]? = some v := ⟨_, List.getElem?_eq_getElem (by omega)⟩
                    obtain ⟨x, hxk⟩ : ∃ x, vals[k]? = some x := ⟨_, List.getElem?_eq_getElem (by omega)⟩
                    obtain ⟨hvn, hvx, hva1⟩ := hel k v x hvk hxk
                    have hck : wr.cell? ⟨g, off + k, none⟩ = some (.slice v.a x.length v.c) := by
                      rw [hcells k (by omega), List.getElem?_map, hvk]; simp [Vl.val, hvn]
                    replace hvk := Lib.hid hvk
                    replace hxk := Lib.hid hxk
                    clear hcells hva1 hvx
                    have i0 : (0 : Int) ≤ (k : Int) := by omega
                    have i1 : (k : Int) < (vn : Int) := by omega
                    by_cases hbig : 64 < x.length
                    · have e3 : R = 2 := by
                        rw [e2.out, if_pos]
                        exact List.any_eq_true.2 ⟨x, List.mem_of_getElem? hxk.out, by simp; omega⟩
                      subst e3
                      clear e2
                      go_wp2
                      go_ret
                      exact ⟨rfl, hm2.trans hm (fun _ _ h => h)⟩
                    · have hle : x.length ≤ 64 := by omega
                      clear hbig
                      go_wp2
                      refine ⟨⟨k + 1, by omega, by go_num, hm, ?_⟩, by simp [intOf]; omega⟩
                      show _
                      intro i y hi hy
                      by_cases hik : i < k
                      · exact hq.out i y hik hy
                      · obtain rfl : i = k := by omega
                        rw [hxk.out] at hy
                        cases hy
                        omega
                  · obtain rfl : k = vn := by omega
                    have e3 : R = 0 := by
                      rw [e2.out, if_neg]
                      intro hany
                      obtain ⟨x, hx, hx2⟩ := List.any_eq_true.1 hany
                      obtain ⟨i, hi⟩ := List.getElem?_of_mem hx
                      have := hq.out i x (by have := (List.getElem?_eq_some_iff.1 hi).1; omega) hi
                      simp at hx2; omega
                    subst e3
                    clear e2 hlt
                    go_wp2
                    go_ret
                    exact ⟨rfl, hm2.trans hm (fun _ _ h => h)⟩
      · have e1 := Lib.hid (hQ3.out (by rw [hform.out]; simp [p0]))
        clear hform hQ2 hQ3
        go_upto_if 80 with fail
        by_cases h16 : 16 < vn
        · have e2 : R = 2 := by rw [e1.out, if_pos h16]
          subst e2
          clear e1
          go_wp2
          go_ret
          exact ⟨rfl, hm2⟩
        · have e2 : R = if vals.any (fun x => decide (64 < x.length)) then 2 else 0 := by rw [e1.out, if_neg h16]
          have h17 : vn ≤ 16 := by omega
          replace e2 := Lib.hid e2
          clear e1 h16
          go_wp2_with fail
          obtain ⟨hva, hvl, vs, hvsl, hrd, hel⟩ := hv2
          clear cp2 lp2
          go_loopw [5] (fun s5 wr => ∃ k : Nat, k ≤ vn ∧ s5 = .int .i64 k ∧ Mods Nil w2 wr ∧ Hid (∀ (i : Nat) (x : List Int), i < k → vals[i]? = some x → x.length ≤ 64)) (fun s5 _ => vn - (intOf s5).toNat)
          case atStart => exact ⟨0, by omega, rfl, Mods.refl, by intro i x h; omega⟩
          case round =>
            obtain ⟨k, hk, rfl, hm, hq⟩ := hrel
            have cp5 := cellOf (hm.keep hp2 id)
            by_cases hlt : k < vn
            · obtain ⟨g, off, rfl, hg, hcells⟩ := (rdKeep hrd hm (fun _ _ => id)).form (by omega) (by omega)
              obtain ⟨v, hvk⟩ : ∃ v, vs[k]? = some v := ⟨_, List.getElem?_eq_getElem (by omega)⟩
              obtain ⟨x, hxk⟩ : ∃ x, vals[k]? = some x := ⟨_, List.getElem?_eq_getElem (by omega)⟩
              obtain ⟨hvn, hvx, hva1⟩ := hel k v x hvk hxk
              have hck : wr.cell? ⟨g, off + k, none⟩ = some (.slice v.a x.length v.c) := by
                rw [hcells k (by omega), List.getElem?_map, hvk]; simp [Vl.val, hvn]
              replace hvk := Lib.hid hvk
              replace hxk := Lib.hid hxk
              clear hcells hva1 hvx
              have i0 : (0 : Int) ≤ (k : Int) := by omega
              have i1 : (k : Int) < (vn : Int) := by omega
              by_cases hbig : 64 < x.length
              · have e3 : R = 2 := by
                  rw [e2.out, if_pos]
                  exact List.any_eq_true.2 ⟨x, List.mem_of_getElem? hxk.out, by simp; omega⟩
                subst e3
                clear e2
                go_wp2
                go_ret
                exact ⟨rfl, hm2.trans hm (fun _ _ h => h)⟩
              · have hle : x.length ≤ 64 := by omega
                clear hbig
                go_wp2
                refine ⟨⟨k + 1, by omega, by go_num, hm, ?_⟩, by simp [intOf]; omega⟩
                show _
                intro i y hi hy
                by_cases hik : i < k
                · exact hq.out i y hik hy
                · obtain rfl : i = k := by omega
                  rw [hxk.out] at hy
                  cases hy
                  omega
            · obtain rfl : k = vn := by omega
              have e3 : R = 0 := by
                rw [e2.out, if_neg]
                intro hany
                obtain ⟨x, hx, hx2⟩ := List.any_eq_true.1 hany
                obtain ⟨i, hi⟩ := List.getElem?_of_mem hx
                have := hq.out i x (by have := (List.getElem?_eq_some_iff.1 hi).1; omega) hi
                simp at hx2; omega
              subst e3
              clear e2 hlt
              go_wp2
              go_ret
              exact ⟨rfl, hm2.trans hm (fun _ _ h => h)⟩
end Go.Proofs.Ytnnoicacpcahfaa
