/- Reference of layer 9: Check, walked. No condition. -/
import Derived.Test.YtnnoicacpcahfaaRefLast
import Derived.Test.YtnnoicacpcahfaaDocCheck
namespace Go.Proofs.Ytnnoicacpcahfaa
open Go.RowKit

theorem lastGo_acc (l : List Bt) (pid ep : Int) : ∀ (m : Nat) (acc : List Bt), acc.length ≤ 5 → lastGo l pid ep m acc = acc ++ (lastGo l pid ep m []).take (5 - acc.length)
  | 0, acc, _ => by simp [lastGo]
  | m + 1, acc, h => by
    rw [lastGo, lastGo]
    by_cases h5 : 5 ≤ acc.length
    · rw [if_pos h5, show 5 - acc.length = 0 by omega]; simp
    · rw [if_neg h5, if_neg (by simp)]
      cases hb : l[m]? with
      | none => simp
      | some b =>
        dsimp only
        by_cases hp : b.pid ≠ pid
        · rw [if_pos hp, if_pos hp]; exact lastGo_acc l pid ep m acc h
        · rw [if_neg hp, if_neg hp]
          by_cases hr : b.pe < ep ∧ roseB l m b.pid ep = true
          · rw [if_pos hr, if_pos hr]; simp
          · rw [if_neg hr, if_neg hr]
            cases hc : b.ctl with
            | true => simp only [if_true]; exact lastGo_acc l pid ep m acc h
            | false =>
              simp only [Bool.false_eq_true, if_false, List.nil_append]
              rw [lastGo_acc l pid ep m (acc ++ [b]) (by simp; omega), lastGo_acc l pid ep m [b] (by simp)]
              obtain ⟨q, hq⟩ : ∃ q, 5 - acc.length = q + 1 := ⟨4 - acc.length, by omega⟩
              rw [hq, show 5 - (acc ++ [b]).length = q by simp; omega]
              simp only [List.singleton_append, List.take_succ_cons, List.take_take, List.append_assoc, List.length_singleton]
              rw [Nat.min_eq_left (by omega)]

theorem lastGo_len (l : List Bt) (pid ep : Int) (m : Nat) : (lastGo l pid ep m []).length ≤ 5 := by
  have h := lastGo_acc l pid ep m [] (by simp)
  rw [h]; simp; omega

def btHit (b c : Bt) : Bool := decide (c.sq = b.sq) && decide (c.vn = b.vn)
def refPick (l : List Bt) (b : Bt) : Int × Bool × Int :=
  match (lastGo l b.pid (known l b.pid).ep0 l.length []).reverse.find? (btHit b) with
  | some c => (c.base, true, 0)
  | none => (0, false, if b.sq ≠ (known l b.pid).next then 11 else 0)
def refCheck (l : List Bt) (b : Bt) (e : Int) : Int × Bool × Int :=
  if e ≠ 0 then (0, false, e) else if b.pid = 0 then (0, false, 0) else
  if (known l b.pid).is = true ∧ b.pe < (known l b.pid).epoch then (0, false, 10) else if b.ctl then (0, false, 0) else
  if (known l b.pid).is = false ∨ (known l b.pid).epoch < b.pe then (0, false, if 0 < b.sq then 11 else 0) else refPick l b

theorem find_rev {α : Type} (l : List α) (p : α → Bool) (m : Nat) (x : α) (hx : l[m]? = some x) (hp : p x = true) (hn : ∀ (j : Nat) (s : α), m < j → l[j]? = some s → p s = false) : l.reverse.find? p = some x := by
  have hm : m < l.length := (List.getElem?_eq_some_iff.1 hx).1
  refine find_at l.reverse p (l.length - 1 - m) x ?_ hp (fun i s hi hs => ?_)
  · rw [List.getElem?_reverse (by omega), show l.length - 1 - (l.length - 1 - m) = m by omega]; exact hx
  · rw [List.getElem?_reverse (by omega)] at hs
    exact hn _ s (by omega) hs

set_option maxRecDepth 100000 in
set_option maxHeartbeats 3200000 in
theorem refCheck_walk (w : World) (bt : Nat) (la : Option Addr) (lc : Nat) (l : List Bt) (b : Bt) (vals : List (List Int)) (G : Nat → Prop)
    (hb : w.heap[bt]? = some (.cells #[.slice la l.length lc] 27)) (hsl : Rd w 9 (.slice la l.length lc) l.length (l.flatMap Bt.cells)) (hlen : l.length * 72 ≤ 140737488355328)
    (hv : ValsRd w b.va b.vn b.vc vals G) (hn : b.vn ≤ 4611686018427387904) (hp : 0 ≤ b.pid) :
    Calls Try.prog 15 #[.pointer (some ⟨bt, 0, none⟩), .agg #[.int .i64 b.base, .int .i64 b.ep, .int .u64 b.pid, .int .i64 b.pe, .int .i64 b.sq, .bool b.txn, .bool b.ctl, .bool b.com, .slice b.va b.vn b.vc]] w
      fun e w' => e = .returned (chkOut (refCheck l b (b.check vals))) ∧ Mods Nil w w' := by
  obtain ⟨R, hR⟩ : ∃ R, R = refCheck l b (b.check vals) := ⟨_, rfl⟩
  rw [← hR]
  replace hR := Lib.hid hR
  have lb := ltOf hb
  go_enter Try.func15, Try.ntmps15
  go_wp2_with fail
  refine (docCheck_walk _ b vals G (hv.keep (Mods.refl.alloc _) (fun _ _ => id)) hn hp).mono ?_
  rintro e w1 ⟨rfl, hm1'⟩
  generalize b.check vals = er at *
  have hm1 : Mods Nil w w1 := (Mods.refl.alloc _).trans hm1' (fun _ _ h => h)
  have hp1 := hm1'.keep (heap_new w _) id
  have hb1 := hm1.keep hb id
  have hsl1 := rdKeep hsl hm1 (fun _ _ => id)
  have cp := cellOf hp1
  have lp := ltOf hp1
  clear hm1' hv
  generalize hbp : w.heap.size = bp at *
  by_cases he : er = 0
  · subst he
    by_cases h0 : b.pid = 0
    · have e1 : R = (0, false, 0) := by rw [hR.out]; simp [refCheck, h0]
      subst e1
      have h0' : (b.pid == 0) = true := by simp [h0]
      clear h0 hR
      go_wp2
      ((try simp only [Exit.inBlock, Exit.then]); refine bodyPost_ret (results_tmp3 rfl _ _ _) rfl ?_)
      exact ⟨rfl, hm1⟩
    · have h0' : (b.pid == 0) = false := by simp [h0]
      have hR : R = if (known l b.pid).is = true ∧ b.pe < (known l b.pid).epoch then (0, false, 10) else if b.ctl then (0, false, 0) else
          if (known l b.pid).is = false ∨ (known l b.pid).epoch < b.pe then (0, false, if 0 < b.sq then 11 else 0) else refPick l b := by
        rw [hR.out, refCheck, if_neg (by simp), if_neg h0]
      replace hR := Lib.hid hR
      clear h0
      go_wp2_with fail
      refine (refKnown_walk _ bt la lc l b.pid hb1 hsl1 (by omega)).mono ?_
      rintro e w2 ⟨rfl, hm2⟩
      obtain ⟨st, hst⟩ : ∃ st, st = known l b.pid := ⟨_, rfl⟩
      have hR2 : R = if st.is = true ∧ b.pe < st.epoch then (0, false, 10) else if b.ctl then (0, false, 0) else
          if st.is = false ∨ st.epoch < b.pe then (0, false, if 0 < b.sq then 11 else 0) else refPick l b := by rw [hst]; exact hR.out
      have hep : st.ep0 = (known l b.pid).ep0 := by rw [hst]
      have hnx : st.next = (known l b.pid).next := by rw [hst]
      rw [← hst]
      clear hR hst
      replace hep := Lib.hid hep
      replace hnx := Lib.hid hnx
      obtain ⟨epoch, next, opn, is⟩ := st
      dsimp only at hR2
      replace hR2 := Lib.hid hR2
      have hm02 : Mods Nil w w2 := hm1.trans hm2 (fun _ _ h => h)
      have hp2 := hm2.keep hp1 id
      have hb2 := hm2.keep hb1 id
      have hsl2 := rdKeep hsl1 hm2 (fun _ _ => id)
      have cp2 := cellOf hp2
      have lp2 := ltOf hp2
      clear cp lp hm2 hsl1 hsl hb
      cases is with
      | false =>
        have e0 : R = if b.ctl then (0, false, 0) else (0, false, if 0 < b.sq then 11 else 0) := by rw [hR2.out]; simp
        rw [show (⟨epoch, next, opn, false⟩ : KSt).out = .tuple #[.int .i64 0, .int .i64 0, .int .i64 0, .bool false] from rfl]
        clear hR2 hep hnx
        replace e0 := Lib.hid e0
        cases hc : b.ctl with
        | true =>
          have e1 : R = (0, false, 0) := by rw [e0.out, hc]; rfl
          subst e1
          clear e0
          go_wp2
          ((try simp only [Exit.inBlock, Exit.then]); refine bodyPost_ret (results_tmp3 rfl _ _ _) rfl ?_)
          exact ⟨rfl, hm02⟩
        | false =>
          have e2 : R = (0, false, if 0 < b.sq then 11 else 0) := by rw [e0.out, hc]; rfl
          clear e0
          by_cases hs : 0 < b.sq
          · have e1 : R = (0, false, 11) := by rw [e2, if_pos hs]
            subst e1
            go_wp2
            ((try simp only [Exit.inBlock, Exit.then]); refine bodyPost_ret (results_tmp3 rfl _ _ _) rfl ?_)
            exact ⟨rfl, hm02⟩
          · have e1 : R = (0, false, 0) := by rw [e2, if_neg hs]
            subst e1
            have hs' : b.sq ≤ 0 := by omega
            clear hs e2
            go_wp2
            ((try simp only [Exit.inBlock, Exit.then]); refine bodyPost_ret (results_tmp3 rfl _ _ _) rfl ?_)
            exact ⟨rfl, hm02⟩
      | true =>
        rw [show (⟨epoch, next, opn, true⟩ : KSt).out = .tuple #[.int .i64 epoch, .int .i64 next, .int .i64 opn, .bool true] from rfl]
        have e0 : R = if b.pe < epoch then (0, false, 10) else if b.ctl then (0, false, 0) else
            if epoch < b.pe then (0, false, if 0 < b.sq then 11 else 0) else refPick l b := by rw [hR2.out]; simp
        clear hR2
        replace e0 := Lib.hid e0
        by_cases hpe : b.pe < epoch
        · have e1 : R = (0, false, 10) := by rw [e0.out, if_pos hpe]
          subst e1
          clear e0
          go_wp2
          ((try simp only [Exit.inBlock, Exit.then]); refine bodyPost_ret (results_tmp3 rfl _ _ _) rfl ?_)
          exact ⟨rfl, hm02⟩
        · have hpe' : epoch ≤ b.pe := by omega
          cases hc : b.ctl with
          | true =>
            have e1 : R = (0, false, 0) := by rw [e0.out, if_neg hpe, hc]; rfl
            subst e1
            clear e0 hpe
            go_wp2
            ((try simp only [Exit.inBlock, Exit.then]); refine bodyPost_ret (results_tmp3 rfl _ _ _) rfl ?_)
            exact ⟨rfl, hm02⟩
          | false =>
            by_cases hgt : epoch < b.pe
            · have e2 : R = (0, false, if 0 < b.sq then 11 else 0) := by rw [e0.out, if_neg hpe, hc, if_neg (by decide), if_pos hgt]
              clear e0 hpe
              by_cases hs : 0 < b.sq
              · have e1 : R = (0, false, 11) := by rw [e2, if_pos hs]
                subst e1
                go_wp2
                ((try simp only [Exit.inBlock, Exit.then]); refine bodyPost_ret (results_tmp3 rfl _ _ _) rfl ?_)
                exact ⟨rfl, hm02⟩
              · have e1 : R = (0, false, 0) := by rw [e2, if_neg hs]
                subst e1
                have hs' : b.sq ≤ 0 := by omega
                clear hs e2
                go_wp2
                ((try simp only [Exit.inBlock, Exit.then]); refine bodyPost_ret (results_tmp3 rfl _ _ _) rfl ?_)
                exact ⟨rfl, hm02⟩
            · have e2 : R = refPick l b := by rw [e0.out, if_neg hpe, hc, if_neg (by decide), if_neg hgt]
              have hpe2 : b.pe ≤ epoch := by omega
              clear e0 hpe hgt
              unfold refPick at e2
              rw [← hnx.out, ← hep.out] at e2
              have hll := lastGo_len l b.pid (⟨epoch, next, opn, true⟩ : KSt).ep0 l.length
              replace e2 := Lib.hid e2
              have hlast := last_walk w2 bt la lc l b.pid hb2 hsl2 hlen
              rw [← hep.out] at hlast
              generalize (⟨epoch, next, opn, true⟩ : KSt).ep0 = ep0 at *
              generalize lastGo l b.pid ep0 l.length [] = L at *
              dsimp only at e2
              clear hnx hep hsl2 hb2
              go_wp2_with fail
              refine hlast.mono ?_
              clear hlast
              rintro e w3 ⟨la3, lc3, rfl, hns, hm3⟩
              have hp3 := hm3.keep hp2 id
              have hrd := hns.1.rd
              clear cp2 lp2 hns
              have hm03 : Mods Nil w w3 := hm02.trans hm3 (fun _ _ h => h)
              clear hm3 hm02
              have cp3 := cellOf hp3
              have lp3 := ltOf hp3
              go_wp2_with fail
              clear cp3 lp3
              go_loopw [13] (fun s13 wr => ∃ m : Nat, m ≤ L.length ∧ s13 = .int .i64 ((m : Int) - 1) ∧ Mods Nil w3 wr ∧ Hid (∀ (j : Nat) (c : Bt), m ≤ j → L[j]? = some c → btHit b c = false)) (fun s13 _ => (intOf s13 + 1).toNat)
              case atStart => exact ⟨L.length, by omega, rfl, Mods.refl, by intro j c h hj; have := (List.getElem?_eq_some_iff.1 hj).1; omega⟩
              case round =>
                obtain ⟨m, hm, rfl, hmr, hq⟩ := hrel
                have hpr := hmr.keep hp3 id
                have cpr := cellOf hpr
                have lpr := ltOf hpr
                by_cases h0 : m = 0
                · subst h0
                  have e3 : R = (0, false, if b.sq ≠ next then 11 else 0) := by
                    rw [e2.out, List.find?_eq_none.2]
                    intro y hy
                    rw [List.mem_reverse] at hy
                    obtain ⟨i, hi⟩ := List.getElem?_of_mem hy
                    rw [hq.out i y (by omega) hi]
                    decide
                  clear e2 hq
                  by_cases hs : b.sq = next
                  · have e1 : R = (0, false, 0) := by rw [e3, if_neg (by simp [hs])]
                    subst e1
                    have hs' : (b.sq != next) = false := by simp [hs]
                    clear e3 hs
                    go_wp2
                    ((try simp only [Exit.inBlock, Exit.then]); refine bodyPost_ret (results_tmp3 rfl _ _ _) rfl ?_)
                    exact ⟨rfl, hm03.trans hmr (fun _ _ h => h)⟩
                  · have e1 : R = (0, false, 11) := by rw [e3, if_pos hs]
                    subst e1
                    have hs' : (b.sq != next) = true := by simp [hs]
                    clear e3 hs
                    go_wp2
                    ((try simp only [Exit.inBlock, Exit.then]); refine bodyPost_ret (results_tmp3 rfl _ _ _) rfl ?_)
                    exact ⟨rfl, hm03.trans hmr (fun _ _ h => h)⟩
                · obtain ⟨m, rfl⟩ : ∃ m', m = m' + 1 := ⟨m - 1, by omega⟩
                  obtain ⟨g, off, rfl, hg, hcells⟩ := (rdKeep hrd hmr (fun _ _ => id)).form (by omega) (by omega)
                  obtain ⟨c, hck⟩ : ∃ c, L[m]? = some c := ⟨_, List.getElem?_eq_getElem (by omega)⟩
                  obtain ⟨c0, c1, c2, c3, c4, c5, c6, c7, c8⟩ := btCells hcells rfl hck
                  replace hck := Lib.hid hck
                  clear hcells c1 c2 c3 c5 c6 c7
                  have i0 : (0 : Int) ≤ (m : Int) := by omega
                  have i1 : (m : Int) < (L.length : Int) := by omega
                  clear h0
                  by_cases hsq : c.sq = b.sq
                  · by_cases hvn : c.vn = b.vn
                    · have hh : btHit b c = true := by simp [btHit, hsq, hvn]
                      have e1 : R = (c.base, true, 0) := by
                        rw [e2.out, find_rev L (btHit b) m c hck.out hh (fun j s hj hs => hq.out j s (by omega) hs)]
                      subst e1
                      rw [hsq] at c4
                      rw [hvn] at c8
                      clear hsq hvn e2 hq hh
                      go_upto_region 19 with fail
                      refine wp_region_plan [(.pure, 0), (.pure, 1), (.pure, 2), (.pure, 3), (.read, 4), (.pure, 5), (.read, 6), (.pure, 7), (.pure, 8), (.pure, 9), (.pure, 10), (.pure, 11), (.pure, 12), (.read, 13), (.pure, 14), (.pure, 15), (.read, 16), (.pure, 17), (.pure, 18), (.pure, 19)] 20 (fun W => Mods Nil (wr) W) mixed (by kernel_rfl) (by kernel_rfl) (by repeat (first | exact Mods.refl | apply Mods.drew)) ?_
                      repeat first
                         | (refine reg_pure (v := ?_) rfl rfl ?_ ?_; rotate_left 1; (· (intro W; go_simp <;> with_reducible rfl)); simp only [Act.put, List.setIfInBounds_toArray, List.set_cons_zero, List.set_cons_succ])
                         | (refine reg_read (v := ?_) rfl rfl ?_ ?_; rotate_left 1; (· (intro W hW; have hW' := Mods.cells hW; go_simp <;> with_reducible rfl)); simp only [Act.put, List.setIfInBounds_toArray, List.set_cons_zero, List.set_cons_succ])
                         | (refine reg_off (by rfl) (by rfl) ?_; simp only [Act.put, List.setIfInBounds_toArray, List.set_cons_zero, List.set_cons_succ])
                         | (refine reg_pure_on (v := ?_) rfl (by rfl) ?_ ?_; rotate_left 1; (· (intro W; go_simp <;> with_reducible rfl)); simp only [Act.put, List.setIfInBounds_toArray, List.set_cons_zero, List.set_cons_succ])
                         | (refine reg_read_on (v := ?_) rfl (by rfl) ?_ ?_; rotate_left 1; (· (intro W hW; have hW' := Mods.cells hW; go_simp <;> with_reducible rfl)); simp only [Act.put, List.setIfInBounds_toArray, List.set_cons_zero, List.set_cons_succ])
                      refine reg_done (qnp_normal ?_)
                      clear c4 c8
                      go_wp2
                      ((try simp only [Exit.inBlock, Exit.then]); refine bodyPost_ret (results_tmp3 rfl _ _ _) rfl ?_)
                      exact ⟨rfl, (hm03.trans hmr (fun _ _ h => h)).drew⟩
                    · have hh : btHit b c = false := by simp [btHit, hvn]
                      have hvn' : ((c.vn : Int) == (b.vn : Int)) = false := by simp; omega
                      rw [hsq] at c4
                      replace hh := Lib.hid hh
                      clear hsq hvn c0
                      go_upto_region 19 with fail
                      refine wp_region_plan [(.pure, 0), (.pure, 1), (.pure, 2), (.pure, 3), (.read, 4), (.pure, 5), (.read, 6), (.pure, 7), (.pure, 8), (.pure, 9), (.pure, 10), (.pure, 11), (.pure, 12), (.read, 13), (.pure, 14), (.pure, 15), (.read, 16), (.pure, 17), (.pure, 18), (.pure, 19)] 20 (fun W => Mods Nil (wr) W) mixed (by kernel_rfl) (by kernel_rfl) (by repeat (first | exact Mods.refl | apply Mods.drew)) ?_
                      repeat first
                         | (refine reg_pure (v := ?_) rfl rfl ?_ ?_; rotate_left 1; (· (intro W; go_simp <;> with_reducible rfl)); simp only [Act.put, List.setIfInBounds_toArray, List.set_cons_zero, List.set_cons_succ])
                         | (refine reg_read (v := ?_) rfl rfl ?_ ?_; rotate_left 1; (· (intro W hW; have hW' := Mods.cells hW; go_simp <;> with_reducible rfl)); simp only [Act.put, List.setIfInBounds_toArray, List.set_cons_zero, List.set_cons_succ])
                         | (refine reg_off (by rfl) (by rfl) ?_; simp only [Act.put, List.setIfInBounds_toArray, List.set_cons_zero, List.set_cons_succ])
                         | (refine reg_pure_on (v := ?_) rfl (by rfl) ?_ ?_; rotate_left 1; (· (intro W; go_simp <;> with_reducible rfl)); simp only [Act.put, List.setIfInBounds_toArray, List.set_cons_zero, List.set_cons_succ])
                         | (refine reg_read_on (v := ?_) rfl (by rfl) ?_ ?_; rotate_left 1; (· (intro W hW; have hW' := Mods.cells hW; go_simp <;> with_reducible rfl)); simp only [Act.put, List.setIfInBounds_toArray, List.set_cons_zero, List.set_cons_succ])
                      refine reg_done (qnp_normal ?_)
                      clear c4 c8 cpr lpr hg
                      go_wp2
                      refine ⟨⟨m, by omega, by go_num, hmr.drew, ?_⟩, by simp [intOf] <;> omega⟩
                      show _
                      intro j y hj hy
                      by_cases hjk : m + 1 ≤ j
                      · exact hq.out j y hjk hy
                      · obtain rfl : j = m := by omega
                        rw [hck.out] at hy
                        cases hy
                        exact hh.out
                  · have hh : btHit b c = false := by simp [btHit, hsq]
                    have hsq' : (c.sq == b.sq) = false := by simp [hsq]
                    replace hh := Lib.hid hh
                    clear hsq c0
                    go_upto_region 19 with fail
                    refine wp_region_plan [(.pure, 0), (.pure, 1), (.pure, 2), (.pure, 3), (.read, 4), (.pure, 5), (.read, 6), (.pure, 7), (.pure, 8), (.pure, 9), (.pure, 10), (.pure, 11), (.pure, 12), (.read, 13), (.pure, 14), (.pure, 15), (.read, 16), (.pure, 17), (.pure, 18), (.pure, 19)] 20 (fun W => Mods Nil (wr) W) mixed (by kernel_rfl) (by kernel_rfl) (by repeat (first | exact Mods.refl | apply Mods.drew)) ?_
                    repeat first
                       | (refine reg_pure (v := ?_) rfl rfl ?_ ?_; rotate_left 1; (· (intro W; go_simp <;> with_reducible rfl)); simp only [Act.put, List.setIfInBounds_toArray, List.set_cons_zero, List.set_cons_succ])
                       | (refine reg_read (v := ?_) rfl rfl ?_ ?_; rotate_left 1; (· (intro W hW; have hW' := Mods.cells hW; go_simp <;> with_reducible rfl)); simp only [Act.put, List.setIfInBounds_toArray, List.set_cons_zero, List.set_cons_succ])
                       | (refine reg_off (by rfl) (by rfl) ?_; simp only [Act.put, List.setIfInBounds_toArray, List.set_cons_zero, List.set_cons_succ])
                       | (refine reg_pure_on (v := ?_) rfl (by rfl) ?_ ?_; rotate_left 1; (· (intro W; go_simp <;> with_reducible rfl)); simp only [Act.put, List.setIfInBounds_toArray, List.set_cons_zero, List.set_cons_succ])
                       | (refine reg_read_on (v := ?_) rfl (by rfl) ?_ ?_; rotate_left 1; (· (intro W hW; have hW' := Mods.cells hW; go_simp <;> with_reducible rfl)); simp only [Act.put, List.setIfInBounds_toArray, List.set_cons_zero, List.set_cons_succ])
                    refine reg_done (qnp_normal ?_)
                    clear c4 c8 cpr lpr hg
                    go_wp2
                    refine ⟨⟨m, by omega, by go_num, hmr.drew, ?_⟩, by simp [intOf] <;> omega⟩
                    show _
                    intro j y hj hy
                    by_cases hjk : m + 1 ≤ j
                    · exact hq.out j y hjk hy
                    · obtain rfl : j = m := by omega
                      rw [hck.out] at hy
                      cases hy
                      exact hh.out
  · have e1 : R = (0, false, er) := by rw [hR.out]; simp [refCheck, he]
    subst e1
    clear cp lp hR
    have he' : (er != 0) = true := by simp [he]
    clear he
    go_wp2
    ((try simp only [Exit.inBlock, Exit.then]); refine bodyPost_ret (results_tmp3 rfl _ _ _) rfl ?_)
    exact ⟨rfl, hm1⟩
end Go.Proofs.Ytnnoicacpcahfaa
