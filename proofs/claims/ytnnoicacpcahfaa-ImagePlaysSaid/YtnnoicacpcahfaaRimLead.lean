/- The reference's image: lead and rises, walked. No condition. -/
import Derived.IntWalk
import Derived.Test.YtnnoicacpcahfaaRimRep
namespace Go.Proofs.Ytnnoicacpcahfaa
open Go.RowKit

theorem find_drop {l : List Int} {f : Int → Bool} {m : Nat} {y : Int} (h : l[m]? = some y) : (l.drop m).find? f = if f y then some y else (l.drop (m + 1)).find? f := by
  obtain ⟨hl, rfl⟩ := List.getElem?_eq_some_iff.1 h
  rw [List.drop_eq_getElem_cons hl, List.find?_cons]
  cases f l[m] <;> rfl

set_option maxRecDepth 100000 in
set_option maxHeartbeats 3200000 in
theorem rlead_walk (w : World) (d : RAd) (nds : List Nd) (L : List Pt) (next count : Int) (k : Nat) (p : Pt) (h : RImg w d nds L next count) (hk : L[k]? = some p) :
    Calls Try.prog 48 #[.pointer (some ⟨d.b, 0, none⟩), .int .i64 k] w
      fun e w' => e = .returned (.tuple #[]) ∧ RImg w' d nds (L.set k { p with pl := elP nds p.pl }) next count ∧ Mods (fun i => i = d.gp) w w' := by
  have hkl : k < L.length := (List.getElem?_eq_some_iff.1 hk).1
  have hok := h.pts.2.2.1 p (List.mem_of_getElem? hk)
  have hpt := h.pts.2.1 p (List.mem_of_getElem? hk)
  have hbA : ∀ i, d.A i → i < w.heap.size := h.lt
  obtain ⟨c0, c1, c2, c3, c4, c5⟩ := h.pts.cells hk
  have lp := h.pts.1.ltAt
  have hpcap := h.pts.1.capAt.1
  have cb := cellOf h.box
  have lb := ltOf h.box
  have k0 : (0 : Int) ≤ (k : Int) := by omega
  have k1 : (k : Int) < (L.length : Int) := by omega
  obtain ⟨⟨lead, ep, ver, isr, rep, tar⟩, ⟨la, lc⟩, ⟨ra, rc⟩, ⟨ta, tc⟩⟩ := p
  unfold Pt.vi at c3
  unfold Pt.vr at c4
  unfold Pt.vt at c5
  dsimp only at *
  have hli := hok.li
  have l00 : (0 : Int) ≤ (isr.length : Int) := by omega
  replace hok := Lib.hid hok
  replace hpt := Lib.hid hpt
  replace hk := Lib.hid hk
  replace hbA := Lib.hid hbA
  replace h := Lib.hid h
  go_enter Try.func48, Try.ntmps48
  go_wp2_with fail
  have hb1 := heap_new w (.cells #[.int .i64 (-1), .int .i64 (w64 (ep + 1)), .int .i64 ver, .slice la isr.length lc, .slice ra rep.length rc, .slice ta tar.length tc] 99)
  have hm1 : Mods Nil w (w.alloc (.cells #[.int .i64 (-1), .int .i64 (w64 (ep + 1)), .int .i64 ver, .slice la isr.length lc, .slice ra rep.length rc, .slice ta tar.length tc] 99)) := Mods.refl.alloc _
  generalize w.alloc (.cells #[.int .i64 (-1), .int .i64 (w64 (ep + 1)), .int .i64 ver, .slice la isr.length lc, .slice ra rep.length rc, .slice ta tar.length tc] 99) = w1 at *
  have hm1H := Lib.hid hm1
  have hb1H := Lib.hid hb1
  clear hm1 hb1 c0 c1 c2 c3 c4 c5 cb lb lp hbA
  generalize hB : w.heap.size = B at *
  replace hB := Lib.hid hB
  go_loopw [5] (fun s5 wr => ∃ (j : Nat) (z x : Int), j ≤ isr.length ∧ z + 1 = j ∧ s5 = .int .i64 z ∧ Hid (x = ((isr.drop j).find? (isUp nds)).getD (-1)) ∧ Hid (wr.heap[B]? = some (.cells #[.int .i64 x, .int .i64 (w64 (ep + 1)), .int .i64 ver, .slice la isr.length lc, .slice ra rep.length rc, .slice ta tar.length tc] 99 (0, 0))) ∧ Hid (Mods Nil w wr)) (fun s5 _ => (intOf s5 + 1).toNat)
  case atStart => exact ⟨isr.length, (isr.length : Int) - 1, -1, by omega, by omega, congrArg _ (IntWalk.wrap64_in _ (by omega)), Lib.hid (by simp), hb1H, hm1H⟩
  case round =>
    clear hb1H hm1H w1
    obtain ⟨j, z, x, hj, hz, rfl, hx, hb, hm⟩ := hrel
    have hr := Lib.hid (h.out.keepNil hm.out)
    have hpr := Lib.hid (hpt.out.keep hm.out (fun _ h => h.elim))
    have cb := cellOf hr.out.box
    have lb := ltOf hr.out.box
    have cx := cellOf hb.out
    have fx := frzOf hb.out
    have lx := ltOf hb.out
    by_cases hz0 : 0 ≤ z
    · obtain ⟨m, rfl⟩ : ∃ m : Nat, z = (m : Int) := ⟨z.toNat, by omega⟩
      obtain rfl : j = m + 1 := by omega
      have hrd := hpr.out.1.1.rd
      obtain ⟨g, off, rfl, hg, hcells⟩ := hrd.form (by omega) (by show 0 < isr.length; omega)
      have hlt : m < isr.length := by omega
      have cy : wr.cell? ⟨g, off + m, none⟩ = some (.int .i64 isr[m]) := by
        rw [hcells m (by show m < isr.length * 1; omega), ints_at, List.getElem?_eq_getElem hlt]; rfl
      have hy : Hid (isr[m]? = some isr[m]) := Lib.hid (List.getElem?_eq_getElem hlt)
      generalize isr[m] = y at *
      clear hcells hrd
      obtain ⟨y0, y1⟩ := hok.out.isr y (List.mem_of_getElem? hy.out)
      obtain ⟨v, rfl⟩ : ∃ v : Nat, y = (v : Int) := ⟨y.toNat, by omega⟩
      have hvl : v < nds.length := by omega
      have ca := (hr.out.nodeCells (List.getElem?_eq_getElem hvl)).1
      have la := hr.out.al.ltAt
      have hu : Hid (nds[v].alive = isUp nds (v : Int)) := Lib.hid (by rw [isUp, Int.toNat_natCast, List.getElem?_eq_getElem hvl]; rfl)
      generalize nds[v].alive = up at *
      have i1 : (m : Int) < (isr.length : Int) := by omega
      have hfd := Lib.hid (find_drop (f := isUp nds) hy.out)
      rw [← hu.out] at hfd
      go_upto_region 6 with fail
      refine wp_region_plan [(.pure, 0), (.pure, 1), (.pure, 2), (.read, 3), (.pure, 4), (.read, 5), (.pure, 6), (.pure, 7), (.read, 8), (.pure, 9), (.read, 10)] 11 (fun W => Mods Nil _ W) mixed (by kernel_rfl) (by kernel_rfl) Mods.refl.drew ?_
      repeat first
         | (refine reg_pure (v := ?_) rfl rfl ?_ ?_; rotate_left 1; (· (intro W; go_simp <;> with_reducible rfl)); simp only [Act.put, List.setIfInBounds_toArray, List.set_cons_zero, List.set_cons_succ])
         | (refine reg_read (v := ?_) rfl rfl ?_ ?_; rotate_left 1; (· (intro W hW; have hW' := Mods.cells hW; go_simp <;> with_reducible rfl)); simp only [Act.put, List.setIfInBounds_toArray, List.set_cons_zero, List.set_cons_succ])
         | (refine reg_off (by rfl) (by rfl) ?_; simp only [Act.put, List.setIfInBounds_toArray, List.set_cons_zero, List.set_cons_succ])
         | (refine reg_pure_on (v := ?_) rfl (by rfl) ?_ ?_; rotate_left 1; (· (intro W; go_simp <;> with_reducible rfl)); simp only [Act.put, List.setIfInBounds_toArray, List.set_cons_zero, List.set_cons_succ])
         | (refine reg_read_on (v := ?_) rfl (by rfl) ?_ ?_; rotate_left 1; (· (intro W hW; have hW' := Mods.cells hW; go_simp <;> with_reducible rfl)); simp only [Act.put, List.setIfInBounds_toArray, List.set_cons_zero, List.set_cons_succ])
      refine reg_done (qnp_normal ?_)
      cases up with
      | true =>
        clear ca cb lb la
        go_wp2
        have hb2 := heap_setCell_same hb.out 0 (.int .i64 (v : Int))
        simp at hb2
        exact ⟨⟨m, (m : Int) - 1, v, by omega, by omega, rfl, Lib.hid (by rw [hfd.out]; rfl), Lib.hid hb2, Lib.hid ((hm.out.setCell (a := ⟨B, 0, none⟩) _ (fun hlt => by have := hB.out; have hlt' : B < w.heap.size := hlt; omega)).drew)⟩, by simp [intOf]⟩
      | false =>
        clear ca cb lb la cx fx lx
        go_wp2
        exact ⟨⟨m, (m : Int) - 1, x, by omega, by omega, rfl, Lib.hid (by rw [hfd.out, hx.out]; rfl), Lib.hid hb.out, Lib.hid hm.out.drew⟩, by simp [intOf]⟩
    · obtain rfl : z = -1 := by omega
      obtain rfl : j = 0 := by omega
      clear hz
      go_upto_region 8 with fail
      obtain ⟨c0, c1, c2, c3, c4, c5⟩ := hr.out.pts.cells hk.out
      have lp := hr.out.pts.1.ltAt
      have fp := hr.out.pts.1.frzAt
      have hk' := hk
      have hel : Hid (elP nds ⟨lead, ep, ver, isr, rep, tar⟩ = ⟨x, w64 (ep + 1), ver, isr, rep, tar⟩) := Lib.hid (by rw [hx.out]; rfl)
      have hse := hr.out.setAll (lead := x) (ep := w64 (ep + 1)) (ver := ver) (isr := isr) (rep := rep) (tar := tar) (la := la) (ra := ra) (ta := ta) (lc := lc) (rc := rc) (tc := tc) hk.out hpr.out (by rw [← hel.out]; exact elP_ok hok.out)
      replace hse := Lib.hid hse
      refine wp_region_plan [(.pure, 0), (.pure, 1), (.pure, 2), (.read, 3), (.pure, 4), (.read, 5), (.pure, 6), (.eff, 7)] 7 (fun W => Mods Nil _ W) mixed (by kernel_rfl) (by kernel_rfl) Mods.refl.drew ?_
      repeat first
         | (refine reg_pure (v := ?_) rfl rfl ?_ ?_; rotate_left 1; (· (intro W; go_simp <;> with_reducible rfl)); simp only [Act.put, List.setIfInBounds_toArray, List.set_cons_zero, List.set_cons_succ])
         | (refine reg_read (v := ?_) rfl rfl ?_ ?_; rotate_left 1; (· (intro W hW; have hW' := Mods.cells hW; go_simp <;> with_reducible rfl)); simp only [Act.put, List.setIfInBounds_toArray, List.set_cons_zero, List.set_cons_succ])
         | (refine reg_off (by rfl) (by rfl) ?_; simp only [Act.put, List.setIfInBounds_toArray, List.set_cons_zero, List.set_cons_succ])
         | (refine reg_pure_on (v := ?_) rfl (by rfl) ?_ ?_; rotate_left 1; (· (intro W; go_simp <;> with_reducible rfl)); simp only [Act.put, List.setIfInBounds_toArray, List.set_cons_zero, List.set_cons_succ])
         | (refine reg_read_on (v := ?_) rfl (by rfl) ?_ ?_; rotate_left 1; (· (intro W hW; have hW' := Mods.cells hW; go_simp <;> with_reducible rfl)); simp only [Act.put, List.setIfInBounds_toArray, List.set_cons_zero, List.set_cons_succ])
      refine reg_eff (by rfl) (by rfl) (fun K hK => ?_)
      go_simp
      refine hK _ _ ?_
      clear hK K
      refine reg_done (qnp_normal ?_)
      go_end0
      exact ⟨rfl, by rw [hel.out]; exact hse.out.1.keepNil Mods.refl.drew, (hm.out.mono (S' := fun i => i = d.gp) (fun _ h => h.elim)).trans hse.out.2.drew (fun _ _ h => h)⟩

/-- Whether it rises: so far so good. -/
theorem rises_walk (w : World) (d : RAd) (nds : List Nd) (L : List Pt) (next count : Int) (la : Option Addr) (lc : Nat) (l : List Int) (h : RImg w d nds L next count) (hlen : l.length * 8 ≤ 140737488355328) (hs : Rd w 1 (.slice la l.length lc) l.length (ints l)) :
    Calls Try.prog 46 #[.pointer (some ⟨d.b, 0, none⟩), .slice la l.length lc] w
      fun e w' => e = .returned (.bool (rises nds.length l)) ∧ Mods Nil w w' := by
  by_cases h0 : l = []
  · subst h0
    clear h hs
    go_enter Try.func46, Try.ntmps46
    go_wp2
    go_ret
    exact ⟨rfl, Mods.refl⟩
  have hpos : l.length ≠ 0 := fun e => h0 (List.eq_nil_of_length_eq_zero e)
  have hnz : ((l.length : Int) == 0) = false := by simp; omega
  have hne : Hid (rises nds.length l = risesFrom nds.length (-1) l) := Lib.hid (by cases l with
    | nil => exact absurd rfl h0
    | cons x l => simp [rises])
  have hcap := h.al.capAt.2
  unfold maxLen at hcap
  replace h := Lib.hid h
  clear h0
  go_enter Try.func46, Try.ntmps46
  go_wp2_with fail
  go_loopw [5, 6] (fun s5 s6 wr => ∃ (k : Nat) (last : Int), k ≤ l.length ∧ s5 = .int .i64 last ∧ s6 = .int .i64 k ∧ Hid (risesFrom nds.length (-1) l = risesFrom nds.length last (l.drop k)) ∧ Mods Nil w wr) (fun _ s6 _ => l.length - (intOf s6).toNat)
  case atStart => exact ⟨0, -1, by omega, rfl, rfl, Lib.hid rfl, Mods.refl⟩
  case round =>
    obtain ⟨k, last, hk, rfl, rfl, hr, hm⟩ := hrel
    by_cases hlt : k < l.length
    · obtain ⟨g, off, rfl, hg, hcells⟩ := (rdKeep hs hm (fun _ _ => id)).form (by omega) (by omega)
      have c0 : wr.cell? ⟨g, off + k, none⟩ = some (.int .i64 l[k]) := by
        rw [hcells k (by omega), ints_at, List.getElem?_eq_getElem hlt]; rfl
      have hst : Hid (risesFrom nds.length last (l.drop k) = (decide (last < l[k] ∧ l[k] < nds.length) && risesFrom nds.length l[k] (l.drop (k + 1)))) := Lib.hid (by rw [List.drop_eq_getElem_cons hlt]; rfl)
      have cb := cellOf (h.out.keepNil hm).box
      have lb := ltOf (h.out.keepNil hm).box
      generalize l[k] = y at *
      clear hcells
      have i0 : (0 : Int) ≤ (k : Int) := by omega
      have i1 : (k : Int) < (l.length : Int) := by omega
      by_cases hle : y ≤ last
      · have hf : Hid (rises nds.length l = false) := Lib.hid (by rw [hne.out, hr.out, hst.out, decide_eq_false (by omega)]; rfl)
        go_upto_region 7 with fail
        refine wp_region_plan [(.pure, 0), (.pure, 1), (.pure, 2), (.read, 3), (.pure, 4), (.pure, 5), (.pure, 6), (.pure, 7), (.pure, 8), (.pure, 9), (.read, 10), (.pure, 11), (.pure, 12), (.pure, 13), (.read, 14), (.pure, 15), (.pure, 16), (.pure, 17)] 18 (fun W => Mods Nil _ W) mixed (by kernel_rfl) (by kernel_rfl) Mods.refl.drew ?_
        repeat first
           | (refine reg_pure (v := ?_) rfl rfl ?_ ?_; rotate_left 1; (· (intro W; go_simp <;> with_reducible rfl)); simp only [Act.put, List.setIfInBounds_toArray, List.set_cons_zero, List.set_cons_succ])
           | (refine reg_read (v := ?_) rfl rfl ?_ ?_; rotate_left 1; (· (intro W hW; have hW' := Mods.cells hW; go_simp <;> with_reducible rfl)); simp only [Act.put, List.setIfInBounds_toArray, List.set_cons_zero, List.set_cons_succ])
           | (refine reg_off (by rfl) (by rfl) ?_; simp only [Act.put, List.setIfInBounds_toArray, List.set_cons_zero, List.set_cons_succ])
           | (refine reg_pure_on (v := ?_) rfl (by rfl) ?_ ?_; rotate_left 1; (· (intro W; go_simp <;> with_reducible rfl)); simp only [Act.put, List.setIfInBounds_toArray, List.set_cons_zero, List.set_cons_succ])
           | (refine reg_read_on (v := ?_) rfl (by rfl) ?_ ?_; rotate_left 1; (· (intro W hW; have hW' := Mods.cells hW; go_simp <;> with_reducible rfl)); simp only [Act.put, List.setIfInBounds_toArray, List.set_cons_zero, List.set_cons_succ])
        refine reg_done (qnp_normal ?_)
        go_wp2
        go_ret
        exact ⟨by rw [hf.out]; rfl, hm.drew⟩
      by_cases hge : (nds.length : Int) ≤ y
      · have hf : Hid (rises nds.length l = false) := Lib.hid (by rw [hne.out, hr.out, hst.out, decide_eq_false (by omega)]; rfl)
        have hd : decide (y ≤ last) = false := decide_eq_false hle
        clear hle
        go_upto_region 7 with fail
        refine wp_region_plan [(.pure, 0), (.pure, 1), (.pure, 2), (.read, 3), (.pure, 4), (.pure, 5), (.pure, 6), (.pure, 7), (.pure, 8), (.pure, 9), (.read, 10), (.pure, 11), (.pure, 12), (.pure, 13), (.read, 14), (.pure, 15), (.pure, 16), (.pure, 17)] 18 (fun W => Mods Nil _ W) mixed (by kernel_rfl) (by kernel_rfl) Mods.refl.drew ?_
        repeat first
           | (refine reg_pure (v := ?_) rfl rfl ?_ ?_; rotate_left 1; (· (intro W; go_simp <;> with_reducible rfl)); simp only [Act.put, List.setIfInBounds_toArray, List.set_cons_zero, List.set_cons_succ])
           | (refine reg_read (v := ?_) rfl rfl ?_ ?_; rotate_left 1; (· (intro W hW; have hW' := Mods.cells hW; go_simp <;> with_reducible rfl)); simp only [Act.put, List.setIfInBounds_toArray, List.set_cons_zero, List.set_cons_succ])
           | (refine reg_off (by rfl) (by rfl) ?_; simp only [Act.put, List.setIfInBounds_toArray, List.set_cons_zero, List.set_cons_succ])
           | (refine reg_pure_on (v := ?_) rfl (by rfl) ?_ ?_; rotate_left 1; (· (intro W; go_simp <;> with_reducible rfl)); simp only [Act.put, List.setIfInBounds_toArray, List.set_cons_zero, List.set_cons_succ])
           | (refine reg_read_on (v := ?_) rfl (by rfl) ?_ ?_; rotate_left 1; (· (intro W hW; have hW' := Mods.cells hW; go_simp <;> with_reducible rfl)); simp only [Act.put, List.setIfInBounds_toArray, List.set_cons_zero, List.set_cons_succ])
        refine reg_done (qnp_normal ?_)
        go_wp2
        go_ret
        exact ⟨by rw [hf.out]; rfl, hm.drew⟩
      · have hf : Hid (risesFrom nds.length (-1) l = risesFrom nds.length y (l.drop (k + 1))) := Lib.hid (by rw [hr.out, hst.out, decide_eq_true (by omega)]; rfl)
        have hd : decide (y ≤ last) = false := decide_eq_false hle
        have hd2 : decide ((nds.length : Int) ≤ y) = false := decide_eq_false hge
        clear hle hge
        go_upto_region 7 with fail
        refine wp_region_plan [(.pure, 0), (.pure, 1), (.pure, 2), (.read, 3), (.pure, 4), (.pure, 5), (.pure, 6), (.pure, 7), (.pure, 8), (.pure, 9), (.read, 10), (.pure, 11), (.pure, 12), (.pure, 13), (.read, 14), (.pure, 15), (.pure, 16), (.pure, 17)] 18 (fun W => Mods Nil _ W) mixed (by kernel_rfl) (by kernel_rfl) Mods.refl.drew ?_
        repeat first
           | (refine reg_pure (v := ?_) rfl rfl ?_ ?_; rotate_left 1; (· (intro W; go_simp <;> with_reducible rfl)); simp only [Act.put, List.setIfInBounds_toArray, List.set_cons_zero, List.set_cons_succ])
           | (refine reg_read (v := ?_) rfl rfl ?_ ?_; rotate_left 1; (· (intro W hW; have hW' := Mods.cells hW; go_simp <;> with_reducible rfl)); simp only [Act.put, List.setIfInBounds_toArray, List.set_cons_zero, List.set_cons_succ])
           | (refine reg_off (by rfl) (by rfl) ?_; simp only [Act.put, List.setIfInBounds_toArray, List.set_cons_zero, List.set_cons_succ])
           | (refine reg_pure_on (v := ?_) rfl (by rfl) ?_ ?_; rotate_left 1; (· (intro W; go_simp <;> with_reducible rfl)); simp only [Act.put, List.setIfInBounds_toArray, List.set_cons_zero, List.set_cons_succ])
           | (refine reg_read_on (v := ?_) rfl (by rfl) ?_ ?_; rotate_left 1; (· (intro W hW; have hW' := Mods.cells hW; go_simp <;> with_reducible rfl)); simp only [Act.put, List.setIfInBounds_toArray, List.set_cons_zero, List.set_cons_succ])
        refine reg_done (qnp_normal ?_)
        go_wp2
        exact ⟨⟨k + 1, y, by omega, rfl, by go_num, hf, hm.drew⟩, by simp [intOf]; omega⟩
    · obtain rfl : k = l.length := by omega
      have hf : Hid (rises nds.length l = true) := Lib.hid (by rw [hne.out, hr.out, List.drop_length]; rfl)
      clear hlt
      go_wp2
      go_ret
      exact ⟨by rw [hf.out]; rfl, hm⟩
end Go.Proofs.Ytnnoicacpcahfaa
