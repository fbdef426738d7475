/- The reference's image: settle, walked. No condition. -/
import Derived.Test.YtnnoicacpcahfaaRimLead
namespace Go.Proofs.Ytnnoicacpcahfaa
open Go.RowKit

theorem Il.mono {w : World} {A A' : Nat → Prop} {a : Option Addr × Nat} {l : List Int} (h : Il w A' a l) (hs : ∀ k, A k → A' k) : Il w A a l := ⟨h.1, fun b hb hA => h.2 b hb (hs _ hA)⟩
/-- What A holds, and B. -/
def And1 (A : Nat → Prop) (B : Nat) (i : Nat) : Prop := A i ∨ i = B

set_option maxRecDepth 100000 in
set_option maxHeartbeats 6400000 in
theorem rsettle_walk (w : World) (d : RAd) (nds : List Nd) (L : List Pt) (next count : Int) (k : Nat) (p : Pt) (h : RImg w d nds L next count) (hk : L[k]? = some p) :
    Calls Try.prog 52 #[.pointer (some ⟨d.b, 0, none⟩), .int .i64 k] w
      fun e w' => e = .returned (.tuple #[]) ∧ (∃ p', p'.pl = settleP nds p.pl ∧ RImg w' d nds (L.set k p') next count) ∧ Mods (fun i => i = d.gp) w w' := by
  have hkl : k < L.length := (List.getElem?_eq_some_iff.1 hk).1
  have hok := h.pts.2.2.1 p (List.mem_of_getElem? hk)
  have hpt := h.pts.2.1 p (List.mem_of_getElem? hk)
  have hbA : ∀ i, d.A i → i < w.heap.size := h.lt
  obtain ⟨c0, c1, c2, c3, c4, c5⟩ := h.pts.cells hk
  have lp := h.pts.1.ltAt
  have hpcap := h.pts.1.capAt.1
  have cb := cellOf h.box
  have lb := ltOf h.box
  have k0 : (0 : Int) ≤ (k : Int) := by omega
  have k1 : (k : Int) < (L.length : Int) := by omega
  obtain ⟨⟨lead, ep, ver, isr, rep, tar⟩, ⟨la, lc⟩, ⟨ra, rc⟩, ⟨ta, tc⟩⟩ := p
  unfold Pt.vi at c3
  unfold Pt.vr at c4
  unfold Pt.vt at c5
  dsimp only at *
  have hli := hok.li
  have hlt' := hok.lt
  have hb1 := heap_new w (.cells #[.int .i64 lead, .int .i64 ep, .int .i64 ver, .slice la isr.length lc, .slice ra rep.length rc, .slice ta tar.length tc] 99)
  have hm1 : Mods Nil w (w.alloc (.cells #[.int .i64 lead, .int .i64 ep, .int .i64 ver, .slice la isr.length lc, .slice ra rep.length rc, .slice ta tar.length tc] 99)) := Mods.refl.alloc _
  by_cases h0 : tar = []
  · have hs : settleP nds ⟨lead, ep, ver, isr, rep, tar⟩ = ⟨lead, ep, ver, isr, rep, tar⟩ := by rw [settleP, if_pos h0]
    have hn : tar.length = 0 := by rw [h0]; rfl
    have res : RImg (w.alloc (.cells #[.int .i64 lead, .int .i64 ep, .int .i64 ver, .slice la isr.length lc, .slice ra rep.length rc, .slice ta tar.length tc] 99)) d nds (L.set k ⟨⟨lead, ep, ver, isr, rep, tar⟩, (la, lc), (ra, rc), (ta, tc)⟩) next count := by rw [set_same hk]; exact h.keepNil hm1
    rw [hn] at c5 res hm1
    replace res := Lib.hid res
    replace hm1 := Lib.hid hm1
    replace hs := Lib.hid hs
    clear h hk hok hpt hn h0 hb1 hbA
    go_enter Try.func52, Try.ntmps52
    go_wp2
    ((try simp only [Exit.inBlock, Exit.then]); refine bodyPost_ret (results_none rfl _ _ _) rfl ?_)
    exact ⟨rfl, ⟨_, hs.out.symm, res.out⟩, hm1.out.mono (fun _ h => h.elim)⟩
  have hpos : tar.length ≠ 0 := fun e => h0 (List.eq_nil_of_length_eq_zero e)
  have hnz : ((tar.length : Int) == 0) = false := by simp; omega
  have hBA : Hid (¬ d.A w.heap.size) := Lib.hid (fun hA => by have := hbA _ hA; omega)
  replace h0 := Lib.hid h0
  replace hok := Lib.hid hok
  replace hpt := Lib.hid hpt
  replace hk := Lib.hid hk
  replace hbA := Lib.hid hbA
  replace h := Lib.hid h
  go_enter Try.func52, Try.ntmps52
  go_wp2_with fail
  generalize w.alloc (.cells #[.int .i64 lead, .int .i64 ep, .int .i64 ver, .slice la isr.length lc, .slice ra rep.length rc, .slice ta tar.length tc] 99) = w1 at *
  have hm1H := Lib.hid hm1
  have hb1H := Lib.hid hb1
  clear hm1 hb1 c0 c1 c2 c3 c4 c5 cb lb lp
  generalize hB : w.heap.size = B at *
  replace hB := Lib.hid hB
  go_loopw [5] (fun s5 wr => ∃ i : Nat, i ≤ tar.length ∧ s5 = .int .i64 i ∧ Hid (∀ j x, j < i → tar[j]? = some x → isr.contains x = true) ∧ Hid (wr.heap[B]? = some (.cells #[.int .i64 lead, .int .i64 ep, .int .i64 ver, .slice la isr.length lc, .slice ra rep.length rc, .slice ta tar.length tc] 99 (0, 0))) ∧ Hid (Mods Nil w wr)) (fun s5 _ => tar.length - (intOf s5).toNat)
  case atStart => exact ⟨0, by omega, rfl, Lib.hid (fun j x hj => by omega), hb1H, hm1H⟩
  case round =>
    clear hb1H hm1H w1
    obtain ⟨i, hi, rfl, hno, hb, hm⟩ := hrel
    have hpr := Lib.hid (hpt.out.keep hm.out (fun _ h => h.elim))
    have cx := cellOf hb.out
    have lx := ltOf hb.out
    by_cases hlt : i < tar.length
    · obtain ⟨g, off, rfl, hg, hcells⟩ := (hpr.out.2.2.1.rd).form (by omega) (by show 0 < tar.length; omega)
      have cy : wr.cell? ⟨g, off + i, none⟩ = some (.int .i64 tar[i]) := by
        rw [hcells i (by show i < tar.length * 1; omega), ints_at, List.getElem?_eq_getElem hlt]; rfl
      have hy : Hid (tar[i]? = some tar[i]) := Lib.hid (List.getElem?_eq_getElem hlt)
      generalize tar[i] = y at *
      clear hcells
      have i0 : (0 : Int) ≤ (i : Int) := by omega
      have i1 : (i : Int) < (tar.length : Int) := by omega
      have hc : Hid (∀ W, Mods Nil wr W → Calls Try.prog 47 #[.slice la isr.length lc, .int .i64 y] W fun e w' => e = .returned (.bool (isr.contains y)) ∧ Mods Nil W w') := Lib.hid (fun W hW => has_walk W la lc isr y (by omega) (hpr.out.1.keep hW (fun _ h => h.elim)).1.rd)
      obtain ⟨tb, htb⟩ : ∃ tb, tb = isr.contains y := ⟨_, rfl⟩
      rw [← htb] at hc
      replace htb := Lib.hid htb
      go_upto_region 5 with fail
      refine wp_region_plan [(.pure, 0), (.read, 1), (.pure, 2), (.read, 3), (.pure, 4), (.pure, 5), (.read, 6), (.ben, 7), (.pure, 8)] 9 (fun W => Mods Nil _ W) mixed (by kernel_rfl) (by kernel_rfl) Mods.refl.drew ?_
      repeat first
         | (refine reg_pure (v := ?_) rfl rfl ?_ ?_; rotate_left 1; (· (intro W; go_simp <;> with_reducible rfl)); simp only [Act.put, List.setIfInBounds_toArray, List.set_cons_zero, List.set_cons_succ])
         | (refine reg_read (v := ?_) rfl rfl ?_ ?_; rotate_left 1; (· (intro W hW; have hW' := Mods.cells hW; go_simp <;> with_reducible rfl)); simp only [Act.put, List.setIfInBounds_toArray, List.set_cons_zero, List.set_cons_succ])
         | (refine reg_off (by rfl) (by rfl) ?_; simp only [Act.put, List.setIfInBounds_toArray, List.set_cons_zero, List.set_cons_succ])
         | (refine reg_pure_on (v := ?_) rfl (by rfl) ?_ ?_; rotate_left 1; (· (intro W; go_simp <;> with_reducible rfl)); simp only [Act.put, List.setIfInBounds_toArray, List.set_cons_zero, List.set_cons_succ])
         | (refine reg_read_on (v := ?_) rfl (by rfl) ?_ ?_; rotate_left 1; (· (intro W hW; have hW' := Mods.cells hW; go_simp <;> with_reducible rfl)); simp only [Act.put, List.setIfInBounds_toArray, List.set_cons_zero, List.set_cons_succ])
      refine reg_ben (by rfl) (by rfl) (fun K hK => ?_)
      go_simp
      refine (hc.out _ Mods.refl.drew).mono ?_
      rintro e w2 ⟨rfl, hm2⟩
      replace hm2 := Mods.drew_left hm2
      refine hK _ _ hm2 ?_
      clear hK K
      repeat first
         | (refine reg_pure (v := ?_) rfl rfl ?_ ?_; rotate_left 1; (· (intro W; go_simp <;> with_reducible rfl)); simp only [Act.put, List.setIfInBounds_toArray, List.set_cons_zero, List.set_cons_succ])
         | (refine reg_read (v := ?_) rfl rfl ?_ ?_; rotate_left 1; (· (intro W hW; have hW' := Mods.cells hW; go_simp <;> with_reducible rfl)); simp only [Act.put, List.setIfInBounds_toArray, List.set_cons_zero, List.set_cons_succ])
         | (refine reg_off (by rfl) (by rfl) ?_; simp only [Act.put, List.setIfInBounds_toArray, List.set_cons_zero, List.set_cons_succ])
         | (refine reg_pure_on (v := ?_) rfl (by rfl) ?_ ?_; rotate_left 1; (· (intro W; go_simp <;> with_reducible rfl)); simp only [Act.put, List.setIfInBounds_toArray, List.set_cons_zero, List.set_cons_succ])
         | (refine reg_read_on (v := ?_) rfl (by rfl) ?_ ?_; rotate_left 1; (· (intro W hW; have hW' := Mods.cells hW; go_simp <;> with_reducible rfl)); simp only [Act.put, List.setIfInBounds_toArray, List.set_cons_zero, List.set_cons_succ])
      refine reg_done (qnp_normal ?_)
      have hb2 := Lib.hid (hm2.keep hb.out id)
      have hm02 := Lib.hid (hm.out.trans hm2 (fun _ _ h => h))
      clear cx lx cy hc hm2
      cases tb with
      | false =>
        have hs : settleP nds ⟨lead, ep, ver, isr, rep, tar⟩ = ⟨lead, ep, ver, isr, rep, tar⟩ := by
          rw [settleP, if_neg h0.out, if_neg]
          show ¬ (tar.all (fun x => isr.contains x) = true)
          rw [not_all_of hy.out htb.out.symm]; simp
        have res : RImg w2 d nds (L.set k ⟨⟨lead, ep, ver, isr, rep, tar⟩, (la, lc), (ra, rc), (some ⟨g, off, none⟩, tc)⟩) next count := by rw [set_same hk.out]; exact h.out.keepNil hm02.out
        replace res := Lib.hid res
        replace hs := Lib.hid hs
        go_wp2
        ((try simp only [Exit.inBlock, Exit.then]); refine bodyPost_ret (results_none rfl _ _ _) rfl ?_)
        exact ⟨rfl, ⟨_, hs.out.symm, res.out⟩, hm02.out.mono (fun _ h => h.elim)⟩
      | true =>
        go_wp2
        exact ⟨⟨i + 1, by omega, by go_num, Lib.hid (fun j x hj hx => by
          by_cases hji : j = i
          · subst hji
            rw [hy.out] at hx
            cases hx
            exact htb.out.symm
          · exact hno.out j x (by omega) hx), hb2, hm02⟩, by simp [intOf]; omega⟩
    · obtain rfl : i = tar.length := by omega
      clear hlt
      have hall : Hid (tar.all (fun x => isr.contains x) = true) := Lib.hid (all_of (fun j x hj hx => hno.out j x hj hx))
      clear hno
      go_upto_region 7 with (go_at_call 51; refine (own13_walk wr ta tc tar hlt' hpr.out.2.2.1.rd).mono ?_; rintro e w2 ⟨na, nc, rfl, hN, hm2⟩; have hb2 := hm2.keep hb.out id; have cx2 := cellOf hb2; have fx2 := frzOf hb2; have lx2 := ltOf hb2)
      have hb3 := heap_setCell_same hb2 4 (.slice na tar.length nc)
      simp at hb3
      have hm3 : Mods Nil w (w2.setCell ⟨B, 4, none⟩ (.slice na tar.length nc)) := (hm.out.trans hm2 (fun _ _ h => h)).setCell _ (fun hlt => by have := hB.out; have hlt' : B < w.heap.size := hlt; omega)
      have hN3 : Il (w2.setCell ⟨B, 4, none⟩ (.slice na tar.length nc)) (And1 d.A B) (na, nc) tar := by
        have hn1 : Mods (fun i => i = B) w2 (w2.setCell ⟨B, 4, none⟩ (.slice na tar.length nc)) := Mods.refl.setCell _ (fun _ => rfl)
        have := hN.keep hn1 (fun i hi e => by subst e; have := ltOf hb.out; omega)
        exact Il.of_new this (fun i hi => hi.elim (fun hi => by have := hbA.out i hi; have := hB.out; have := hm.out.size; omega) (fun e => by subst e; exact ltOf hb.out))
      clear cx lx cx2 fx2 lx2 hb2 hN hm2 hb hm
      generalize w2.setCell ⟨B, 4, none⟩ (.slice na tar.length nc) = w3 at *
      have hpr3 := Lib.hid (hpt.out.keep hm3 (fun _ h => h.elim))
      have cx3 := cellOf hb3
      have lx3 := ltOf hb3
      clear hpr
      go_upto_region 10 with (go_at_call 51; refine (own13_walk w3 ta tc tar hlt' hpr3.out.2.2.1.rd).mono ?_; rintro e w4 ⟨ma, mc, rfl, hN4, hm4⟩; have hb4 := hm4.keep hb3 id; have cx4 := cellOf hb4; have fx4 := frzOf hb4; have lx4 := ltOf hb4)
      have hb5 := heap_setCell_same (heap_setCell_same (heap_setCell_same hb4 3 (.slice ma tar.length mc)) 5 (.slice none 0 0)) 2 (.int .i64 (w64 (ver + 1)))
      simp at hb5
      have hn5 : Mods (fun i => i = B) w4 (((w4.setCell ⟨B, 3, none⟩ (.slice ma tar.length mc)).setCell ⟨B, 5, none⟩ (.slice none 0 0)).setCell ⟨B, 2, none⟩ (.int .i64 (w64 (ver + 1)))) :=
        (((Mods.refl (S := fun i => i = B)).setCell (a := ⟨B, 3, none⟩) _ (fun _ => rfl)).setCell (a := ⟨B, 5, none⟩) _ (fun _ => rfl)).setCell (a := ⟨B, 2, none⟩) _ (fun _ => rfl)
      have hm5 : Mods Nil w (((w4.setCell ⟨B, 3, none⟩ (.slice ma tar.length mc)).setCell ⟨B, 5, none⟩ (.slice none 0 0)).setCell ⟨B, 2, none⟩ (.int .i64 (w64 (ver + 1)))) :=
        (hm3.trans hm4 (fun _ _ h => h)).trans hn5 (fun i hi e => by have := hB.out; have e' : i = B := e; omega)
      have hM5 : Il (((w4.setCell ⟨B, 3, none⟩ (.slice ma tar.length mc)).setCell ⟨B, 5, none⟩ (.slice none 0 0)).setCell ⟨B, 2, none⟩ (.int .i64 (w64 (ver + 1)))) d.A (ma, mc) tar := by
        have := hN4.keep hn5 (fun i hi e => by have e' : i = B := e; have := ltOf hb3; omega)
        exact Il.of_new this (fun i hi => by have := hbA.out i hi; have := hB.out; have := hm3.size; omega)
      have hN5 : Il (((w4.setCell ⟨B, 3, none⟩ (.slice ma tar.length mc)).setCell ⟨B, 5, none⟩ (.slice none 0 0)).setCell ⟨B, 2, none⟩ (.int .i64 (w64 (ver + 1)))) d.A (na, nc) tar :=
        ((hN3.keep hm4 (fun _ h => h.elim)).keep hn5 (fun i hi => .inr hi)).mono (fun _ h => .inl h)
      clear cx3 lx3 cx4 fx4 lx4 hb4 hN4 hm4 hb3 hm3 hn5 hN3 hpr3
      generalize ((w4.setCell ⟨B, 3, none⟩ (.slice ma tar.length mc)).setCell ⟨B, 5, none⟩ (.slice none 0 0)).setCell ⟨B, 2, none⟩ (.int .i64 (w64 (ver + 1))) = w5 at *
      have h5 := Lib.hid (h.out.keepNil hm5)
      have hpt5 : Hid (PtAt w5 d.A ⟨⟨lead, ep, w64 (ver + 1), tar, tar, []⟩, (ma, mc), (na, nc), (none, 0)⟩) := Lib.hid ⟨hM5, hN5, Il.nil⟩
      have hok5 : Hid ((⟨lead, ep, w64 (ver + 1), tar, tar, []⟩ : Pl).ok nds.length) := Lib.hid ⟨hok.out.lead, hok.out.lt, hok.out.lt, by simp, hok.out.tar, by simp⟩
      have hse := h5.out.setAll hk.out hpt5.out hok5.out
      rw [List.length_nil] at hse
      replace hse := Lib.hid hse
      obtain ⟨c0, c1, c2, c3, c4, c5⟩ := h5.out.pts.cells hk.out
      have lp := h5.out.pts.1.ltAt
      have fp := h5.out.pts.1.frzAt
      have cb := cellOf h5.out.box
      have lb := ltOf h5.out.box
      have cx := cellOf hb5
      have lx := ltOf hb5
      have hb5H := Lib.hid hb5
      have hm5H := Lib.hid hm5
      clear hb5 hm5 hM5 hN5 w2 w3 w4
      refine wp_region_plan [(.pure, 0), (.pure, 1), (.pure, 2), (.read, 3), (.pure, 4), (.read, 5), (.pure, 6), (.eff, 7)] 7 (fun W => Mods Nil _ W) mixed (by kernel_rfl) (by kernel_rfl) Mods.refl.drew ?_
      repeat first
         | (refine reg_pure (v := ?_) rfl rfl ?_ ?_; rotate_left 1; (· (intro W; go_simp <;> with_reducible rfl)); simp only [Act.put, List.setIfInBounds_toArray, List.set_cons_zero, List.set_cons_succ])
         | (refine reg_read (v := ?_) rfl rfl ?_ ?_; rotate_left 1; (· (intro W hW; have hW' := Mods.cells hW; go_simp <;> with_reducible rfl)); simp only [Act.put, List.setIfInBounds_toArray, List.set_cons_zero, List.set_cons_succ])
         | (refine reg_off (by rfl) (by rfl) ?_; simp only [Act.put, List.setIfInBounds_toArray, List.set_cons_zero, List.set_cons_succ])
         | (refine reg_pure_on (v := ?_) rfl (by rfl) ?_ ?_; rotate_left 1; (· (intro W; go_simp <;> with_reducible rfl)); simp only [Act.put, List.setIfInBounds_toArray, List.set_cons_zero, List.set_cons_succ])
         | (refine reg_read_on (v := ?_) rfl (by rfl) ?_ ?_; rotate_left 1; (· (intro W hW; have hW' := Mods.cells hW; go_simp <;> with_reducible rfl)); simp only [Act.put, List.setIfInBounds_toArray, List.set_cons_zero, List.set_cons_succ])
      refine reg_eff (by rfl) (by rfl) (fun K hK => ?_)
      go_simp
      refine hK _ _ ?_
      clear hK K
      refine reg_done (qnp_normal ?_)
      obtain ⟨h6, hm6⟩ := hse.out
      clear c0 c1 c2 c3 c4 c5 lp fp cb lb cx lx hse
      generalize (((((w5.setCell ⟨d.gp, d.op + k * 6, none⟩ (.int .i64 lead)).setCell ⟨d.gp, d.op + k * 6 + 1, none⟩ (.int .i64 ep)).setCell ⟨d.gp, d.op + k * 6 + 2, none⟩ (.int .i64 (w64 (ver + 1)))).setCell ⟨d.gp, d.op + k * 6 + 3, none⟩ (.slice ma tar.length mc)).setCell ⟨d.gp, d.op + k * 6 + 4, none⟩ (.slice na tar.length nc)).setCell ⟨d.gp, d.op + k * 6 + 5, none⟩ (.slice none 0 0) = w6 at *
      have hk6 := Lib.hid (get_set_same (a := (⟨⟨lead, ep, w64 (ver + 1), tar, tar, []⟩, (ma, mc), (na, nc), (none, 0)⟩ : Pt)) hk.out)
      have hb6 := hm6.keep hb5H.out (fun e => hBA.out (.inr (.inr (.inr (.inr e)))))
      have cx := cellOf hb6
      have lx := ltOf hb6
      have hm06 := Lib.hid ((hm5H.out.mono (S' := fun i => i = d.gp) (fun _ h => h.elim)).trans hm6 (fun _ _ h => h))
      have hpt6 := (h6.pts.2.1 _ (List.mem_of_getElem? hk6.out)).1
      have hcon : Hid (∀ W, Mods Nil w6 W → Calls Try.prog 47 #[.slice ma tar.length mc, .int .i64 lead] W fun e w' => e = .returned (.bool (tar.contains lead)) ∧ Mods Nil W w') := Lib.hid (fun W hW => has_walk W ma mc tar lead (by omega) (hpt6.keep hW (fun _ h => h.elim)).1.rd)
      have hel : Hid (∀ W, Mods Nil w6 W → Calls Try.prog 48 #[.pointer (some ⟨d.b, 0, none⟩), .int .i64 k] W
        fun e w' => e = .returned (.tuple #[]) ∧ RImg w' d nds (L.set k ⟨elP nds ⟨lead, ep, w64 (ver + 1), tar, tar, []⟩, (ma, mc), (na, nc), (none, 0)⟩) next count ∧ Mods (fun i => i = d.gp) W w') := Lib.hid (fun W hW => by
          have := rlead_walk W d nds _ next count k _ (h6.keepNil hW) hk6.out
          rwa [set_set_same] at this)
      obtain ⟨tb, htb⟩ : ∃ tb, tb = tar.contains lead := ⟨_, rfl⟩
      rw [← htb] at hcon
      have hset : Hid (settleP nds ⟨lead, ep, ver, isr, rep, tar⟩ = if tb = true then ⟨lead, ep, w64 (ver + 1), tar, tar, []⟩ else elP nds ⟨lead, ep, w64 (ver + 1), tar, tar, []⟩) := Lib.hid (by
        rw [settleP, if_neg h0.out, if_pos hall.out, htb])
      replace htb := Lib.hid htb
      replace h6 := Lib.hid h6
      clear hpt6 hm6 hb6 hb5H h5 hpt5
      cases tb with
      | true =>
        go_wp2_with (go_at_call 47; refine (hcon.out _ Mods.refl.drew).mono ?_; rintro e w7 ⟨rfl, hm7⟩)
        go_end0
        exact ⟨rfl, ⟨_, hset.out.symm, h6.out.keepNil (Mods.drew_left hm7)⟩, hm06.out.trans (Mods.drew_left hm7) (fun _ _ h => h.elim)⟩
      | false =>
        go_wp2_with (first | (go_at_call 47; refine (hcon.out _ Mods.refl.drew).mono ?_; rintro e w7 ⟨rfl, hm7⟩) | (go_at_call 48; refine (hel.out _ (Mods.drew_left hm7)).mono ?_; rintro e w8 ⟨rfl, h8, hm8⟩))
        go_end0
        exact ⟨rfl, ⟨_, hset.out.symm, h8⟩, (hm06.out.trans (Mods.drew_left hm7) (fun _ _ h => h.elim)).trans hm8 (fun _ _ h => h)⟩
end Go.Proofs.Ytnnoicacpcahfaa
