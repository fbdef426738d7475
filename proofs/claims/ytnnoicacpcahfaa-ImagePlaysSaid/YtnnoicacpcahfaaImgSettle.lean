/- (*Image).settle, walked. No condition. -/
import Derived.Test.YtnnoicacpcahfaaImgElect
namespace Go.Proofs.Ytnnoicacpcahfaa
open Go.RowKit

theorem set_same {α : Type} {L : List α} {k : Nat} {p : α} (h : L[k]? = some p) : L.set k p = L := by
  obtain ⟨hl, rfl⟩ := List.getElem?_eq_some_iff.1 h
  simp
theorem all_of {l : List Int} {f : Int → Bool} (h : ∀ j x, j < l.length → l[j]? = some x → f x = true) : l.all f = true := by
  rw [List.all_eq_true]
  intro x hx
  obtain ⟨j, hj⟩ := List.getElem?_of_mem hx
  exact h j x (List.getElem?_eq_some_iff.1 hj).1 hj
theorem not_all_of {l : List Int} {f : Int → Bool} {j : Nat} {x : Int} (hj : l[j]? = some x) (hf : f x = false) : l.all f = false := by
  cases h : l.all f with
  | false => rfl
  | true => rw [List.all_eq_true] at h; have := h x (List.mem_of_getElem? hj); simp [hf] at this

theorem Img.moved {w : World} {d : Ad} {nds : List Nd} {L : List Pt} {next count : Int} {k : Nat} {lead ep ver : Int} {isr rep tar : List Int} {la ra ta na : Option Addr} {lc rc tc nc : Nat} (h : Img w d nds L next count) (hk : L[k]? = some ⟨⟨lead, ep, ver, isr, rep, tar⟩, (la, lc), (ra, rc), (ta, tc)⟩) (hN : Il w d.F (na, nc) tar) :
    Img (((w.setCell ⟨d.gp, d.op + k * 6 + 4, none⟩ (.slice ta tar.length tc)).setCell ⟨d.gp, d.op + k * 6 + 3, none⟩ (.slice na tar.length nc)).setCell ⟨d.gp, d.op + k * 6 + 5, none⟩ (.slice none 0 0)) d nds (L.set k ⟨⟨lead, ep, ver, tar, tar, []⟩, (na, nc), (ta, tc), (none, 0)⟩) next count ∧
    w.cell? ⟨d.gp, d.op + k * 6 + 4, none⟩ = some (.slice ra rep.length rc) ∧
    (w.setCell ⟨d.gp, d.op + k * 6 + 4, none⟩ (.slice ta tar.length tc)).cell? ⟨d.gp, d.op + k * 6 + 3, none⟩ = some (.slice la isr.length lc) ∧
    ((w.setCell ⟨d.gp, d.op + k * 6 + 4, none⟩ (.slice ta tar.length tc)).setCell ⟨d.gp, d.op + k * 6 + 3, none⟩ (.slice na tar.length nc)).cell? ⟨d.gp, d.op + k * 6 + 5, none⟩ = some (.slice ta tar.length tc) ∧
    (∀ o, w.frozen? ⟨d.gp, o, none⟩ = false) ∧ (∀ o, (w.setCell ⟨d.gp, d.op + k * 6 + 4, none⟩ (.slice ta tar.length tc)).frozen? ⟨d.gp, o, none⟩ = false) ∧
    (∀ o, ((w.setCell ⟨d.gp, d.op + k * 6 + 4, none⟩ (.slice ta tar.length tc)).setCell ⟨d.gp, d.op + k * 6 + 3, none⟩ (.slice na tar.length nc)).frozen? ⟨d.gp, o, none⟩ = false) := by
  have hpt1 := h.2.2.1.2.1 _ (List.mem_of_getElem? hk)
  have hok1 := h.2.2.1.2.2.1 _ (List.mem_of_getElem? hk)
  have hIb := h.setPart (p' := ⟨⟨lead, ep, ver, isr, tar, tar⟩, (la, lc), (ta, tc), (ta, tc)⟩) (u := .slice ta tar.length tc) hk (j := 4) (by omega) rfl ⟨hpt1.1, hpt1.2.2, hpt1.2.2⟩
    ⟨hok1.lead, hok1.li, hok1.lt, hok1.lt, hok1.isr, hok1.tar⟩
  have hkb := get_set_same (a := (⟨⟨lead, ep, ver, isr, tar, tar⟩, (la, lc), (ta, tc), (ta, tc)⟩ : Pt)) hk
  have hptb := hIb.2.2.1.2.1 _ (List.mem_of_getElem? hkb)
  have hmb : Mods d.A w (w.setCell ⟨d.gp, d.op + k * 6 + 4, none⟩ (.slice ta tar.length tc)) := Mods.refl.setCell _ (fun _ => .inr (.inr (.inl rfl)))
  have hIc := hIb.setPart (p' := ⟨⟨lead, ep, ver, tar, tar, tar⟩, (na, nc), (ta, tc), (ta, tc)⟩) (u := .slice na tar.length nc) hkb (j := 3) (by omega) rfl ⟨hN.keep hmb (fun _ h => .inl h), hptb.2.1, hptb.2.2⟩
    ⟨hok1.lead, hok1.lt, hok1.lt, hok1.lt, hok1.tar, hok1.tar⟩
  have hkc := get_set_same (a := (⟨⟨lead, ep, ver, tar, tar, tar⟩, (na, nc), (ta, tc), (ta, tc)⟩ : Pt)) hkb
  have hptc := hIc.2.2.1.2.1 _ (List.mem_of_getElem? hkc)
  have hId := hIc.setPart (p' := ⟨⟨lead, ep, ver, tar, tar, []⟩, (na, nc), (ta, tc), (none, 0)⟩) (u := .slice none 0 0) hkc (j := 5) (by omega) rfl ⟨hptc.1, hptc.2.1, Il.nil⟩
    ⟨hok1.lead, hok1.lt, hok1.lt, by simp, hok1.tar, by simp⟩
  rw [set_set_same, set_set_same] at hId
  obtain ⟨-, -, -, -, ca, -⟩ := h.2.2.1.cells hk
  obtain ⟨-, -, -, cb, -, -⟩ := hIb.2.2.1.cells hkb
  obtain ⟨-, -, -, -, -, cc⟩ := hIc.2.2.1.cells hkc
  exact ⟨hId, ca, cb, cc, h.2.2.1.1.frzAt, hIb.2.2.1.1.frzAt, hIc.2.2.1.1.frzAt⟩

set_option maxRecDepth 100000 in
set_option maxHeartbeats 6400000 in
theorem settle_walk (w : World) (d : Ad) (nds : List Nd) (L : List Pt) (next count : Int) (k : Nat) (p : Pt) (h : Img w d nds L next count) (hk : L[k]? = some p) :
    Calls Try.prog 71 #[.pointer (some ⟨d.b, 0, none⟩), .pointer (some ⟨d.gp, d.op + k * 6, none⟩)] w
      fun e w' => e = .returned (.tuple #[]) ∧ (∃ p', p'.pl = settleP nds p.pl ∧ Img w' d nds (L.set k p') next count) ∧ Mods (fun i => i = d.gp) w w' := by
  have hok := h.2.2.1.2.2.1 p (List.mem_of_getElem? hk)
  have hpt := h.2.2.1.2.1 p (List.mem_of_getElem? hk)
  obtain ⟨c0, c1, c2, c3, c4, c5⟩ := h.2.2.1.cells hk
  have l0 := h.2.2.1.1.ltAt
  have f0 := h.2.2.1.1.frzAt
  obtain ⟨⟨lead, ep, ver, isr, rep, tar⟩, ⟨la, lc⟩, ⟨ra, rc⟩, ⟨ta, tc⟩⟩ := p
  obtain ⟨hI, hR, hT⟩ := hpt
  have hrT := hT.1.rd
  have hli := hok.li
  have hlt' := hok.lt
  unfold Pt.vi at c3
  unfold Pt.vr at c4
  unfold Pt.vt at c5
  dsimp only at *
  by_cases h0 : tar = []
  · have hs : settleP nds ⟨lead, ep, ver, isr, rep, tar⟩ = ⟨lead, ep, ver, isr, rep, tar⟩ := by rw [settleP, if_pos h0]
    have hn : tar.length = 0 := by rw [h0]; rfl
    have res : Img w d nds (L.set k ⟨⟨lead, ep, ver, isr, rep, tar⟩, (la, lc), (ra, rc), (ta, tc)⟩) next count := by rw [set_same hk]; exact h
    rw [hn] at c5
    replace res := Lib.hid res
    replace hs := Lib.hid hs
    clear h hk hok hI hR hT hrT hn h0
    go_enter Try.func71, Try.ntmps71
    go_wp2
    ((try simp only [Exit.inBlock, Exit.then]); refine bodyPost_ret (results_none rfl _ _ _) rfl ?_)
    exact ⟨rfl, ⟨_, hs.out.symm, res.out⟩, Mods.refl⟩
  have hpos : tar.length ≠ 0 := fun e => h0 (List.eq_nil_of_length_eq_zero e)
  have hnz : ¬ ((tar.length : Int) == 0) = true := by simp; omega
  have hcon : Hid (∀ (x : Int), Calls Try.prog 65 #[.slice la isr.length lc, .int .i64 x] w fun e w' => e = .returned (.bool (isr.contains x)) ∧ w' = w) := Lib.hid (fun x => contains_walk w la lc isr x (by omega) hI.1)
  replace h := Lib.hid h
  replace h0 := Lib.hid h0
  replace hI := Lib.hid hI
  replace hR := Lib.hid hR
  replace hT := Lib.hid hT
  replace hok := Lib.hid hok
  go_enter Try.func71, Try.ntmps71
  go_wp2_with fail
  go_loopw [17] (fun s17 wr => ∃ i : Nat, i ≤ tar.length ∧ s17 = .int .i64 i ∧ Hid (∀ j x, j < i → tar[j]? = some x → isr.contains x = true) ∧ wr = w) (fun s17 _ => tar.length - (intOf s17).toNat)
  case atStart => exact ⟨0, by omega, rfl, Lib.hid (fun j x hj => by omega), rfl⟩
  case round =>
    obtain ⟨i, hi, rfl, hno, rfl⟩ := hrel
    by_cases hlt : i < tar.length
    · obtain ⟨g, off, rfl, hg, hcells⟩ := hrT.form (by omega) (by omega)
      have c0' : wr.cell? ⟨g, off + i, none⟩ = some (.int .i64 tar[i]) := by
        rw [hcells i (by omega), ints_at, List.getElem?_eq_getElem hlt]; rfl
      have hy : Hid (tar[i]? = some tar[i]) := Lib.hid (List.getElem?_eq_getElem hlt)
      generalize tar[i] = y at *
      clear hcells
      have i0 : (0 : Int) ≤ (i : Int) := by omega
      have i1 : (i : Int) < (tar.length : Int) := by omega
      have hc := hcon.out y
      obtain ⟨tb, htb⟩ : ∃ tb, tb = isr.contains y := ⟨_, rfl⟩
      rw [← htb] at hc
      replace htb := Lib.hid htb
      cases tb with
      | false =>
        have hs : settleP nds ⟨lead, ep, ver, isr, rep, tar⟩ = ⟨lead, ep, ver, isr, rep, tar⟩ := by
          rw [settleP, if_neg h0.out, if_neg]
          show ¬ (tar.all (fun x => isr.contains x) = true)
          rw [not_all_of hy.out htb.out.symm]; simp
        have res : Img wr d nds (L.set k ⟨⟨lead, ep, ver, isr, rep, tar⟩, (la, lc), (ra, rc), (some ⟨g, off, none⟩, tc)⟩) next count := by rw [set_same hk]; exact h.out
        replace res := Lib.hid res
        replace hs := Lib.hid hs
        clear hk
        go_wp2_with (go_at_call 65; refine hc.mono ?_; rintro e w' ⟨rfl, rfl⟩)
        ((try simp only [Exit.inBlock, Exit.then]); refine bodyPost_ret (results_none rfl _ _ _) rfl ?_)
        exact ⟨rfl, ⟨_, hs.out.symm, res.out⟩, Mods.refl⟩
      | true =>
        go_wp2_with (go_at_call 65; refine hc.mono ?_; rintro e w' ⟨rfl, rfl⟩)
        exact ⟨⟨i + 1, by omega, by go_num, Lib.hid (fun j x hj hx => by
          by_cases hji : j = i
          · subst hji
            rw [hy.out] at hx
            cases hx
            exact htb.out.symm
          · exact hno.out j x (by omega) hx), trivial⟩, by simp [intOf]; omega⟩
    · obtain rfl : i = tar.length := by omega
      clear hlt
      have hall : Hid (tar.all (fun x => isr.contains x) = true) := Lib.hid (all_of (fun j x hj hx => hno.out j x hj hx))
      clear hno hcon
      go_upto_region 6 with fail
      refine wp_region_plan [(.pure, 0), (.pure, 1), (.pure, 2), (.pure, 3), (.pure, 4), (.pure, 5), (.read, 6), (.pure, 7), (.pure, 8), (.pure, 9), (.read, 10), (.ben, 11), (.pure, 12), (.pure, 13), (.eff, 14), (.pure, 15), (.pure, 16), (.eff, 17), (.pure, 18), (.pure, 19), (.eff, 20)] 14 (fun W => Mods Nil _ W) mixed (by kernel_rfl) (by kernel_rfl) Mods.refl.drew ?_
      repeat first
         | (refine reg_pure (v := ?_) rfl rfl ?_ ?_; rotate_left 1; (· (intro W; go_simp <;> with_reducible rfl)); simp only [Act.put, List.setIfInBounds_toArray, List.set_cons_zero, List.set_cons_succ])
         | (refine reg_read (v := ?_) rfl rfl ?_ ?_; rotate_left 1; (· (intro W hW; have hW' := Mods.cells hW; go_simp <;> with_reducible rfl)); simp only [Act.put, List.setIfInBounds_toArray, List.set_cons_zero, List.set_cons_succ])
         | (refine reg_off (by rfl) (by rfl) ?_; simp only [Act.put, List.setIfInBounds_toArray, List.set_cons_zero, List.set_cons_succ])
         | (refine reg_pure_on (v := ?_) rfl (by rfl) ?_ ?_; rotate_left 1; (· (intro W; go_simp <;> with_reducible rfl)); simp only [Act.put, List.setIfInBounds_toArray, List.set_cons_zero, List.set_cons_succ])
         | (refine reg_read_on (v := ?_) rfl (by rfl) ?_ ?_; rotate_left 1; (· (intro W hW; have hW' := Mods.cells hW; go_simp <;> with_reducible rfl)); simp only [Act.put, List.setIfInBounds_toArray, List.set_cons_zero, List.set_cons_succ])
      refine reg_ben (by rfl) (by rfl) (fun K hK => ?_)
      go_simp
      refine (clone_walk wr.drew ta tc tar hlt' hT.out.1).mono ?_
      rintro e w1 ⟨na, nc, rfl, hN, hm1⟩
      replace hm1 := Mods.drew_left hm1
      refine hK _ _ hm1 ?_
      clear hK K
      have hIa := h.out.keepNil hm1
      have hN1 : Il w1 d.F (na, nc) tar := Il.of_new hN h.out.ltF
      obtain ⟨hId, ca, cb, cc, fa, fb, fc⟩ := hIa.moved hk hN1
      have hmd : Mods (fun i => i = d.gp) wr (((w1.setCell ⟨d.gp, d.op + k * 6 + 4, none⟩ (.slice ta tar.length tc)).setCell ⟨d.gp, d.op + k * 6 + 3, none⟩ (.slice na tar.length nc)).setCell ⟨d.gp, d.op + k * 6 + 5, none⟩ (.slice none 0 0)) :=
        (((hm1.mono (S' := fun i => i = d.gp) (fun _ h => h.elim)).setCell (a := ⟨d.gp, d.op + k * 6 + 4, none⟩) _ (fun _ => rfl)).setCell (a := ⟨d.gp, d.op + k * 6 + 3, none⟩) _ (fun _ => rfl)).setCell (a := ⟨d.gp, d.op + k * 6 + 5, none⟩) _ (fun _ => rfl)
      clear hIa hN hN1 c0 c1 c2 c3 c4 f0
      replace hId := Lib.hid hId
      replace hmd := Lib.hid hmd
      have c5' := c5
      have sz1 := hm1.size
      have c51 : w1.cell? ⟨d.gp, d.op + k * 6 + 5, none⟩ = some (.slice ta tar.length tc) := (hm1.cell l0 id _).trans c5
      clear c5 c5'
      try simp only [Act.put, List.setIfInBounds_toArray, List.set_cons_zero, List.set_cons_succ]
      repeat first
         | (refine reg_pure (v := ?_) rfl rfl ?_ ?_; rotate_left 1; (· (intro W; go_simp <;> with_reducible rfl)); simp only [Act.put, List.setIfInBounds_toArray, List.set_cons_zero, List.set_cons_succ])
         | (refine reg_read (v := ?_) rfl rfl ?_ ?_; rotate_left 1; (· (intro W hW; have hW' := Mods.cells hW; go_simp <;> with_reducible rfl)); simp only [Act.put, List.setIfInBounds_toArray, List.set_cons_zero, List.set_cons_succ])
         | (refine reg_off (by rfl) (by rfl) ?_; simp only [Act.put, List.setIfInBounds_toArray, List.set_cons_zero, List.set_cons_succ])
         | (refine reg_pure_on (v := ?_) rfl (by rfl) ?_ ?_; rotate_left 1; (· (intro W; go_simp <;> with_reducible rfl)); simp only [Act.put, List.setIfInBounds_toArray, List.set_cons_zero, List.set_cons_succ])
         | (refine reg_read_on (v := ?_) rfl (by rfl) ?_ ?_; rotate_left 1; (· (intro W hW; have hW' := Mods.cells hW; go_simp <;> with_reducible rfl)); simp only [Act.put, List.setIfInBounds_toArray, List.set_cons_zero, List.set_cons_succ])
      refine reg_eff (by rfl) (by rfl) (fun K hK => ?_)
      go_simp
      refine hK _ _ ?_
      clear hK K
      try simp only [Act.put, List.setIfInBounds_toArray, List.set_cons_zero, List.set_cons_succ]
      repeat first
         | (refine reg_pure (v := ?_) rfl rfl ?_ ?_; rotate_left 1; (· (intro W; go_simp <;> with_reducible rfl)); simp only [Act.put, List.setIfInBounds_toArray, List.set_cons_zero, List.set_cons_succ])
         | (refine reg_read (v := ?_) rfl rfl ?_ ?_; rotate_left 1; (· (intro W hW; skip; go_simp <;> with_reducible rfl)); simp only [Act.put, List.setIfInBounds_toArray, List.set_cons_zero, List.set_cons_succ])
         | (refine reg_off (by rfl) (by rfl) ?_; simp only [Act.put, List.setIfInBounds_toArray, List.set_cons_zero, List.set_cons_succ])
         | (refine reg_pure_on (v := ?_) rfl (by rfl) ?_ ?_; rotate_left 1; (· (intro W; go_simp <;> with_reducible rfl)); simp only [Act.put, List.setIfInBounds_toArray, List.set_cons_zero, List.set_cons_succ])
         | (refine reg_read_on (v := ?_) rfl (by rfl) ?_ ?_; rotate_left 1; (· (intro W hW; skip; go_simp <;> with_reducible rfl)); simp only [Act.put, List.setIfInBounds_toArray, List.set_cons_zero, List.set_cons_succ])
      refine reg_eff (by rfl) (by rfl) (fun K hK => ?_)
      go_simp
      refine hK _ _ ?_
      clear hK K
      try simp only [Act.put, List.setIfInBounds_toArray, List.set_cons_zero, List.set_cons_succ]
      repeat first
         | (refine reg_pure (v := ?_) rfl rfl ?_ ?_; rotate_left 1; (· (intro W; go_simp <;> with_reducible rfl)); simp only [Act.put, List.setIfInBounds_toArray, List.set_cons_zero, List.set_cons_succ])
         | (refine reg_read (v := ?_) rfl rfl ?_ ?_; rotate_left 1; (· (intro W hW; skip; go_simp <;> with_reducible rfl)); simp only [Act.put, List.setIfInBounds_toArray, List.set_cons_zero, List.set_cons_succ])
         | (refine reg_off (by rfl) (by rfl) ?_; simp only [Act.put, List.setIfInBounds_toArray, List.set_cons_zero, List.set_cons_succ])
         | (refine reg_pure_on (v := ?_) rfl (by rfl) ?_ ?_; rotate_left 1; (· (intro W; go_simp <;> with_reducible rfl)); simp only [Act.put, List.setIfInBounds_toArray, List.set_cons_zero, List.set_cons_succ])
         | (refine reg_read_on (v := ?_) rfl (by rfl) ?_ ?_; rotate_left 1; (· (intro W hW; skip; go_simp <;> with_reducible rfl)); simp only [Act.put, List.setIfInBounds_toArray, List.set_cons_zero, List.set_cons_succ])
      refine reg_eff (by rfl) (by rfl) (fun K hK => ?_)
      go_simp
      refine hK _ _ (reg_done (qnp_normal ?_))
      clear hK K
      clear ca cb cc fa fb fc c51 hm1 sz1 l0 hrT hT hI hR hok hli
      generalize ((w1.setCell ⟨d.gp, d.op + k * 6 + 4, none⟩ (.slice ta tar.length tc)).setCell ⟨d.gp, d.op + k * 6 + 3, none⟩ (.slice na tar.length nc)).setCell ⟨d.gp, d.op + k * 6 + 5, none⟩ (.slice none 0 0) = w2 at *
      clear w1
      have hkd := get_set_same (a := (⟨⟨lead, ep, ver, tar, tar, []⟩, (na, nc), (ta, tc), (none, 0)⟩ : Pt)) hk
      obtain ⟨-, -, c2, -, -, -⟩ := hId.out.2.2.1.cells hkd
      have l2 := hId.out.2.2.1.1.ltAt
      have f2 := hId.out.2.2.1.1.frzAt
      have hptd := hId.out.2.2.1.2.1 _ (List.mem_of_getElem? hkd)
      have hokd := hId.out.2.2.1.2.2.1 _ (List.mem_of_getElem? hkd)
      have hIe := hId.out.setPart (p' := ⟨⟨lead, ep, w64 (ver + 1), tar, tar, []⟩, (na, nc), (ta, tc), (none, 0)⟩) (u := .int .i64 (w64 (ver + 1))) hkd (j := 2) (by omega) rfl hptd ⟨hokd.lead, hokd.li, hokd.lr, hokd.lt, hokd.isr, hokd.tar⟩
      rw [set_set_same] at hIe
      have hme := hmd.out.setCell (a := ⟨d.gp, d.op + k * 6 + 2, none⟩) (.int .i64 (w64 (ver + 1))) (fun _ => rfl)
      clear hptd hokd hkd
      replace hIe := Lib.hid hIe
      replace hme := Lib.hid hme
      dsimp only at c2
      go_upto_region 8 with fail
      clear hId hmd c2 f2 l2
      change Code.wp _ _ _ _ (w2.setCell ⟨d.gp, d.op + k * 6 + 2, none⟩ (.int .i64 (w64 (ver + 1))))
      generalize w2.setCell ⟨d.gp, d.op + k * 6 + 2, none⟩ (.int .i64 (w64 (ver + 1))) = w3 at *
      have hke := get_set_same (a := (⟨⟨lead, ep, w64 (ver + 1), tar, tar, []⟩, (na, nc), (ta, tc), (none, 0)⟩ : Pt)) hk
      obtain ⟨c30, -, -, c33, -, -⟩ := hIe.out.2.2.1.cells hke
      have l3 := hIe.out.2.2.1.1.ltAt
      have hpte := (hIe.out.2.2.1.2.1 _ (List.mem_of_getElem? hke)).1.1
      dsimp only at c30 hpte
      unfold Pt.vi at c33
      dsimp only at c33
      have hcon := contains_walk w3.drew na nc tar lead (by omega) hpte
      obtain ⟨tb, htb⟩ : ∃ tb, tb = tar.contains lead := ⟨_, rfl⟩
      rw [← htb] at hcon
      have hset : Hid (settleP nds ⟨lead, ep, ver, isr, rep, tar⟩ = if tb = true then ⟨lead, ep, w64 (ver + 1), tar, tar, []⟩ else elP nds ⟨lead, ep, w64 (ver + 1), tar, tar, []⟩) := Lib.hid (by
        rw [settleP, if_neg h0.out, if_pos hall.out, htb])
      have hel := elect_walk w3.drew d nds _ next count k _ hIe.out hke
      rw [set_set_same] at hel
      replace htb := Lib.hid htb
      replace hke := Lib.hid hke
      clear hpte hk
      refine wp_region_plan [(.pure, 0), (.pure, 1), (.pure, 2), (.read, 3), (.pure, 4), (.pure, 5), (.pure, 6), (.read, 7), (.ben, 8), (.pure, 9)] 10 (fun W => Mods Nil _ W) mixed (by kernel_rfl) (by kernel_rfl) Mods.refl.drew ?_
      repeat first
         | (refine reg_pure (v := ?_) rfl rfl ?_ ?_; rotate_left 1; (· (intro W; go_simp <;> with_reducible rfl)); simp only [Act.put, List.setIfInBounds_toArray, List.set_cons_zero, List.set_cons_succ])
         | (refine reg_read (v := ?_) rfl rfl ?_ ?_; rotate_left 1; (· (intro W hW; have hW' := Mods.cells hW; go_simp <;> with_reducible rfl)); simp only [Act.put, List.setIfInBounds_toArray, List.set_cons_zero, List.set_cons_succ])
         | (refine reg_off (by rfl) (by rfl) ?_; simp only [Act.put, List.setIfInBounds_toArray, List.set_cons_zero, List.set_cons_succ])
         | (refine reg_pure_on (v := ?_) rfl (by rfl) ?_ ?_; rotate_left 1; (· (intro W; go_simp <;> with_reducible rfl)); simp only [Act.put, List.setIfInBounds_toArray, List.set_cons_zero, List.set_cons_succ])
         | (refine reg_read_on (v := ?_) rfl (by rfl) ?_ ?_; rotate_left 1; (· (intro W hW; have hW' := Mods.cells hW; go_simp <;> with_reducible rfl)); simp only [Act.put, List.setIfInBounds_toArray, List.set_cons_zero, List.set_cons_succ])
      refine reg_ben (by rfl) (by rfl) (fun K hK => ?_)
      go_simp
      refine hcon.mono ?_
      rintro e w4 ⟨rfl, rfl⟩
      refine hK _ _ Mods.refl.drew ?_
      clear hK K
      repeat first
         | (refine reg_pure (v := ?_) rfl rfl ?_ ?_; rotate_left 1; (· (intro W; go_simp <;> with_reducible rfl)); simp only [Act.put, List.setIfInBounds_toArray, List.set_cons_zero, List.set_cons_succ])
         | (refine reg_read (v := ?_) rfl rfl ?_ ?_; rotate_left 1; (· (intro W hW; have hW' := Mods.cells hW; go_simp <;> with_reducible rfl)); simp only [Act.put, List.setIfInBounds_toArray, List.set_cons_zero, List.set_cons_succ])
         | (refine reg_off (by rfl) (by rfl) ?_; simp only [Act.put, List.setIfInBounds_toArray, List.set_cons_zero, List.set_cons_succ])
         | (refine reg_pure_on (v := ?_) rfl (by rfl) ?_ ?_; rotate_left 1; (· (intro W; go_simp <;> with_reducible rfl)); simp only [Act.put, List.setIfInBounds_toArray, List.set_cons_zero, List.set_cons_succ])
         | (refine reg_read_on (v := ?_) rfl (by rfl) ?_ ?_; rotate_left 1; (· (intro W hW; have hW' := Mods.cells hW; go_simp <;> with_reducible rfl)); simp only [Act.put, List.setIfInBounds_toArray, List.set_cons_zero, List.set_cons_succ])
      refine reg_done (qnp_normal ?_)
      cases tb with
      | false =>
        go_wp2_with (go_at_call 66; refine hel.mono ?_; rintro e w5 ⟨rfl, hI5, hm5⟩)
        go_end0
        exact ⟨rfl, ⟨_, hset.out.symm, hI5⟩, hme.out.trans (Mods.drew_left hm5) (fun _ _ h => h)⟩
      | true =>
        go_wp2
        go_end0
        exact ⟨rfl, ⟨_, hset.out.symm, hIe.out⟩, hme.out.drew⟩
end Go.Proofs.Ytnnoicacpcahfaa
