/- (*Image).join and fence, walked. No condition. -/
import Derived.Test.YtnnoicacpcahfaaImgSmall
namespace Go.Proofs.Ytnnoicacpcahfaa
open Go.RowKit

/-- The first k are turned. -/
def Upto (f : Pl → Pl) (P : List Pl) (k : Nat) (L : List Pt) : Prop := L.map Pt.pl = (P.take k).map f ++ P.drop k
theorem Upto.zero (f : Pl → Pl) (L : List Pt) : Upto f (L.map Pt.pl) 0 L := by simp [Upto]
theorem Upto.len {f : Pl → Pl} {P : List Pl} {k : Nat} {L : List Pt} (h : Upto f P k L) (hk : k ≤ P.length) : L.length = P.length := by
  have := congrArg List.length h
  simp at this; omega
theorem Upto.all {f : Pl → Pl} {P : List Pl} {L : List Pt} (h : Upto f P P.length L) : L.map Pt.pl = P.map f := by
  rw [Upto, List.take_length, List.drop_length, List.append_nil] at h; exact h
theorem Upto.at {f : Pl → Pl} {P : List Pl} {k : Nat} {L : List Pt} {p : Pt} (h : Upto f P k L) (hp : L[k]? = some p) (hk : k < P.length) : P[k]? = some p.pl := by
  have := congrArg (fun l => l[k]?) h
  simp only [List.getElem?_map, hp, Option.map_some] at this
  rw [List.getElem?_append_right (by simp; omega)] at this
  simp only [List.length_map, List.length_take, List.getElem?_drop] at this
  rw [show k + (k - min k P.length) = k by omega] at this
  exact this.symm
theorem Upto.step {f : Pl → Pl} {P : List Pl} {k : Nat} {L : List Pt} {p p' : Pt} (h : Upto f P k L) (hp : L[k]? = some p) (hk : k < P.length) (hq : p'.pl = f p.pl) : Upto f P (k + 1) (L.set k p') := by
  have ha := h.at hp hk
  have hg : P[k] = p.pl := by rw [List.getElem?_eq_getElem hk] at ha; exact Option.some.inj ha
  unfold Upto at h ⊢
  rw [List.map_set, h, List.set_append_right _ _ (by simp; omega), List.length_map, List.length_take, show k - min k P.length = 0 by omega, List.drop_eq_getElem_cons hk, List.set_cons_zero, List.take_succ_eq_append_getElem hk, List.map_append, List.append_assoc, hq, hg]
  rfl
theorem Upto.skip {f : Pl → Pl} {P : List Pl} {k : Nat} {L : List Pt} {p : Pt} (h : Upto f P k L) (hp : L[k]? = some p) (hk : k < P.length) (hq : p.pl = f p.pl) : Upto f P (k + 1) L := by
  have := h.step (p' := p) hp hk hq
  rwa [set_same hp] at this

set_option maxRecDepth 100000 in
set_option maxHeartbeats 6400000 in
theorem join_walk (w : World) (d : Ad) (nds : List Nd) (L : List Pt) (next count : Int) (n : Nat) (x : Nd) (times : Int) (h : Img w d nds L next count) (hn : nds[n]? = some x) :
    Calls Try.prog 41 #[.pointer (some ⟨d.b, 0, none⟩), .int .i64 n, .int .i64 times] w
      fun e w' => Mods d.A w w' ∧ if times ≤ x.comes then e = .returned (.int .i64 5) ∧ Img w' d nds L next count
        else e = .returned (.int .i64 0) ∧ ∃ L', Img w' d (nds.set n { x with alive := true, comes := times }) L' next count ∧ L'.map Pt.pl = (L.map Pt.pl).map (joinP (nds.set n { x with alive := true, comes := times }) n) := by
  have hnl : n < nds.length := (List.getElem?_eq_some_iff.1 hn).1
  have cb := cellOf h.1
  have lb := ltOf h.1
  have hcap := h.2.1.capAt.1
  have hpcap := h.2.2.1.1.capAt
  obtain ⟨c0, c1, c2⟩ := h.nodeCells hn
  have ln := h.2.1.ltAt
  have fn := h.2.1.frzAt
  have i0 : (0 : Int) ≤ (n : Int) := by omega
  have i1 : (n : Int) < (nds.length : Int) := by omega
  by_cases ht : times ≤ x.comes
  · simp only [if_pos ht]
    have res : Hid (Img w d nds L next count) := Lib.hid h
    clear h
    go_enter Try.func41, Try.ntmps41
    go_wp2
    go_ret
    exact ⟨Mods.refl, rfl, res.out⟩
  · simp only [if_neg ht]
    have hIa := h.setNode (x' := { x with alive := true }) (u := .bool true) hn (j := 0) (by omega) rfl
    have hna := get_set_same (a := ({ x with alive := true } : Nd)) hn
    have hIb := hIa.setNode (x' := { x with alive := true, comes := times }) (u := .int .i64 times) hna (j := 1) (by omega) rfl
    rw [set_set_same, Nat.add_zero] at hIb
    rw [Nat.add_zero] at hIa
    have cwa := (hIa.nodeCells hna).2.1
    have fa := hIa.2.1.frzAt
    have hmb : Mods d.A w ((w.setCell ⟨d.gn, d.on + n * 3, none⟩ (.bool true)).setCell ⟨d.gn, d.on + n * 3 + 1, none⟩ (.int .i64 times)) := (Mods.refl.setCell (a := ⟨d.gn, d.on + n * 3, none⟩) _ (fun _ => .inr (.inl rfl))).setCell (a := ⟨d.gn, d.on + n * 3 + 1, none⟩) _ (fun _ => .inr (.inl rfl))
    generalize hnds : nds.set n { x with alive := true, comes := times } = nds2 at *
    have hl2 : nds2.length = nds.length := by rw [← hnds]; simp
    replace hIb := Lib.hid hIb
    replace hmb := Lib.hid hmb
    clear h hIa hna hnds hn
    obtain ⟨P, hP⟩ : ∃ P, P = L.map Pt.pl := ⟨_, rfl⟩
    have hPl : L.length = P.length := by rw [hP]; simp
    have hU0 : Upto (joinP nds2 n) P 0 L := by rw [hP]; exact Upto.zero _ _
    rw [← hP]
    replace hP := Lib.hid hP
    replace hPl := Lib.hid hPl
    replace hU0 := Lib.hid hU0
    go_enter Try.func41, Try.ntmps41
    go_upto_region 3 with fail
    refine wp_region_plan [(.pure, 0), (.pure, 1), (.pure, 2), (.read, 3), (.pure, 4), (.pure, 5), (.pure, 6), (.pure, 7), (.read, 8), (.pure, 9), (.pure, 10), (.pure, 11), (.pure, 12), (.eff, 13), (.pure, 14), (.pure, 15), (.eff, 16)] 13 (fun W => Mods Nil _ W) mixed (by kernel_rfl) (by kernel_rfl) Mods.refl.drew ?_
    repeat first
       | (refine reg_pure (v := ?_) rfl rfl ?_ ?_; rotate_left 1; (· (intro W; go_simp <;> with_reducible rfl)); simp only [Act.put, List.setIfInBounds_toArray, List.set_cons_zero, List.set_cons_succ])
       | (refine reg_read (v := ?_) rfl rfl ?_ ?_; rotate_left 1; (· (intro W hW; have hW' := Mods.cells hW; go_simp <;> with_reducible rfl)); simp only [Act.put, List.setIfInBounds_toArray, List.set_cons_zero, List.set_cons_succ])
       | (refine reg_off (by rfl) (by rfl) ?_; simp only [Act.put, List.setIfInBounds_toArray, List.set_cons_zero, List.set_cons_succ])
       | (refine reg_pure_on (v := ?_) rfl (by rfl) ?_ ?_; rotate_left 1; (· (intro W; go_simp <;> with_reducible rfl)); simp only [Act.put, List.setIfInBounds_toArray, List.set_cons_zero, List.set_cons_succ])
       | (refine reg_read_on (v := ?_) rfl (by rfl) ?_ ?_; rotate_left 1; (· (intro W hW; have hW' := Mods.cells hW; go_simp <;> with_reducible rfl)); simp only [Act.put, List.setIfInBounds_toArray, List.set_cons_zero, List.set_cons_succ])
    refine reg_eff (by rfl) (by rfl) (fun K hK => ?_)
    go_simp
    refine hK _ _ ?_
    clear hK K
    try simp only [Act.put, List.setIfInBounds_toArray, List.set_cons_zero, List.set_cons_succ]
    repeat first
       | (refine reg_pure (v := ?_) rfl rfl ?_ ?_; rotate_left 1; (· (intro W; go_simp <;> with_reducible rfl)); simp only [Act.put, List.setIfInBounds_toArray, List.set_cons_zero, List.set_cons_succ])
       | (refine reg_read (v := ?_) rfl rfl ?_ ?_; rotate_left 1; (· (intro W hW; skip; go_simp <;> with_reducible rfl)); simp only [Act.put, List.setIfInBounds_toArray, List.set_cons_zero, List.set_cons_succ])
       | (refine reg_off (by rfl) (by rfl) ?_; simp only [Act.put, List.setIfInBounds_toArray, List.set_cons_zero, List.set_cons_succ])
       | (refine reg_pure_on (v := ?_) rfl (by rfl) ?_ ?_; rotate_left 1; (· (intro W; go_simp <;> with_reducible rfl)); simp only [Act.put, List.setIfInBounds_toArray, List.set_cons_zero, List.set_cons_succ])
       | (refine reg_read_on (v := ?_) rfl (by rfl) ?_ ?_; rotate_left 1; (· (intro W hW; skip; go_simp <;> with_reducible rfl)); simp only [Act.put, List.setIfInBounds_toArray, List.set_cons_zero, List.set_cons_succ])
    refine reg_eff (by rfl) (by rfl) (fun K hK => ?_)
    go_simp
    refine hK _ _ (reg_done (qnp_normal ?_))
    clear hK K
    have hIc : Img ((w.setCell ⟨d.gn, d.on + n * 3, none⟩ (.bool true)).setCell ⟨d.gn, d.on + n * 3 + 1, none⟩ (.int .i64 times)).drew d nds2 L next count := hIb.out
    have hmc := hmb.out.drew
    generalize ((w.setCell ⟨d.gn, d.on + n * 3, none⟩ (.bool true)).setCell ⟨d.gn, d.on + n * 3 + 1, none⟩ (.int .i64 times)).drew = w2 at *
    clear hIb hmb cwa fa c0 c1 c2 fn
    have cb2 := cellOf hIc.1
    have lb2 := ltOf hIc.1
    rw [hPl.out] at cb2 hpcap
    have hPb : P.length ≤ 9223372036854775807 := by have := hpcap; unfold maxLen at this; omega
    clear cb lb
    go_wp2_with fail
    go_loopw [39] (fun s39 wr => ∃ (k : Nat) (Lr : List Pt), k ≤ P.length ∧ s39 = .int .i64 k ∧ Hid (Upto (joinP nds2 n) P k Lr) ∧ Hid (Img wr d nds2 Lr next count) ∧ Mods d.A w wr) (fun s39 _ => P.length - (intOf s39).toNat)
    case atStart => exact ⟨0, L, by omega, rfl, hU0, Lib.hid hIc, hmc⟩
    case round =>
      clear cb2 lb2 hIc hmc hU0 w2
      obtain ⟨k, Lr, hk, rfl, hU, hI, hmw⟩ := hrel
      have hLl := hU.out.len hk
      by_cases hlt : k < P.length
      · obtain ⟨p, hp⟩ : ∃ p, Lr[k]? = some p := ⟨_, List.getElem?_eq_getElem (by omega)⟩
        have hpt := (hI.out.2.2.1.2.1 p (List.mem_of_getElem? hp)).1
        have hok := hI.out.2.2.1.2.2.1 p (List.mem_of_getElem? hp)
        have cb := cellOf hI.out.1
        have lb := ltOf hI.out.1
        rw [hLl] at cb
        obtain ⟨p0, -, -, p3, -, -⟩ := hI.out.2.2.1.cells hp
        have lp := hI.out.2.2.1.1.ltAt
        have hel := elect_walk wr d nds2 Lr next count k p hI.out hp
        have k0 : (0 : Int) ≤ (k : Int) := by omega
        have k1 : (k : Int) < (P.length : Int) := by omega
        have hskip : Hid (p.pl = joinP nds2 n p.pl → Upto (joinP nds2 n) P (k + 1) Lr) := Lib.hid (fun hq => hU.out.skip hp hlt hq)
        have hstep : Hid (elP nds2 p.pl = joinP nds2 n p.pl → Upto (joinP nds2 n) P (k + 1) (Lr.set k { p with pl := elP nds2 p.pl })) := Lib.hid (fun hq => hU.out.step hp hlt hq)
        have hli := hok.li
        have hcon := contains_walk wr p.ai.1 p.ai.2 p.pl.isr n (by omega) hpt.1
        obtain ⟨⟨lead, ep, ver, isr, rep, tar⟩, ⟨la, lc⟩, ⟨ra, rc⟩, ⟨ta, tc⟩⟩ := p
        unfold Pt.vi at p3
        dsimp only at *
        clear hpt hok hU
        replace hp := Lib.hid hp
        replace hLl := Lib.hid hLl
        have hltH := Lib.hid hlt
        by_cases hl : lead = (n : Int)
        · have hj : Hid (joinP nds2 n ⟨lead, ep, ver, isr, rep, tar⟩ = elP nds2 ⟨lead, ep, ver, isr, rep, tar⟩) := Lib.hid (by rw [joinP, if_pos (.inl hl)])
          have hlb : (lead == (n : Int)) = true := by simpa using hl
          clear hcon
          replace hl := Lib.hid hl
          go_wp2_with (go_at_call 66; refine hel.mono ?_; rintro e w3 ⟨rfl, hI3, hm3⟩)
          exact ⟨⟨k + 1, _, hltH.out, by go_num, Lib.hid (hstep.out hj.out.symm), Lib.hid hI3, hmw.trans hm3 (fun i _ hi => .inr (.inr (.inl hi)))⟩, by have := hltH.out; simp [intOf]; omega⟩
        · have hlb : (lead == (n : Int)) = false := by simpa using hl
          by_cases hneg : lead < 0
          · obtain ⟨tb, htb⟩ : ∃ tb, tb = isr.contains (n : Int) := ⟨_, rfl⟩
            rw [← htb] at hcon
            have hj : Hid (joinP nds2 n ⟨lead, ep, ver, isr, rep, tar⟩ = if tb = true then elP nds2 ⟨lead, ep, ver, isr, rep, tar⟩ else ⟨lead, ep, ver, isr, rep, tar⟩) := Lib.hid (by
              unfold joinP
              dsimp only
              rw [htb]
              cases isr.contains (n : Int) <;> simp [hl, hneg])
            replace hl := Lib.hid hl
            replace htb := Lib.hid htb
            cases tb with
            | true =>
              go_wp2_with (first | (go_at_call 65; refine hcon.mono ?_; rintro e w' ⟨rfl, rfl⟩) | (go_at_call 66; refine hel.mono ?_; rintro e w3 ⟨rfl, hI3, hm3⟩))
              exact ⟨⟨k + 1, _, hltH.out, by go_num, Lib.hid (hstep.out hj.out.symm), Lib.hid hI3, hmw.trans hm3 (fun i _ hi => .inr (.inr (.inl hi)))⟩, by have := hltH.out; simp [intOf]; omega⟩
            | false =>
              go_wp2_with (first | (go_at_call 65; refine hcon.mono ?_; rintro e w' ⟨rfl, rfl⟩))
              exact ⟨⟨k + 1, Lr, hltH.out, by go_num, Lib.hid (hskip.out hj.out.symm), hI, hmw⟩, by have := hltH.out; simp [intOf]; omega⟩
          · have hj : Hid (joinP nds2 n ⟨lead, ep, ver, isr, rep, tar⟩ = ⟨lead, ep, ver, isr, rep, tar⟩) := Lib.hid (by
              unfold joinP
              dsimp only
              rw [if_neg (by simp [hl, hneg])])
            replace hl := Lib.hid hl
            clear hcon hel
            go_wp2
            exact ⟨⟨k + 1, Lr, hltH.out, by go_num, Lib.hid (hskip.out hj.out.symm), hI, hmw⟩, by have := hltH.out; simp [intOf]; omega⟩
      · obtain rfl : k = P.length := by omega
        have hall := Lib.hid hU.out.all
        clear hlt hU hLl
        go_wp2
        go_ret
        exact ⟨hmw, rfl, Lr, hI.out, hall.out⟩
end Go.Proofs.Ytnnoicacpcahfaa
