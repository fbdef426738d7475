/- (*Image).fence, walked. No condition. -/
import Derived.Test.YtnnoicacpcahfaaImgJoin
namespace Go.Proofs.Ytnnoicacpcahfaa
open Go.RowKit

/-- A shorter list of those in sync. -/
theorem Img.rest {w : World} {d : Ad} {nds : List Nd} {L : List Pt} {next count : Int} {k : Nat} {lead ep ver : Int} {isr rep tar rest : List Int} {la ra ta na : Option Addr} {lc rc tc nc : Nat} (h : Img w d nds L next count) (hk : L[k]? = some ⟨⟨lead, ep, ver, isr, rep, tar⟩, (la, lc), (ra, rc), (ta, tc)⟩) (hN : Il w d.F (na, nc) rest)
    (hr : rest.length * 8 ≤ 140737488355328) (hx : ∀ x ∈ rest, 0 ≤ x ∧ x < nds.length) :
    Img ((w.setCell ⟨d.gp, d.op + k * 6 + 3, none⟩ (.slice na rest.length nc)).setCell ⟨d.gp, d.op + k * 6 + 2, none⟩ (.int .i64 (w64 (ver + 1)))) d nds (L.set k ⟨⟨lead, ep, w64 (ver + 1), rest, rep, tar⟩, (na, nc), (ra, rc), (ta, tc)⟩) next count ∧
    w.cell? ⟨d.gp, d.op + k * 6 + 3, none⟩ = some (.slice la isr.length lc) ∧
    (w.setCell ⟨d.gp, d.op + k * 6 + 3, none⟩ (.slice na rest.length nc)).cell? ⟨d.gp, d.op + k * 6 + 2, none⟩ = some (.int .i64 ver) ∧
    (∀ o, w.frozen? ⟨d.gp, o, none⟩ = false) ∧ (∀ o, (w.setCell ⟨d.gp, d.op + k * 6 + 3, none⟩ (.slice na rest.length nc)).frozen? ⟨d.gp, o, none⟩ = false) := by
  have hpt1 := h.2.2.1.2.1 _ (List.mem_of_getElem? hk)
  have hok1 := h.2.2.1.2.2.1 _ (List.mem_of_getElem? hk)
  have hIb := h.setPart (p' := ⟨⟨lead, ep, ver, rest, rep, tar⟩, (na, nc), (ra, rc), (ta, tc)⟩) (u := .slice na rest.length nc) hk (j := 3) (by omega) rfl ⟨hN, hpt1.2.1, hpt1.2.2⟩
    ⟨hok1.lead, hr, hok1.lr, hok1.lt, hx, hok1.tar⟩
  have hkb := get_set_same (a := (⟨⟨lead, ep, ver, rest, rep, tar⟩, (na, nc), (ra, rc), (ta, tc)⟩ : Pt)) hk
  have hptb := hIb.2.2.1.2.1 _ (List.mem_of_getElem? hkb)
  have hIc := hIb.setPart (p' := ⟨⟨lead, ep, w64 (ver + 1), rest, rep, tar⟩, (na, nc), (ra, rc), (ta, tc)⟩) (u := .int .i64 (w64 (ver + 1))) hkb (j := 2) (by omega) rfl hptb
    ⟨hok1.lead, hr, hok1.lr, hok1.lt, hx, hok1.tar⟩
  rw [set_set_same] at hIc
  obtain ⟨-, -, -, ca, -, -⟩ := h.2.2.1.cells hk
  obtain ⟨-, -, cb, -, -, -⟩ := hIb.2.2.1.cells hkb
  exact ⟨hIc, ca, cb, h.2.2.1.1.frzAt, hIb.2.2.1.1.frzAt⟩

theorem heap_ne {g B : Nat} {w w' : World} {o : Obj} (hm : Mods (fun i => i = g) w w') (hne : B ≠ g) (h : w.heap[B]? = some o) : w'.heap[B]? = some o := hm.keep h hne

set_option maxRecDepth 100000 in
set_option maxHeartbeats 6400000 in
theorem fence_walk (w : World) (d : Ad) (nds : List Nd) (L : List Pt) (next count : Int) (n : Nat) (x : Nd) (h : Img w d nds L next count) (hn : nds[n]? = some x) :
    Calls Try.prog 42 #[.pointer (some ⟨d.b, 0, none⟩), .int .i64 n] w
      fun e w' => Mods d.A w w' ∧ if x.alive = false then e = .returned (.int .i64 4) ∧ Img w' d nds L next count
        else e = .returned (.int .i64 0) ∧ ∃ L', Img w' d (nds.set n { x with alive := false }) L' next count ∧ L'.map Pt.pl = (L.map Pt.pl).map (goneP (nds.set n { x with alive := false }) n) := by
  have hnl : n < nds.length := (List.getElem?_eq_some_iff.1 hn).1
  have hAl := h.lt
  have hm0 : Mods Nil w (w.alloc (.cells #[.pointer (some ⟨d.b, 0, none⟩)] 53)) := Mods.refl.alloc _
  have hbx := heap_new w (.cells #[.pointer (some ⟨d.b, 0, none⟩)] 53)
  have h1 := h.keepNil hm0
  have cb := cellOf h1.1
  have lb := ltOf h1.1
  have hcap := h1.2.1.capAt.1
  have hpcap := h1.2.2.1.1.capAt
  obtain ⟨c0, -, -⟩ := h1.nodeCells hn
  have ln := h1.2.1.ltAt
  have fn := h1.2.1.frzAt
  have i0 : (0 : Int) ≤ (n : Int) := by omega
  have i1 : (n : Int) < (nds.length : Int) := by omega
  have hbA : ¬ d.A w.heap.size := fun hA => by have := hAl _ hA; omega
  obtain ⟨al, cm, bk⟩ := x
  cases al with
  | false =>
    simp only [if_true]
    have res : Hid (Img (w.alloc (.cells #[.pointer (some ⟨d.b, 0, none⟩)] 53)) d nds L next count) := Lib.hid h1
    clear h h1 hbx
    replace hm0 := Lib.hid (hm0.mono (S' := d.A) (fun _ h => h.elim))
    go_enter Try.func42, Try.ntmps42
    go_wp2
    go_ret
    exact ⟨hm0.out, rfl, res.out⟩
  | true =>
    simp only [Bool.true_eq_false, if_false]
    have hIb := h1.setNode (x' := ⟨false, cm, bk⟩) (u := .bool false) hn (j := 0) (by omega) rfl
    rw [Nat.add_zero] at hIb
    have hmb : Mods d.A w ((w.alloc (.cells #[.pointer (some ⟨d.b, 0, none⟩)] 53)).setCell ⟨d.gn, d.on + n * 3, none⟩ (.bool false)) := (hm0.mono (S' := d.A) (fun _ h => h.elim)).setCell (a := ⟨d.gn, d.on + n * 3, none⟩) _ (fun _ => .inr (.inl rfl))
    have hbx2 : ((w.alloc (.cells #[.pointer (some ⟨d.b, 0, none⟩)] 53)).setCell ⟨d.gn, d.on + n * 3, none⟩ (.bool false)).heap[w.heap.size]? = some (.cells #[.pointer (some ⟨d.b, 0, none⟩)] 53 (0, 0)) :=
      (heap_setCell_ne (a := ⟨d.gn, d.on + n * 3, none⟩) (fun e => hbA (.inr (.inl e))) _).trans hbx
    generalize hnds : nds.set n ⟨false, cm, bk⟩ = nds2 at *
    have hl2 : nds2.length = nds.length := by rw [← hnds]; simp
    obtain ⟨P, hP⟩ : ∃ P, P = L.map Pt.pl := ⟨_, rfl⟩
    have hPl : L.length = P.length := by rw [hP]; simp
    have hU0 : Upto (goneP nds2 n) P 0 L := by rw [hP]; exact Upto.zero _ _
    rw [← hP]
    have hPb : P.length ≤ 9223372036854775807 := by have := hpcap; unfold maxLen at this; omega
    replace hP := Lib.hid hP
    replace hPl := Lib.hid hPl
    replace hU0 := Lib.hid hU0
    replace hIb := Lib.hid hIb
    replace hmb := Lib.hid hmb
    replace hbx2 := Lib.hid hbx2
    clear h h1 hnds hn
    go_enter Try.func42, Try.ntmps42
    go_upto_region 4 with fail
    clear hbx hm0 c0 fn cb lb hAl
    generalize (w.alloc (.cells #[.pointer (some ⟨d.b, 0, none⟩)] 53)).setCell ⟨d.gn, d.on + n * 3, none⟩ (.bool false) = w2 at *
    have hbp := Lib.hid (fun e : w.heap.size = d.gp => hbA (.inr (.inr (.inl e))))
    generalize w.heap.size = B at *
    have cb2 := cellOf hIb.out.1
    have lb2 := ltOf hIb.out.1
    have cx2 := cellOf hbx2.out
    have lx2 := ltOf hbx2.out
    rw [hPl.out] at cb2
    go_wp2_with fail
    go_loopw [29] (fun s29 wr => ∃ (k : Nat) (Lr : List Pt), k ≤ P.length ∧ s29 = .int .i64 k ∧ Hid (Upto (goneP nds2 n) P k Lr) ∧ Hid (Img wr d nds2 Lr next count) ∧ Hid (wr.heap[B]? = some (.cells #[.pointer (some ⟨d.b, 0, none⟩)] 53 (0, 0))) ∧ Hid (Mods d.A w wr)) (fun s29 _ => P.length - (intOf s29).toNat)
    case atStart => exact ⟨0, L, by omega, rfl, hU0, hIb, hbx2, hmb⟩
    case round =>
      clear cb2 lb2 cx2 lx2 hIb hbx2 hmb hU0 w2
      obtain ⟨k, Lr, hk, rfl, hU, hI, hbx, hmw⟩ := hrel
      have hLl := hU.out.len hk
      by_cases hlt : k < P.length
      · obtain ⟨p, hp⟩ : ∃ p, Lr[k]? = some p := ⟨_, List.getElem?_eq_getElem (by omega)⟩
        have hpt := (hI.out.2.2.1.2.1 p (List.mem_of_getElem? hp)).1
        have hok := hI.out.2.2.1.2.2.1 p (List.mem_of_getElem? hp)
        have cb := cellOf hI.out.1
        have lb := ltOf hI.out.1
        have cx := cellOf hbx.out
        have lx := ltOf hbx.out
        rw [hLl] at cb
        obtain ⟨p0, -, p2, p3, -, -⟩ := hI.out.2.2.1.cells hp
        have lp := hI.out.2.2.1.1.ltAt
        have k0 : (0 : Int) ≤ (k : Int) := by omega
        have k1 : (k : Int) < (P.length : Int) := by omega
        have hskip : Hid (p.pl = goneP nds2 n p.pl → Upto (goneP nds2 n) P (k + 1) Lr) := Lib.hid (fun hq => hU.out.skip hp hlt hq)
        have hstep : Hid (∀ p' : Pt, p'.pl = goneP nds2 n p.pl → Upto (goneP nds2 n) P (k + 1) (Lr.set k p')) := Lib.hid (fun p' hq => hU.out.step hp hlt hq)
        have hli := hok.li
        have hin := hok.isr
        have hcon := contains_walk wr p.ai.1 p.ai.2 p.pl.isr n (by omega) hpt.1
        have hwo := without_walk wr p.ai.1 p.ai.2 p.pl.isr n hli hpt.1
        obtain ⟨⟨lead, ep, ver, isr, rep, tar⟩, ⟨la, lc⟩, ⟨ra, rc⟩, ⟨ta, tc⟩⟩ := p
        unfold Pt.vi at p3
        dsimp only at *
        clear hpt hok hU
        replace hp := Lib.hid hp
        replace hLl := Lib.hid hLl
        replace hin := Lib.hid hin
        have hltH := Lib.hid hlt
        obtain ⟨tb, htb⟩ : ∃ tb, tb = isr.contains (n : Int) := ⟨_, rfl⟩
        rw [← htb] at hcon
        cases tb with
        | false =>
          have hj : Hid (goneP nds2 n ⟨lead, ep, ver, isr, rep, tar⟩ = ⟨lead, ep, ver, isr, rep, tar⟩) := Lib.hid (by rw [goneP, if_neg (by rw [← htb]; simp)])
          clear hwo
          replace htb := Lib.hid htb
          go_wp2_with (go_at_call 65; refine hcon.mono ?_; rintro e w' ⟨rfl, rfl⟩)
          exact ⟨⟨k + 1, Lr, hltH.out, by go_num, Lib.hid (hskip.out hj.out.symm), hI, hbx, hmw⟩, by have := hltH.out; simp [intOf]; omega⟩
        | true =>
          obtain ⟨rest, hrest⟩ : ∃ rest, rest = isr.filter (fun x => !(x == (n : Int))) := ⟨_, rfl⟩
          rw [← hrest] at hwo
          have hrl : rest.length ≤ isr.length := by rw [hrest]; exact List.length_filter_le ..
          have hrx : Hid (∀ x ∈ rest, 0 ≤ x ∧ x < nds2.length) := Lib.hid (fun x hx => hin.out x (by rw [hrest] at hx; exact (List.mem_filter.1 hx).1))
          have hj : Hid (goneP nds2 n ⟨lead, ep, ver, isr, rep, tar⟩ = if lead = (n : Int) then elP nds2 (if rest.any (isUp nds2) = true then ⟨lead, ep, w64 (ver + 1), rest, rep, tar⟩ else ⟨lead, ep, ver, isr, rep, tar⟩) else (if rest.any (isUp nds2) = true then ⟨lead, ep, w64 (ver + 1), rest, rep, tar⟩ else ⟨lead, ep, ver, isr, rep, tar⟩)) := Lib.hid (by
            unfold goneP
            dsimp only
            rw [if_pos htb.symm, ← hrest]
            cases rest.any (isUp nds2) <;> simp)
          obtain ⟨ub, hub⟩ : ∃ ub, ub = rest.any (isUp nds2) := ⟨_, rfl⟩
          rw [← hub] at hj
          replace htb := Lib.hid htb
          replace hrest := Lib.hid hrest
          replace hub := Lib.hid hub
          go_upto_region 10 with (first | (go_at_call 65; refine hcon.mono ?_; rintro e w' ⟨rfl, hw'⟩; have hw'' := hw'.symm; subst hw'') | (go_at_call 67; refine hwo.mono ?_; rintro e w1 ⟨na, nc, rfl, hN, hm1⟩))
          have hI1 := hI.out.keepNil hm1
          have hbx1 := hm1.keep hbx.out id
          have hAl := hI.out.ltF
          have hN1 : Il w1 d.F (na, nc) rest := Il.of_new hN hAl
          have hany := anyUp_walk w1 d nds2 Lr next count B na nc rest hI1 (cellOf hbx1 0) (ltOf hbx1) hrx.out (by omega) hN.1
          rw [← hub.out] at hany
          clear hAl hN hcon hwo cb lb cx lx p0 p2 p3 lp
          have cx1 := cellOf hbx1
          have lx1 := ltOf hbx1
          cases ub with
          | true =>
            go_upto_region 11 with (go_at_call 68; refine hany.mono ?_; rintro e w2 ⟨rfl, hm2⟩)
            have hI2 := hI1.keepNil hm2
            have hbx2 := hm2.keep hbx1 id
            have hN2 := hN1.keep hm2 (fun _ h => h.elim)
            obtain ⟨hId, ca, cc, fa, fb⟩ := hI2.rest hp.out hN2 (by omega) hrx.out
            have lp2 := hI2.2.2.1.1.ltAt
            have hmd : Mods d.A wr ((w2.setCell ⟨d.gp, d.op + k * 6 + 3, none⟩ (.slice na rest.length nc)).setCell ⟨d.gp, d.op + k * 6 + 2, none⟩ (.int .i64 (w64 (ver + 1)))) :=
              (((hm1.trans hm2 (fun _ _ h => h)).mono (S' := d.A) (fun _ h => h.elim)).setCell (a := ⟨d.gp, d.op + k * 6 + 3, none⟩) _ (fun _ => .inr (.inr (.inl rfl)))).setCell (a := ⟨d.gp, d.op + k * 6 + 2, none⟩) _ (fun _ => .inr (.inr (.inl rfl)))
            have hbxd : ((w2.setCell ⟨d.gp, d.op + k * 6 + 3, none⟩ (.slice na rest.length nc)).setCell ⟨d.gp, d.op + k * 6 + 2, none⟩ (.int .i64 (w64 (ver + 1)))).heap[B]? = some (.cells #[.pointer (some ⟨d.b, 0, none⟩)] 53 (0, 0)) :=
              (heap_setCell_ne (a := ⟨d.gp, d.op + k * 6 + 2, none⟩) hbp.out _).trans ((heap_setCell_ne (a := ⟨d.gp, d.op + k * 6 + 3, none⟩) hbp.out _).trans hbx2)
            replace hId := Lib.hid hId
            replace hmd := Lib.hid hmd
            replace hbxd := Lib.hid hbxd
            clear hI1 hbx1 hN1 hI2 hN2 hm1 hm2 hbx2 cx1 lx1 hany
            go_upto_region 13 with fail
            clear ca cc fa fb lp2
            change Code.wp _ _ _ _ ((w2.setCell ⟨d.gp, d.op + k * 6 + 3, none⟩ (.slice na rest.length nc)).setCell ⟨d.gp, d.op + k * 6 + 2, none⟩ (.int .i64 (w64 (ver + 1))))
            generalize (w2.setCell ⟨d.gp, d.op + k * 6 + 3, none⟩ (.slice na rest.length nc)).setCell ⟨d.gp, d.op + k * 6 + 2, none⟩ (.int .i64 (w64 (ver + 1))) = w3 at *
            have hI3 := hId
            have hk3 := Lib.hid (get_set_same (a := (⟨⟨lead, ep, w64 (ver + 1), rest, rep, tar⟩, (na, nc), (ra, rc), (ta, tc)⟩ : Pt)) hp.out)
            obtain ⟨p03, -, -, -, -, -⟩ := hI3.out.2.2.1.cells hk3.out
            dsimp only at p03
            have hbx3 := hbxd
            have hm03 := hmd
            have hj3 := hj
            simp only [Bool.false_eq_true, if_false, if_true] at hj3
            clear hId hbxd hmd
            -- the end of a round, from w3: hI3 (over <LL>), hk3, p03, hbx3, hm3, hj3, hm03
            have hel := elect_walk w3 d nds2 _ next count k _ hI3.out hk3.out
            have cb3 := cellOf hI3.out.1
            have lb3 := ltOf hI3.out.1
            have cx3 := cellOf hbx3.out
            have lx3 := ltOf hbx3.out
            have lp3 := hI3.out.2.2.1.1.ltAt
            by_cases hl : lead = (n : Int)
            · have hlb : (lead == (n : Int)) = true := by simpa using hl
              have hj4 := Lib.hid (hj3.out.trans (if_pos hl))
              replace hl := Lib.hid hl
              go_wp2_with (go_at_call 66; refine hel.mono ?_; rintro e w4 ⟨rfl, hI4, hm4⟩)
              have hm4' : Mods d.A w3 w4 := hm4.mono (fun i hi => .inr (.inr (.inl hi)))
              exact ⟨⟨k + 1, _, hltH.out, by go_num, Lib.hid (hstep.out _ hj4.out.symm), Lib.hid (by simpa using hI4), Lib.hid ((heap_ne hm4 hbp.out hbx3.out)), Lib.hid (hmw.out.trans (hm03.out.trans hm4' (fun _ _ h => h)) (fun _ _ h => h))⟩, by have := hltH.out; simp [intOf]; omega⟩
            · have hlb : (lead == (n : Int)) = false := by simpa using hl
              have hj4 := Lib.hid (hj3.out.trans (if_neg hl))
              replace hl := Lib.hid hl
              clear hel
              go_wp2
              exact ⟨⟨k + 1, _, hltH.out, by go_num, Lib.hid (hstep.out _ hj4.out.symm), hI3, hbx3, Lib.hid (hmw.out.trans hm03.out (fun _ _ h => h))⟩, by have := hltH.out; simp [intOf]; omega⟩
          | false =>
            go_upto_region 13 with (go_at_call 68; refine hany.mono ?_; rintro e w3 ⟨rfl, hm2⟩)
            have hI3 : Hid (Img w3 d nds2 (Lr.set k ⟨⟨lead, ep, ver, isr, rep, tar⟩, (la, lc), (ra, rc), (ta, tc)⟩) next count) := Lib.hid (by rw [set_same hp.out]; exact hI1.keepNil hm2)
            have hk3 := Lib.hid (get_set_same (a := (⟨⟨lead, ep, ver, isr, rep, tar⟩, (la, lc), (ra, rc), (ta, tc)⟩ : Pt)) hp.out)
            have hbx3 := Lib.hid (hm2.keep hbx1 id)
            obtain ⟨p03, -, -, -, -, -⟩ := hI3.out.2.2.1.cells hk3.out
            dsimp only at p03
            have hm03 := Lib.hid ((hm1.trans hm2 (fun _ _ h => h)).mono (S' := d.A) (fun _ h => h.elim))
            have hj3 := hj
            simp only [Bool.false_eq_true, if_false, if_true] at hj3
            clear hI1 hbx1 hN1 hm1 hm2 cx1 lx1 hany
            -- the end of a round, from w3: hI3 (over <LL>), hk3, p03, hbx3, hm3, hj3, hm03
            have hel := elect_walk w3 d nds2 _ next count k _ hI3.out hk3.out
            have cb3 := cellOf hI3.out.1
            have lb3 := ltOf hI3.out.1
            have cx3 := cellOf hbx3.out
            have lx3 := ltOf hbx3.out
            have lp3 := hI3.out.2.2.1.1.ltAt
            by_cases hl : lead = (n : Int)
            · have hlb : (lead == (n : Int)) = true := by simpa using hl
              have hj4 := Lib.hid (hj3.out.trans (if_pos hl))
              replace hl := Lib.hid hl
              go_wp2_with (go_at_call 66; refine hel.mono ?_; rintro e w4 ⟨rfl, hI4, hm4⟩)
              have hm4' : Mods d.A w3 w4 := hm4.mono (fun i hi => .inr (.inr (.inl hi)))
              exact ⟨⟨k + 1, _, hltH.out, by go_num, Lib.hid (hstep.out _ hj4.out.symm), Lib.hid (by simpa using hI4), Lib.hid ((heap_ne hm4 hbp.out hbx3.out)), Lib.hid (hmw.out.trans (hm03.out.trans hm4' (fun _ _ h => h)) (fun _ _ h => h))⟩, by have := hltH.out; simp [intOf]; omega⟩
            · have hlb : (lead == (n : Int)) = false := by simpa using hl
              have hj4 := Lib.hid (hj3.out.trans (if_neg hl))
              replace hl := Lib.hid hl
              clear hel
              go_wp2
              exact ⟨⟨k + 1, _, hltH.out, by go_num, Lib.hid (hstep.out _ hj4.out.symm), hI3, hbx3, Lib.hid (hmw.out.trans hm03.out (fun _ _ h => h))⟩, by have := hltH.out; simp [intOf]; omega⟩
      · obtain rfl : k = P.length := by omega
        have hall := Lib.hid hU.out.all
        clear hlt hU hLl
        go_wp2
        go_ret
        exact ⟨hmw.out, rfl, Lr, hI.out, hall.out⟩
end Go.Proofs.Ytnnoicacpcahfaa
