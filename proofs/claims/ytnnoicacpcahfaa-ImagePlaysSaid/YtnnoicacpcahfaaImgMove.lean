/- (*Image).move, walked. No condition. -/
import Derived.Test.YtnnoicacpcahfaaImgFence
namespace Go.Proofs.Ytnnoicacpcahfaa
open Go.RowKit

def moveE (n : Nat) (l : List Int) (p : Pl) : Int := if rises n l = true then (if p.tar = [] then 0 else 16) else 1
def moveP (nds : List Nd) (l : List Int) (p : Pl) : Pl := settleP nds { p with tar := l }
def isrOk (nds : List Nd) (l : List Int) (p : Pl) : Bool := l.all fun n => (p.rep.contains n || p.tar.contains n) && (p.isr.contains n || isUp nds n)
def isrE (nds : List Nd) (node ep ver : Int) (l : List Int) (p : Pl) : Int :=
  if rises nds.length l = true then
    if p.lead < 0 ∨ ep ≠ p.ep ∨ node ≠ p.lead ∨ ver ≠ p.ver then 12
    else if l.contains p.lead = true then (if isrOk nds l p = true then 0 else 5) else 5
  else 1
def isrP (nds : List Nd) (l : List Int) (p : Pl) : Pl := settleP nds { p with isr := l, ver := w64 (p.ver + 1) }

theorem rises_in {n : Nat} {l : List Int} (h : rises n l = true) : ∀ x ∈ l, 0 ≤ x ∧ x < n := by
  simp only [rises, Bool.and_eq_true] at h
  exact risesFrom_in h.2 (by omega)

/-- A new target. -/
theorem Img.aim {w : World} {d : Ad} {nds : List Nd} {L : List Pt} {next count : Int} {k : Nat} {lead ep ver : Int} {isr rep tar l : List Int} {la ra ta na : Option Addr} {lc rc tc nc : Nat} (h : Img w d nds L next count) (hk : L[k]? = some ⟨⟨lead, ep, ver, isr, rep, tar⟩, (la, lc), (ra, rc), (ta, tc)⟩) (hN : Il w d.F (na, nc) l)
    (hr : l.length * 8 ≤ 140737488355328) (hx : ∀ x ∈ l, 0 ≤ x ∧ x < nds.length) :
    Img (w.setCell ⟨d.gp, d.op + k * 6 + 5, none⟩ (.slice na l.length nc)) d nds (L.set k ⟨⟨lead, ep, ver, isr, rep, l⟩, (la, lc), (ra, rc), (na, nc)⟩) next count := by
  have hpt1 := h.2.2.1.2.1 _ (List.mem_of_getElem? hk)
  have hok1 := h.2.2.1.2.2.1 _ (List.mem_of_getElem? hk)
  exact h.setPart (p' := ⟨⟨lead, ep, ver, isr, rep, l⟩, (la, lc), (ra, rc), (na, nc)⟩) (u := .slice na l.length nc) hk (j := 5) (by omega) rfl ⟨hpt1.1, hpt1.2.1, hN⟩
    ⟨hok1.lead, hok1.li, hok1.lr, hr, hok1.isr, hx⟩

set_option maxRecDepth 100000 in
set_option maxHeartbeats 6400000 in
theorem move_walk (w : World) (d : Ad) (nds : List Nd) (L : List Pt) (next count : Int) (k : Nat) (p : Pt) (kind node ep' ver' : Int) (xa : Option Addr) (xc : Nat) (l : List Int) (h : Img w d nds L next count) (hk : L[k]? = some p)
    (hlen : l.length * 8 ≤ 140737488355328) (hs : Sl w 3 1 (.slice xa l.length xc) l.length (ints l)) :
    Calls Try.prog 44 #[.pointer (some ⟨d.b, 0, none⟩), .agg #[.int .i64 kind, .int .i64 node, .int .i64 k, .int .i64 ep', .int .i64 ver', .slice xa l.length xc]] w
      fun e w' => e = .returned (.int .i64 (moveE nds.length l p.pl)) ∧ Mods d.A w w' ∧ ∃ L', Img w' d nds L' next count ∧ L'.map Pt.pl = if moveE nds.length l p.pl = 0 then (L.map Pt.pl).set k (moveP nds l p.pl) else L.map Pt.pl := by
  have hkl : k < L.length := (List.getElem?_eq_some_iff.1 hk).1
  have hm0 : Mods Nil w (w.alloc (.cells #[.int .i64 kind, .int .i64 node, .int .i64 k, .int .i64 ep', .int .i64 ver', .slice xa l.length xc] 61)) := Mods.refl.alloc _
  have hbx := heap_new w (.cells #[.int .i64 kind, .int .i64 node, .int .i64 k, .int .i64 ep', .int .i64 ver', .slice xa l.length xc] 61)
  have h1 := h.keepNil hm0
  have hs1 := slKeep hs hm0 (fun _ _ => id)
  have cx := cellOf hbx
  have lx := ltOf hbx
  have hso := sorted_walk _ d nds L next count xa xc l h1 hlen hs1
  obtain ⟨tb, htb⟩ : ∃ tb, tb = rises nds.length l := ⟨_, rfl⟩
  rw [← htb] at hso
  cases tb with
  | false =>
    have hE : moveE nds.length l p.pl = 1 := by rw [moveE, ← htb]; rfl
    rw [hE]
    simp only [show ¬ (1 : Int) = 0 by omega, if_false]
    have res := Lib.hid h1
    have hmr := Lib.hid (hm0.mono (S' := d.A) (fun _ h => h.elim))
    clear h h1 hbx hs hs1 htb hE hk hm0
    go_enter Try.func44, Try.ntmps44
    go_wp2_with (go_at_call 70; refine hso.mono ?_; rintro e w' ⟨rfl, rfl⟩)
    go_ret
    exact ⟨rfl, hmr.out, L, res.out, rfl⟩
  | true =>
    obtain ⟨⟨lead, ep, ver, isr, rep, tar⟩, ⟨la, lc⟩, ⟨ra, rc⟩, ⟨ta, tc⟩⟩ := p
    have cb := cellOf h1.1
    have lb := ltOf h1.1
    obtain ⟨-, -, -, -, -, c5⟩ := h1.2.2.1.cells hk
    have lp := h1.2.2.1.1.ltAt
    have hpcap := h1.2.2.1.1.capAt.1
    unfold Pt.vt at c5
    dsimp only at *
    have k0 : (0 : Int) ≤ (k : Int) := by omega
    have k1 : (k : Int) < (L.length : Int) := by omega
    by_cases ht : tar = []
    · have hE : moveE nds.length l ⟨lead, ep, ver, isr, rep, tar⟩ = 0 := by rw [moveE, if_pos htb.symm, if_pos ht]
      rw [hE]
      simp only [if_true]
      have hn : tar.length = 0 := by rw [ht]; rfl
      rw [hn] at c5
      have hx := rises_in htb.symm
      have hnil := Lib.hid ht
      clear hn hE ht
      replace h1 := Lib.hid h1
      replace hs1 := Lib.hid hs1
      replace hbx := Lib.hid hbx
      replace hm0 := Lib.hid hm0
      replace htb := Lib.hid htb
      replace hx := Lib.hid hx
      replace hk := Lib.hid hk
      clear h hs
      go_enter Try.func44, Try.ntmps44
      go_upto_region 3 with (go_at_call 70; refine hso.mono ?_; rintro e w' ⟨rfl, hw'⟩; have hw'' := hw'.symm; subst hw'')
      clear hso
      generalize w.alloc (.cells #[.int .i64 kind, .int .i64 node, .int .i64 k, .int .i64 ep', .int .i64 ver', .slice xa l.length xc] 61) = w1 at *
      generalize w.heap.size = B at *
      refine wp_region_plan [(.pure, 0), (.pure, 1), (.pure, 2), (.read, 3), (.pure, 4), (.read, 5), (.pure, 6), (.pure, 7)] 8 (fun W => Mods Nil _ W) mixed (by kernel_rfl) (by kernel_rfl) Mods.refl.drew ?_
      repeat first
         | (refine reg_pure (v := ?_) rfl rfl ?_ ?_; rotate_left 1; (· (intro W; go_simp <;> with_reducible rfl)); simp only [Act.put, List.setIfInBounds_toArray, List.set_cons_zero, List.set_cons_succ])
         | (refine reg_read (v := ?_) rfl rfl ?_ ?_; rotate_left 1; (· (intro W hW; have hW' := Mods.cells hW; go_simp <;> with_reducible rfl)); simp only [Act.put, List.setIfInBounds_toArray, List.set_cons_zero, List.set_cons_succ])
         | (refine reg_off (by rfl) (by rfl) ?_; simp only [Act.put, List.setIfInBounds_toArray, List.set_cons_zero, List.set_cons_succ])
         | (refine reg_pure_on (v := ?_) rfl (by rfl) ?_ ?_; rotate_left 1; (· (intro W; go_simp <;> with_reducible rfl)); simp only [Act.put, List.setIfInBounds_toArray, List.set_cons_zero, List.set_cons_succ])
         | (refine reg_read_on (v := ?_) rfl (by rfl) ?_ ?_; rotate_left 1; (· (intro W hW; have hW' := Mods.cells hW; go_simp <;> with_reducible rfl)); simp only [Act.put, List.setIfInBounds_toArray, List.set_cons_zero, List.set_cons_succ])
      refine reg_done (qnp_normal ?_)
      have hI2 : Img w1.drew d nds L next count := h1.out
      have hs2 : Sl w1.drew 3 1 (.slice xa l.length xc) l.length (ints l) := hs1.out
      have hm2 : Mods Nil w w1.drew := hm0.out.drew
      have hbx2 : w1.drew.heap[B]? = some (.cells #[.int .i64 kind, .int .i64 node, .int .i64 k, .int .i64 ep', .int .i64 ver', .slice xa l.length xc] 61 (0, 0)) := hbx.out
      clear cx lx cb lb c5 lp hbx h1 hs1 hm0
      generalize w1.drew = w2 at *
      clear w1
      obtain ⟨-, -, -, -, -, c5⟩ := hI2.2.2.1.cells hk.out
      have lp := hI2.2.2.1.1.ltAt
      have cx := cellOf hbx2
      unfold Pt.vt at c5
      dsimp only at c5
      have hcl := clone_walk w2 xa xc l hlen hs2
      have hAl := hI2.ltF
      replace hI2 := Lib.hid hI2
      replace hs2 := Lib.hid hs2
      replace hm2 := Lib.hid hm2
      replace hbx2 := Lib.hid hbx2
      have hn0 : Hid (tar = []) := hnil
      rw [hn0.out] at c5
      simp only [List.length_nil] at c5
      go_upto_region 7 with (go_at_call 39; refine hcl.mono ?_; rintro e w3 ⟨na, nc, rfl, hN, hm3⟩; have c53 := (hm3.cell lp id (d.op + k * 6 + 5)).trans c5; have f53 := (hI2.out.keepNil hm3).2.2.1.1.frzAt; have l53 := hm3.lt lp)
      have hN3 : Il w3 d.F (na, nc) l := Il.of_new hN hAl
      have hI4 := (hI2.out.keepNil hm3).aim hk.out hN3 hlen hx.out
      have hm4 : Mods d.A w (w3.setCell ⟨d.gp, d.op + k * 6 + 5, none⟩ (.slice na l.length nc)) := ((hm2.out.trans hm3 (fun _ _ h => h)).mono (S' := d.A) (fun _ h => h.elim)).setCell (a := ⟨d.gp, d.op + k * 6 + 5, none⟩) _ (fun _ => .inr (.inr (.inl rfl)))
      clear hN hN3 hm3 c53 f53 l53 hcl
      generalize w3.setCell ⟨d.gp, d.op + k * 6 + 5, none⟩ (.slice na l.length nc) = w4 at *
      have hk4 := get_set_same (a := (⟨⟨lead, ep, ver, isr, rep, l⟩, (la, lc), (ra, rc), (na, nc)⟩ : Pt)) hk.out
      have hset := settle_walk w4 d nds _ next count k _ hI4 hk4
      replace hI4 := Lib.hid hI4
      replace hm4 := Lib.hid hm4
      replace hk4 := Lib.hid hk4
      go_wp2_with (go_at_call 71; refine hset.mono ?_; rintro e w5 ⟨rfl, ⟨p5, hp5, hI5⟩, hm5⟩)
      go_ret
      refine ⟨rfl, hm4.out.trans hm5 (fun i _ hi => .inr (.inr (.inl hi))), _, hI5, ?_⟩
      rw [set_set_same, List.map_set, hp5]
      rfl
    · have hE : moveE nds.length l ⟨lead, ep, ver, isr, rep, tar⟩ = 16 := by rw [moveE, if_pos htb.symm, if_neg ht]
      rw [hE]
      simp only [show ¬ (16 : Int) = 0 by omega, if_false]
      have hpos : 0 < tar.length := by cases tar <;> simp at ht ⊢
      have res := Lib.hid h1
      have hmr := Lib.hid (hm0.mono (S' := d.A) (fun _ h => h.elim))
      clear h h1 hbx hs hs1 htb hE hk hm0 ht
      go_enter Try.func44, Try.ntmps44
      go_upto_region 3 with (go_at_call 70; refine hso.mono ?_; rintro e w' ⟨rfl, hw'⟩; have hw'' := hw'.symm; subst hw'')
      clear hso
      generalize w.alloc (.cells #[.int .i64 kind, .int .i64 node, .int .i64 k, .int .i64 ep', .int .i64 ver', .slice xa l.length xc] 61) = w1 at *
      generalize w.heap.size = B at *
      refine wp_region_plan [(.pure, 0), (.pure, 1), (.pure, 2), (.read, 3), (.pure, 4), (.read, 5), (.pure, 6), (.pure, 7)] 8 (fun W => Mods Nil _ W) mixed (by kernel_rfl) (by kernel_rfl) Mods.refl.drew ?_
      repeat first
         | (refine reg_pure (v := ?_) rfl rfl ?_ ?_; rotate_left 1; (· (intro W; go_simp <;> with_reducible rfl)); simp only [Act.put, List.setIfInBounds_toArray, List.set_cons_zero, List.set_cons_succ])
         | (refine reg_read (v := ?_) rfl rfl ?_ ?_; rotate_left 1; (· (intro W hW; have hW' := Mods.cells hW; go_simp <;> with_reducible rfl)); simp only [Act.put, List.setIfInBounds_toArray, List.set_cons_zero, List.set_cons_succ])
         | (refine reg_off (by rfl) (by rfl) ?_; simp only [Act.put, List.setIfInBounds_toArray, List.set_cons_zero, List.set_cons_succ])
         | (refine reg_pure_on (v := ?_) rfl (by rfl) ?_ ?_; rotate_left 1; (· (intro W; go_simp <;> with_reducible rfl)); simp only [Act.put, List.setIfInBounds_toArray, List.set_cons_zero, List.set_cons_succ])
         | (refine reg_read_on (v := ?_) rfl (by rfl) ?_ ?_; rotate_left 1; (· (intro W hW; have hW' := Mods.cells hW; go_simp <;> with_reducible rfl)); simp only [Act.put, List.setIfInBounds_toArray, List.set_cons_zero, List.set_cons_succ])
      refine reg_done (qnp_normal ?_)
      go_wp2
      go_ret
      exact ⟨rfl, hmr.out.drew, L, res.out, rfl⟩
end Go.Proofs.Ytnnoicacpcahfaa
