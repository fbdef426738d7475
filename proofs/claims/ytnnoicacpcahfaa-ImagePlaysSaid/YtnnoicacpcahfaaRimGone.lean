/- The reference's image: gone, walked. No condition. -/
import Derived.Test.YtnnoicacpcahfaaRimSettle
namespace Go.Proofs.Ytnnoicacpcahfaa
open Go.RowKit

def flt (n : Int) (l : List Int) (i : Nat) : List Int := (l.take i).filter fun x => !(x == n)
theorem flt_succ {n : Int} {l : List Int} {i : Nat} {y : Int} (h : l[i]? = some y) : flt n l (i + 1) = if y = n then flt n l i else flt n l i ++ [y] := by
  obtain ⟨hl, rfl⟩ := List.getElem?_eq_some_iff.1 h
  unfold flt
  rw [List.take_succ_eq_append_getElem hl, List.filter_append]
  by_cases hy : l[i] = n <;> simp [hy]
theorem flt_len (n : Int) (l : List Int) (i : Nat) : (flt n l i).length ≤ i := by
  unfold flt
  exact Nat.le_trans (List.length_filter_le ..) (by simp; omega)
theorem flt_all (n : Int) (l : List Int) : flt n l l.length = l.filter fun x => !(x == n) := by unfold flt; rw [List.take_length]

set_option maxRecDepth 100000 in
set_option maxHeartbeats 6400000 in
theorem rgone_walk (w : World) (d : RAd) (nds : List Nd) (L : List Pt) (next count : Int) (k : Nat) (n : Int) (p : Pt) (h : RImg w d nds L next count) (hk : L[k]? = some p) :
    Calls Try.prog 49 #[.pointer (some ⟨d.b, 0, none⟩), .int .i64 k, .int .i64 n] w
      fun e w' => e = .returned (.tuple #[]) ∧ (∃ p', p'.pl = goneP nds n p.pl ∧ RImg w' d nds (L.set k p') next count) ∧ Mods (fun i => i = d.gp) w w' := by
  have hkl : k < L.length := (List.getElem?_eq_some_iff.1 hk).1
  have hok := h.pts.2.2.1 p (List.mem_of_getElem? hk)
  have hpt := h.pts.2.1 p (List.mem_of_getElem? hk)
  have hbA : ∀ i, d.A i → i < w.heap.size := h.lt
  obtain ⟨c0, c1, c2, c3, c4, c5⟩ := h.pts.cells hk
  have lp := h.pts.1.ltAt
  have hpcap := h.pts.1.capAt.1
  have cb := cellOf h.box
  have lb := ltOf h.box
  have k0 : (0 : Int) ≤ (k : Int) := by omega
  have k1 : (k : Int) < (L.length : Int) := by omega
  obtain ⟨⟨lead, ep, ver, isr, rep, tar⟩, ⟨la, lc⟩, ⟨ra, rc⟩, ⟨ta, tc⟩⟩ := p
  unfold Pt.vi at c3
  dsimp only at *
  have hli : isr.length * 8 ≤ 140737488355328 := hok.li
  have hin : Hid (∀ x ∈ isr, 0 ≤ x ∧ x < nds.length) := Lib.hid hok.isr
  have hlen0 : isr.length ≤ 4611686018427387904 := by omega
  have hcon := has_walk w la lc isr n hlen0 hpt.1.1.rd
  obtain ⟨tb, htb⟩ : ∃ tb, tb = isr.contains n := ⟨_, rfl⟩
  rw [← htb] at hcon
  replace hok := Lib.hid hok
  replace hpt := Lib.hid hpt
  replace hk := Lib.hid hk
  replace hbA := Lib.hid hbA
  replace h := Lib.hid h
  cases tb with
  | false =>
    have hj : Hid (goneP nds n ⟨lead, ep, ver, isr, rep, tar⟩ = ⟨lead, ep, ver, isr, rep, tar⟩) := Lib.hid (by rw [goneP, if_neg (by rw [← htb]; simp)])
    replace htb := Lib.hid htb
    go_enter Try.func49, Try.ntmps49
    go_wp2_with (go_at_call 47; refine hcon.mono ?_; rintro e w1 ⟨rfl, hm1⟩)
    ((try simp only [Exit.inBlock, Exit.then]); refine bodyPost_ret (results_none rfl _ _ _) rfl ?_)
    exact ⟨rfl, ⟨_, hj.out.symm, by rw [set_same hk.out]; exact h.out.keepNil hm1⟩, hm1.mono (fun _ h => h.elim)⟩
  | true =>
  have hj : Hid (∀ rest, rest = isr.filter (fun x => !(x == n)) → goneP nds n ⟨lead, ep, ver, isr, rep, tar⟩ = if lead = n then elP nds (if rest.any (isUp nds) = true then ⟨lead, ep, w64 (ver + 1), rest, rep, tar⟩ else ⟨lead, ep, ver, isr, rep, tar⟩) else (if rest.any (isUp nds) = true then ⟨lead, ep, w64 (ver + 1), rest, rep, tar⟩ else ⟨lead, ep, ver, isr, rep, tar⟩)) := Lib.hid (fun rest hrest => by
    unfold goneP
    dsimp only
    rw [if_pos htb.symm, ← hrest]
    cases rest.any (isUp nds) <;> simp)
  replace htb := Lib.hid htb
  go_enter Try.func49, Try.ntmps49
  go_wp2_with (go_at_call 47; refine hcon.mono ?_; rintro e w1 ⟨rfl, hm1⟩)
  have hm1H := Lib.hid hm1
  clear c0 c1 c2 c3 c4 c5 lp cb lb hcon hm1
  go_loopw [6, 7, 8] (fun s6 s7 s8 wr => ∃ (i : Nat) (ea : Option Addr) (ec : Nat), i ≤ isr.length ∧ s8 = .int .i64 i ∧ s6 = .slice ea (flt n isr i).length ec ∧ s7 = .bool ((flt n isr i).any (isUp nds)) ∧ Hid (NewSl w.heap.size wr 3 1 ea (flt n isr i).length ec (ints (flt n isr i))) ∧ Hid (Mods Nil w wr)) (fun _ _ s8 _ => isr.length - (intOf s8).toNat)
  case atStart => exact ⟨0, none, 0, by omega, rfl, rfl, rfl, Lib.hid NewSl.nil, hm1H⟩
  case round =>
    clear hm1H w1
    obtain ⟨i, ea, ec, hi, rfl, rfl, rfl, hN, hm⟩ := hrel
    have hr := Lib.hid (h.out.keepNil hm.out)
    have hpr := Lib.hid (hpt.out.keep hm.out (fun _ h => h.elim))
    have cb := cellOf hr.out.box
    have lb := ltOf hr.out.box
    obtain ⟨c0, -, c2, c3, -, -⟩ := hr.out.pts.cells hk.out
    unfold Pt.vi at c3
    dsimp only at c0 c2 c3
    have lp := hr.out.pts.1.ltAt
    have hfl := flt_len n isr i
    by_cases hlt : i < isr.length
    · obtain ⟨g, off, rfl, hg, hcells⟩ := (hpr.out.1.1.rd).form (by omega) (by show 0 < isr.length; omega)
      have cy : wr.cell? ⟨g, off + i, none⟩ = some (.int .i64 isr[i]) := by
        rw [hcells i (by show i < isr.length * 1; omega), ints_at, List.getElem?_eq_getElem hlt]; rfl
      have hy : Hid (isr[i]? = some isr[i]) := Lib.hid (List.getElem?_eq_getElem hlt)
      generalize isr[i] = y at *
      clear hcells
      obtain ⟨y0, y1⟩ := hin.out y (List.mem_of_getElem? hy.out)
      obtain ⟨v, rfl⟩ : ∃ v : Nat, y = (v : Int) := ⟨y.toNat, by omega⟩
      have hvl : v < nds.length := by omega
      have i0 : (0 : Int) ≤ (i : Int) := by omega
      have i1 : (i : Int) < (isr.length : Int) := by omega
      have hfs := Lib.hid (flt_succ (n := n) hy.out)
      by_cases hyn : (v : Int) = n
      · subst hyn
        have hb : ((v : Int) == (v : Int)) = true := by simp
        have hf : Hid (flt (v : Int) isr (i + 1) = flt (v : Int) isr i) := Lib.hid (by rw [hfs.out, if_pos rfl])
        go_wp2
        exact ⟨⟨i + 1, ea, ec, by omega, by go_num, by rw [hf.out], by rw [hf.out], by rw [hf.out]; exact hN, hm⟩, by simp [intOf]; omega⟩
      · have hb : ((v : Int) == n) = false := by simpa using hyn
        have hf : Hid (flt n isr (i + 1) = flt n isr i ++ [(v : Int)]) := Lib.hid (by rw [hfs.out, if_neg hyn])
        replace hyn := Lib.hid hyn
        have ca := (hr.out.nodeCells (List.getElem?_eq_getElem hvl)).1
        have hla := hr.out.al.ltAt
        have hu : Hid (nds[v].alive = isUp nds (v : Int)) := Lib.hid (by rw [isUp, Int.toNat_natCast, List.getElem?_eq_getElem hvl]; rfl)
        generalize nds[v].alive = up at *
        obtain ⟨ab, hab⟩ : ∃ ab, ab = (flt n isr i).any (isUp nds) := ⟨_, rfl⟩
        rw [← hab]
        have hany : Hid ((flt n isr (i + 1)).any (isUp nds) = (ab || up)) := Lib.hid (by rw [hf.out, List.any_append, ← hab, hu.out]; simp)
        replace hab := Lib.hid hab
        go_upto_region 8 with fail
        apply wp_region_lit
        repeat ((fail_if_success at_builtin); go_step)
        have hal : Mods Nil wr (wr.alloc (.cells #[.int .i64 (v : Int)] 3)) := Mods.refl.alloc _
        refine wpList_append_sl (n := (flt n isr i).length) (xs := ints (flt n isr i)) (m := 1) (news := [.int .i64 (v : Int)]) (by rfl) (.tmp 48) (.tmp 50) (by rfl) elInt (by rfl) (hN.out.keep hal (fun _ _ => id)).1 (by rfl) (Rd.blk (cs := [.int .i64 (v : Int)]) (heap_new' _ (by simp)) rfl) (by simp [Value.oneCell']) (by simp only [maxLen]; omega) (by omega) ?_
        intro v' w5 h5 hg5 ho5 _
        obtain ⟨fa, fc, rfl, hN5, hm5⟩ := NewSl.app (W := w) (hN.out.keep hal (fun _ _ => id)) (by simp; have := hm.out.size; omega) h5 hg5 ho5 (hm.out.trans hal (fun _ _ h => h)) (Nat.le_refl _)
        have hN6 : Hid (NewSl w.heap.size w5 3 1 fa (flt n isr (i + 1)).length fc (ints (flt n isr (i + 1)))) := Lib.hid (by
          rw [hf.out]
          simpa [ints] using hN5)
        have hl6 : Hid ((flt n isr i).length + 1 = (flt n isr (i + 1)).length) := Lib.hid (by rw [hf.out]; simp)
        have hm5H := Lib.hid hm5
        have hr5 := h.out.keepNil hm5
        have cb5 := cellOf hr5.box
        have lb5 := ltOf hr5.box
        have ca5 := (hr5.nodeCells (List.getElem?_eq_getElem hvl)).1
        have hua : nds[v].alive = up := by rw [hu.out, isUp, Int.toNat_natCast, List.getElem?_eq_getElem hvl]; rfl
        rw [hua] at ca5
        have la5 := hr5.al.ltAt
        clear hua hr5 hm5 hN5 h5 hg5 ho5 hal cb lb c0 c2 c3 lp cy ca hla hN
        cases ab with
        | false =>
          go_wp2
          exact ⟨⟨i + 1, fa, fc, by omega, by go_num, by rw [hl6.out], by rw [hany.out]; rfl, hN6, hm5H⟩, by simp [intOf]; omega⟩
        | true =>
          go_wp2
          exact ⟨⟨i + 1, fa, fc, by omega, by go_num, by rw [hl6.out], by rw [hany.out]; rfl, hN6, hm5H⟩, by simp [intOf]; omega⟩
    · obtain rfl : i = isr.length := by omega
      clear hlt hfl
      have hjj := Lib.hid (hj.out _ (flt_all n isr))
      obtain ⟨rest, hrest⟩ : ∃ rest, rest = flt n isr isr.length := ⟨_, rfl⟩
      rw [← hrest] at hN hjj ⊢
      have hrl : rest.length ≤ isr.length := by rw [hrest]; exact flt_len _ _ _
      have hrx : Hid (∀ x ∈ rest, 0 ≤ x ∧ x < nds.length) := Lib.hid (fun x hx => hin.out x (by rw [hrest, flt_all] at hx; exact (List.mem_filter.1 hx).1))
      obtain ⟨ub, hub⟩ : ∃ ub, ub = rest.any (isUp nds) := ⟨_, rfl⟩
      rw [← hub] at hjj ⊢
      replace hub := Lib.hid hub
      replace hrest := Lib.hid hrest
      have hN1 : Hid (Il wr d.A (ea, ec) rest) := Lib.hid (Il.of_new hN.out hbA.out)
      have hlead : ∀ (W : World) (L' : List Pt) (q : Pt), RImg W d nds L' next count → L'[k]? = some q → Calls Try.prog 48 #[.pointer (some ⟨d.b, 0, none⟩), .int .i64 k] W
        fun e w' => e = .returned (.tuple #[]) ∧ RImg w' d nds (L'.set k { q with pl := elP nds q.pl }) next count ∧ Mods (fun i => i = d.gp) W w' := fun W L' q hW hq => rlead_walk W d nds L' next count k q hW hq
      replace hlead := Lib.hid hlead
      cases ub with
      | true =>
        have hpt2 : PtAt wr d.A ⟨⟨lead, ep, ver, rest, rep, tar⟩, (ea, ec), (ra, rc), (ta, tc)⟩ := ⟨hN1.out, hpr.out.2.1, hpr.out.2.2⟩
        have hok2 : (⟨lead, ep, ver, rest, rep, tar⟩ : Pl).ok nds.length := ⟨hok.out.lead, by show rest.length * 8 ≤ _; omega, hok.out.lr, hok.out.lt, hrx.out, hok.out.tar⟩
        have h2 := hr.out.setPart (p' := ⟨⟨lead, ep, ver, rest, rep, tar⟩, (ea, ec), (ra, rc), (ta, tc)⟩) (u := .slice ea rest.length ec) hk.out (j := 3) (by omega) rfl hpt2 hok2
        have hk2 := get_set_same (a := (⟨⟨lead, ep, ver, rest, rep, tar⟩, (ea, ec), (ra, rc), (ta, tc)⟩ : Pt)) hk.out
        have hm2 : Mods (fun i => i = d.gp) w (wr.setCell ⟨d.gp, d.op + k * 6 + 3, none⟩ (.slice ea rest.length ec)) := (hm.out.mono (S' := fun i => i = d.gp) (fun _ h => h.elim)).setCell (a := ⟨d.gp, d.op + k * 6 + 3, none⟩) _ (fun _ => rfl)
        have fp := hr.out.pts.1.frzAt
        replace h2 := Lib.hid h2
        replace hm2 := Lib.hid hm2
        clear hpt2 hok2
        go_upto_region 12 with fail
        clear cb lb c0 c2 c3 lp fp hr hpr hN hN1 hm hpt
        generalize wr.setCell ⟨d.gp, d.op + k * 6 + 3, none⟩ (.slice ea rest.length ec) = w2 at *
        have hpt2 := h2.out.pts.2.1 _ (List.mem_of_getElem? hk2)
        have hok2 := h2.out.pts.2.2.1 _ (List.mem_of_getElem? hk2)
        have h3 := h2.out.setPart (p' := ⟨⟨lead, ep, w64 (ver + 1), rest, rep, tar⟩, (ea, ec), (ra, rc), (ta, tc)⟩) (u := .int .i64 (w64 (ver + 1))) hk2 (j := 2) (by omega) rfl hpt2 ⟨hok2.lead, hok2.li, hok2.lr, hok2.lt, hok2.isr, hok2.tar⟩
        rw [set_set_same] at h3
        have hk3 := get_set_same (a := (⟨⟨lead, ep, w64 (ver + 1), rest, rep, tar⟩, (ea, ec), (ra, rc), (ta, tc)⟩ : Pt)) hk.out
        have hm3 := hm2.out.setCell (a := ⟨d.gp, d.op + k * 6 + 2, none⟩) (.int .i64 (w64 (ver + 1))) (fun _ => rfl)
        have cb := cellOf h2.out.box
        have lb := ltOf h2.out.box
        obtain ⟨-, -, c2, -, -, -⟩ := h2.out.pts.cells hk2
        dsimp only at c2
        have lp := h2.out.pts.1.ltAt
        have fp := h2.out.pts.1.frzAt
        rw [List.length_set] at cb
        replace h3 := Lib.hid h3
        replace hm3 := Lib.hid hm3
        replace hk3 := Lib.hid hk3
        clear hpt2 hok2 hk2
        go_upto_region 13 with fail
        clear cb lb c2 lp fp h2 hm2
        change Code.wp _ _ _ _ (w2.setCell ⟨d.gp, d.op + k * 6 + 2, none⟩ (.int .i64 (w64 (ver + 1))))
        generalize w2.setCell ⟨d.gp, d.op + k * 6 + 2, none⟩ (.int .i64 (w64 (ver + 1))) = w3 at *
        simp only [if_true] at hjj
        have cb3 := cellOf h3.out.box
        have lb3 := ltOf h3.out.box
        rw [List.length_set] at cb3
        obtain ⟨c03, -, -, -, -, -⟩ := h3.out.pts.cells hk3.out
        dsimp only at c03
        have lp3 := h3.out.pts.1.ltAt
        by_cases hl : lead = n
        · have hlb : (lead == n) = true := by simpa using hl
          have hj4 := Lib.hid (hjj.out.trans (if_pos hl))
          replace hl := Lib.hid hl
          go_wp2_with (go_at_call 48; refine (hlead.out _ _ _ h3.out hk3.out).mono ?_; rintro e w4 ⟨rfl, h4, hm4⟩)
          go_end0
          exact ⟨rfl, ⟨_, hj4.out.symm, by simpa using h4⟩, hm3.out.trans hm4 (fun _ _ h => h)⟩
        · have hlb : (lead == n) = false := by simpa using hl
          have hj4 := Lib.hid (hjj.out.trans (if_neg hl))
          replace hl := Lib.hid hl
          go_wp2
          go_end0
          exact ⟨rfl, ⟨_, hj4.out.symm, h3.out⟩, hm3.out⟩
      | false =>
        simp only [Bool.false_eq_true, if_false] at hjj
        have h3 : Hid (RImg wr d nds (L.set k ⟨⟨lead, ep, ver, isr, rep, tar⟩, (la, lc), (ra, rc), (ta, tc)⟩) next count) := Lib.hid (by rw [set_same hk.out]; exact hr.out)
        have hk3 := Lib.hid (get_set_same (a := (⟨⟨lead, ep, ver, isr, rep, tar⟩, (la, lc), (ra, rc), (ta, tc)⟩ : Pt)) hk.out)
        have hm3 := Lib.hid (hm.out.mono (S' := fun i => i = d.gp) (fun _ h => h.elim))
        go_upto_region 13 with fail
        clear cb lb c0 c2 c3 lp
        have cb3 := cellOf h3.out.box
        have lb3 := ltOf h3.out.box
        rw [List.length_set] at cb3
        obtain ⟨c03, -, -, -, -, -⟩ := h3.out.pts.cells hk3.out
        dsimp only at c03
        have lp3 := h3.out.pts.1.ltAt
        by_cases hl : lead = n
        · have hlb : (lead == n) = true := by simpa using hl
          have hj4 := Lib.hid (hjj.out.trans (if_pos hl))
          replace hl := Lib.hid hl
          go_wp2_with (go_at_call 48; refine (hlead.out _ _ _ h3.out hk3.out).mono ?_; rintro e w4 ⟨rfl, h4, hm4⟩)
          go_end0
          exact ⟨rfl, ⟨_, hj4.out.symm, by simpa using h4⟩, hm3.out.trans hm4 (fun _ _ h => h)⟩
        · have hlb : (lead == n) = false := by simpa using hl
          have hj4 := Lib.hid (hjj.out.trans (if_neg hl))
          replace hl := Lib.hid hl
          go_wp2
          go_end0
          exact ⟨rfl, ⟨_, hj4.out.symm, h3.out⟩, hm3.out⟩
end Go.Proofs.Ytnnoicacpcahfaa
