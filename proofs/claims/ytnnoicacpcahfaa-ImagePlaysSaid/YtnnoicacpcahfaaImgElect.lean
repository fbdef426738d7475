/- (*Image).elect, walked. No condition. -/
import Derived.Test.YtnnoicacpcahfaaImgGate
namespace Go.Proofs.Ytnnoicacpcahfaa
open Go.RowKit

theorem set_set_same {α : Type} (L : List α) (k : Nat) (a b : α) : (L.set k a).set k b = L.set k b := by simp
theorem get_set_same {α : Type} {L : List α} {k : Nat} {p a : α} (h : L[k]? = some p) : (L.set k a)[k]? = some a := by
  rw [List.getElem?_set_self (List.getElem?_eq_some_iff.1 h).1]
theorem find_none_of {l : List Int} {f : Int → Bool} (h : ∀ j x, j < l.length → l[j]? = some x → f x = false) : l.find? f = none := by
  rw [List.find?_eq_none]
  intro x hx
  obtain ⟨j, hj⟩ := List.getElem?_of_mem hx
  have := h j x (List.getElem?_eq_some_iff.1 hj).1 hj
  simp [this]
theorem find_some_of : ∀ {l : List Int} {f : Int → Bool} {i : Nat} {y : Int}, (∀ j x, j < i → l[j]? = some x → f x = false) → l[i]? = some y → f y = true → l.find? f = some y
  | [], _, _, _, _, h, _ => by simp at h
  | x :: l, f, 0, y, _, h, hf => by
    simp at h; subst h
    simp [hf]
  | x :: l, f, i + 1, y, h, hi, hf => by
    have h0 := h 0 x (by omega) (by simp)
    rw [List.find?_cons, h0]
    exact find_some_of (i := i) (fun j x hj hx => h (j + 1) x (by omega) (by simpa using hx)) (by simpa using hi) hf

set_option maxRecDepth 100000 in
set_option maxHeartbeats 3200000 in
theorem elect_walk (w : World) (d : Ad) (nds : List Nd) (L : List Pt) (next count : Int) (k : Nat) (p : Pt) (h : Img w d nds L next count) (hk : L[k]? = some p) :
    Calls Try.prog 66 #[.pointer (some ⟨d.b, 0, none⟩), .pointer (some ⟨d.gp, d.op + k * 6, none⟩)] w
      fun e w' => e = .returned (.tuple #[]) ∧ Img w' d nds (L.set k { p with pl := elP nds p.pl }) next count ∧ Mods (fun i => i = d.gp) w w' := by
  have hok := h.2.2.1.2.2.1 p (List.mem_of_getElem? hk)
  have hpt := h.2.2.1.2.1 p (List.mem_of_getElem? hk)
  obtain ⟨p1, hp1⟩ : ∃ p1 : Pt, p1 = { p with pl := { p.pl with lead := -1 } } := ⟨_, rfl⟩
  have ho1 : p1.pl.ok nds.length := by subst hp1; exact ⟨by simp, hok.li, hok.lr, hok.lt, hok.isr, hok.tar⟩
  have h1 := h.setPart (p' := p1) (u := .int .i64 (-1)) hk (j := 0) (by omega) (by subst hp1; rfl) (by subst hp1; exact hpt) ho1
  have hm1 : Mods (fun i => i = d.gp) w (w.setCell ⟨d.gp, d.op + k * 6 + 0, none⟩ (.int .i64 (-1))) := Mods.refl.setCell _ (fun _ => rfl)
  rw [Nat.add_zero] at h1 hm1
  have hk1 := get_set_same (a := p1) hk
  obtain ⟨cw0, -, -, -, -, -⟩ := h.2.2.1.cells hk
  have l0 := h.2.2.1.1.ltAt
  have f0 := h.2.2.1.1.frzAt
  have hvi : p1.vi = p.vi := by subst hp1; rfl
  have hei : p1.pl.isr = p.pl.isr := by subst hp1; rfl
  have hee : p1.pl.ep = p.pl.ep := by subst hp1; rfl
  -- the end, from whatever leader
  have fin : Hid (∀ (wx : World) (q : Pt) (x : Int), Img wx d nds ((L.set k p1).set k q) next count → q = { p1 with pl := { p1.pl with lead := x } } → Mods (fun i => i = d.gp) w wx → x = (p.pl.isr.find? (isUp nds)).getD (-1) →
      Img (wx.setCell ⟨d.gp, d.op + k * 6 + 1, none⟩ (.int .i64 (w64 (p.pl.ep + 1)))) d nds (L.set k { p with pl := elP nds p.pl }) next count ∧ Mods (fun i => i = d.gp) w (wx.setCell ⟨d.gp, d.op + k * 6 + 1, none⟩ (.int .i64 (w64 (p.pl.ep + 1))))) := Lib.hid (fun wx q x hI hq hm hx => by
    have hpq : q.pl = { p.pl with lead := x } := by subst hq; subst hp1; rfl
    have hI2 := hI.setPart (p' := { p with pl := elP nds p.pl }) (u := .int .i64 (w64 (p.pl.ep + 1))) (get_set_same hk1) (j := 1) (by omega) (by subst hq; subst hp1; subst hx; rfl)
      (by
        have := hI.2.2.1.2.1 q (List.mem_of_getElem? (get_set_same hk1))
        subst hq; subst hp1; exact this) (elP_ok hok)
    rw [set_set_same, set_set_same] at hI2
    exact ⟨hI2, hm.setCell _ (fun _ => rfl)⟩)
  have hisr : Sl (w.setCell ⟨d.gp, d.op + k * 6, none⟩ (.int .i64 (-1))) 3 1 p1.vi p1.pl.isr.length (ints p1.pl.isr) := (h1.2.2.1.2.1 p1 (List.mem_of_getElem? hk1)).1.1
  obtain ⟨c0, c1, -, c3, -, -⟩ := h1.2.2.1.cells hk1
  have fr1 := h1.2.2.1.1.frzAt
  have l1 := h1.2.2.1.1.ltAt
  have cb := cellOf h1.1
  have lb := ltOf h1.1
  have li := hok.li
  replace hp1 := Lib.hid hp1
  replace hok := Lib.hid hok
  have hnd : Hid (∀ (i : Nat) (y : Int), p1.pl.isr[i]? = some y → 0 ≤ y ∧ y < nds.length ∧ (w.setCell ⟨d.gp, d.op + k * 6, none⟩ (.int .i64 (-1))).cell? ⟨d.gn, d.on + y.toNat * 3, none⟩ = some (.bool (isUp nds y))) := Lib.hid (fun i y hy => by
    obtain ⟨a, b⟩ := ho1.isr y (List.mem_of_getElem? hy)
    have hlt : y.toNat < nds.length := by omega
    refine ⟨a, b, ?_⟩
    rw [(h1.nodeCells (List.getElem?_eq_getElem hlt)).1, isUp, List.getElem?_eq_getElem hlt]; rfl)
  clear hpt ho1
  have ln := h1.2.1.ltAt
  have hnc := h1.2.1.capAt.1
  replace h1 := Lib.hid h1
  replace h := Lib.hid h
  go_enter Try.func66, Try.ntmps66
  go_upto_region 1 with fail
  clear cw0 l0 f0
  generalize w.setCell ⟨d.gp, d.op + k * 6, none⟩ (.int .i64 (-1)) = w1 at *
  have hrd := hisr.rd
  rw [hee] at c1
  rw [hvi] at c3 hrd
  rw [hei] at hrd hnd
  unfold Pt.vi at c3 hrd
  obtain ⟨⟨lead, ep, ver, isr, rep, tar⟩, ⟨la, lc⟩, ar, at_⟩ := p
  dsimp only at *
  clear hisr hvi hei
  replace hee := Lib.hid hee
  go_wp2_with fail
  go_loopw [14] (fun s14 wr => ∃ i : Nat, i ≤ isr.length ∧ s14 = .int .i64 i ∧ Hid (∀ j x, j < i → isr[j]? = some x → isUp nds x = false) ∧ wr = w1) (fun s14 _ => isr.length - (intOf s14).toNat)
  case atStart => exact ⟨0, by omega, rfl, Lib.hid (fun j x hj => by omega), rfl⟩
  case round =>
    obtain ⟨i, hi, rfl, hno, rfl⟩ := hrel
    by_cases hlt : i < isr.length
    · obtain ⟨g, off, rfl, hg, hcells⟩ := hrd.form (by omega) (by omega)
      have c0' : wr.cell? ⟨g, off + i, none⟩ = some (.int .i64 isr[i]) := by
        rw [hcells i (by omega), ints_at, List.getElem?_eq_getElem hlt]; rfl
      have hy : Hid (isr[i]? = some isr[i]) := Lib.hid (List.getElem?_eq_getElem hlt)
      generalize isr[i] = y at *
      clear hcells
      obtain ⟨y0, y1, cy⟩ := hnd.out i y hy.out
      obtain ⟨m, rfl⟩ : ∃ m : Nat, y = (m : Int) := ⟨y.toNat, by omega⟩
      rw [Int.toNat_natCast] at cy
      have i0 : (0 : Int) ≤ (i : Int) := by omega
      have i1 : (i : Int) < (isr.length : Int) := by omega
      cases hup : isUp nds (m : Int) with
      | false =>
        rw [hup] at cy
        replace hup := Lib.hid hup
        go_wp2
        exact ⟨⟨i + 1, by omega, by go_num, Lib.hid (fun j x hj hx => by
          by_cases hji : j = i
          · subst hji
            rw [hy.out] at hx
            cases hx
            exact hup.out
          · exact hno.out j x (by omega) hx), trivial⟩, by simp [intOf]; omega⟩
      | true =>
        rw [hup] at cy
        have hx : (m : Int) = (isr.find? (isUp nds)).getD (-1) := by rw [find_some_of hno.out hy.out hup]; rfl
        have hIm := h1.out.setPart (p' := { p1 with pl := { p1.pl with lead := (m : Int) } }) (u := .int .i64 (m : Int)) hk1 (j := 0) (by omega) rfl (h1.out.2.2.1.2.1 p1 (List.mem_of_getElem? hk1))
          (by have := h1.out.2.2.1.2.2.1 p1 (List.mem_of_getElem? hk1); exact ⟨by show -1 ≤ (m : Int); omega, this.li, this.lr, this.lt, this.isr, this.tar⟩)
        rw [Nat.add_zero] at hIm
        obtain ⟨hf1, hf2⟩ := fin.out _ _ (m : Int) hIm rfl (hm1.setCell _ (fun _ => rfl)) hx
        obtain ⟨-, c1m, -, -, -, -⟩ := hIm.2.2.1.cells (get_set_same hk1)
        have frm := hIm.2.2.1.1.frzAt
        have lm := hIm.2.2.1.1.ltAt
        change _ = some (Value.int .i64 p1.pl.ep) at c1m
        rw [hee.out] at c1m
        clear hIm hx
        replace hf1 := Lib.hid hf1
        replace hf2 := Lib.hid hf2
        replace hup := Lib.hid hup
        replace hm1 := Lib.hid hm1
        go_upto_region 7 with fail
        generalize wr.setCell ⟨d.gp, d.op + k * 6, none⟩ (.int .i64 (m : Int)) = wm at *
        go_wp2
        go_end0
        exact ⟨rfl, hf1.out, hf2.out⟩
    · obtain rfl : i = isr.length := by omega
      have hx : (-1 : Int) = (isr.find? (isUp nds)).getD (-1) := by rw [find_none_of (fun j x hj hx => hno.out j x hj hx)]; rfl
      have hq : (L.set k p1).set k p1 = L.set k p1 := by simp
      obtain ⟨hf1, hf2⟩ := fin.out wr p1 (-1) (by rw [hq]; exact h1.out) (by rw [hp1.out]) hm1 hx
      clear hx hq
      replace hf1 := Lib.hid hf1
      replace hf2 := Lib.hid hf2
      replace hm1 := Lib.hid hm1
      go_wp2
      go_end0
      exact ⟨rfl, hf1.out, hf2.out⟩
end Go.Proofs.Ytnnoicacpcahfaa
