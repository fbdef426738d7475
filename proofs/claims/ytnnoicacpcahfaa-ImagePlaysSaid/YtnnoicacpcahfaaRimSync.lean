/- The reference's image: sync, walked. No condition. -/
import Derived.Test.YtnnoicacpcahfaaRimGone
import Derived.Test.YtnnoicacpcahfaaImgMove
namespace Go.Proofs.Ytnnoicacpcahfaa
open Go.RowKit

set_option maxRecDepth 100000 in
set_option maxHeartbeats 1600000 in
theorem has_same (w : World) (la : Option Addr) (lc : Nat) (l : List Int) (x : Int) (hlen : l.length ≤ 4611686018427387904) (h : Rd w 1 (.slice la l.length lc) l.length (ints l)) :
    Calls Try.prog 47 #[.slice la l.length lc, .int .i64 x] w
      fun e w' => e = .returned (.bool (l.contains x)) ∧ w' = w := by
  go_enter Try.func47, Try.ntmps47
  go_wp2_with fail
  go_loopw [5] (fun s5 wr => ∃ k : Nat, k ≤ l.length ∧ s5 = .int .i64 k ∧ Hid (∀ j, j < k → l[j]? ≠ some x) ∧ wr = w) (fun s5 _ => l.length - (intOf s5).toNat)
  case atStart => exact ⟨0, by omega, rfl, Lib.hid (fun j hj => by omega), rfl⟩
  case round =>
    obtain ⟨k, hk, rfl, hno, rfl⟩ := hrel
    by_cases hlt : k < l.length
    · obtain ⟨g, off, rfl, hg, hcells⟩ := h.form (by omega) (by omega)
      have c0 : wr.cell? ⟨g, off + k, none⟩ = some (.int .i64 l[k]) := by
        rw [hcells k (by omega), ints_at, List.getElem?_eq_getElem hlt]; rfl
      have hy : Hid (l[k]? = some l[k]) := Lib.hid (List.getElem?_eq_getElem hlt)
      generalize l[k] = y at *
      clear hcells
      have i0 : (0 : Int) ≤ (k : Int) := by omega
      have i1 : (k : Int) < (l.length : Int) := by omega
      by_cases hyx : y = x
      · subst hyx
        have hc : Hid (l.contains y = true) := Lib.hid ((contains_iff' l y).2 (List.mem_of_getElem? hy.out))
        go_wp2
        go_ret
        exact ⟨by rw [hc.out]; rfl, rfl⟩
      · have hne : (y == x) = false := by simpa using hyx
        replace hyx := Lib.hid hyx
        go_wp2
        exact ⟨⟨k + 1, by omega, by go_num, Lib.hid (fun j hj => by
          by_cases hjk : j = k
          · subst hjk; rw [hy.out]; simpa using hyx.out
          · exact hno.out j (by omega)), trivial⟩, by simp [intOf]; omega⟩
    · obtain rfl : k = l.length := by omega
      have hc : Hid (l.contains x = false) := Lib.hid (by
        cases hcc : l.contains x with
        | false => rfl
        | true =>
          obtain ⟨j, hj⟩ := List.getElem?_of_mem ((contains_iff' l x).1 hcc)
          exact absurd hj (hno.out j (List.getElem?_eq_some_iff.1 hj).1))
      clear hlt
      go_wp2
      go_ret
      exact ⟨by rw [hc.out]; rfl, rfl⟩

/-- What the call leaves: its number, and the partitions. -/
def RSyncPost (w : World) (d : RAd) (nds : List Nd) (L : List Pt) (next count : Int) (k : Nat) (E : Int) (q : Pl) (e : Ending) (w' : World) : Prop :=
  e = .returned (.int .i64 E) ∧ Mods d.A w w' ∧ ∃ L', RImg w' d nds L' next count ∧ L'.map Pt.pl = if E = 0 then (L.map Pt.pl).set k q else L.map Pt.pl
theorem RSyncPost.no {w w' : World} {d : RAd} {nds : List Nd} {L : List Pt} {next count : Int} {k : Nat} {E : Int} {q : Pl} {v : Int} (hE : E = v) (hv : v ≠ 0) (hI : RImg w' d nds L next count) (hm : Mods Nil w w') : RSyncPost w d nds L next count k E q (.returned (.int .i64 v)) w' := by
  refine ⟨by rw [hE], hm.mono (fun _ h => h.elim), L, hI, ?_⟩
  rw [hE, if_neg hv]

/-- The world: all that the walk asks of it. -/
structure RSyncCtx (w w2 : World) (B C : Nat) (d : RAd) (nds : List Nd) (L : List Pt) (next count : Int) (k : Nat) (p : Pt) (kind node ep' ver' : Int) (xa : Option Addr) (xc : Nat) (l : List Int) : Prop where
  img : RImg w2 d nds L next count
  sl : Rd w2 1 (.slice xa l.length xc) l.length (ints l)
  box : w2.heap[B]? = some (.cells #[.int .i64 kind, .int .i64 node, .int .i64 k, .int .i64 ep', .int .i64 ver', .slice xa l.length xc] 61 (0, 0))
  cpy : w2.heap[C]? = some (.cells p.cells.toArray 99 (0, 0))
  bA : ∀ i, d.A i → i ≠ B
  mods : Mods Nil w w2
  part : L[k]? = some p
theorem RSyncCtx.keep {w w2 w3 : World} {B C : Nat} {d : RAd} {nds : List Nd} {L : List Pt} {next count : Int} {k : Nat} {p : Pt} {kind node ep' ver' : Int} {xa : Option Addr} {xc : Nat} {l : List Int} (h : RSyncCtx w w2 B C d nds L next count k p kind node ep' ver' xa xc l) (hm : Mods Nil w2 w3) : RSyncCtx w w3 B C d nds L next count k p kind node ep' ver' xa xc l :=
  ⟨h.img.keepNil hm, rdKeep h.sl hm (fun _ _ => id), hm.keep h.box id, hm.keep h.cpy id, h.bA, h.mods.trans hm (fun _ _ h => h), h.part⟩

set_option maxRecDepth 100000 in
set_option maxHeartbeats 6400000 in
theorem rsync_walk (w : World) (d : RAd) (nds : List Nd) (L : List Pt) (next count : Int) (k : Nat) (p : Pt) (kind node ep' ver' : Int) (xa : Option Addr) (xc : Nat) (l : List Int) (h : RImg w d nds L next count) (hk : L[k]? = some p)
    (hlen : l.length * 8 ≤ 140737488355328) (hs : Rd w 1 (.slice xa l.length xc) l.length (ints l)) (hri : rises nds.length l = true) :
    Calls Try.prog 50 #[.pointer (some ⟨d.b, 0, none⟩), .agg #[.int .i64 kind, .int .i64 node, .int .i64 k, .int .i64 ep', .int .i64 ver', .slice xa l.length xc]] w
      fun e w' => RSyncPost w d nds L next count k (isrE nds node ep' ver' l p.pl) (isrP nds l p.pl) e w' := by
  have hkl : k < L.length := (List.getElem?_eq_some_iff.1 hk).1
  have hm0 : Mods Nil w (w.alloc (.cells #[.int .i64 kind, .int .i64 node, .int .i64 k, .int .i64 ep', .int .i64 ver', .slice xa l.length xc] 61)) := Mods.refl.alloc _
  have hbx := heap_new w (.cells #[.int .i64 kind, .int .i64 node, .int .i64 k, .int .i64 ep', .int .i64 ver', .slice xa l.length xc] 61)
  have hbgp : Hid (d.gp ≠ w.heap.size) := Lib.hid (fun e => by have := h.lt d.gp (.inr (.inr (.inr (.inr rfl)))); omega)
  have hbA : Hid (∀ i, d.A i → i ≠ w.heap.size) := Lib.hid (fun i hi e => by have := h.lt i hi; omega)
  have hok := h.pts.2.2.1 p (List.mem_of_getElem? hk)
  have hpcap := h.pts.1.capAt.1
  have k0 : (0 : Int) ≤ (k : Int) := by omega
  have k1 : (k : Int) < (L.length : Int) := by omega
  have hx := Lib.hid (rises_in hri)
  obtain ⟨⟨lead, ep, ver, isr, rep, tar⟩, ⟨la, lc⟩, ⟨ra, rc⟩, ⟨ta, tc⟩⟩ := p
  dsimp only at *
  have hlead : -1 ≤ lead := hok.lead
  obtain ⟨E, hE⟩ : ∃ E, E = isrE nds node ep' ver' l ⟨lead, ep, ver, isr, rep, tar⟩ := ⟨_, rfl⟩
  rw [← hE]
  have hE2 : Hid (E = if lead < 0 ∨ ep' ≠ ep ∨ node ≠ lead ∨ ver' ≠ ver then 12 else if l.contains lead = true then (if isrOk nds l ⟨lead, ep, ver, isr, rep, tar⟩ = true then 0 else 5) else 5) := Lib.hid (by rw [hE, isrE, if_pos hri])
  clear hE hri
  replace hok := Lib.hid hok
  have h1 := h.keepNil hm0
  have hs1 := rdKeep hs hm0 (fun _ _ => id)
  clear h hs
  replace hk := Lib.hid hk
  go_enter Try.func50, Try.ntmps50
  go_upto_region 1 with fail
  generalize w.alloc (.cells #[.int .i64 kind, .int .i64 node, .int .i64 k, .int .i64 ep', .int .i64 ver', .slice xa l.length xc] 61) = w1 at *
  generalize w.heap.size = B at *
  obtain ⟨c0, c1, c2, c3, c4, c5⟩ := h1.pts.cells hk.out
  unfold Pt.vi at c3
  unfold Pt.vr at c4
  unfold Pt.vt at c5
  dsimp only at c0 c1 c2 c3 c4 c5
  have lp := h1.pts.1.ltAt
  have cb := cellOf h1.box
  have lb := ltOf h1.box
  have cx := cellOf hbx
  have lx := ltOf hbx
  replace h1 := Lib.hid h1
  replace hs1 := Lib.hid hs1
  replace hbx := Lib.hid hbx
  replace hm0 := Lib.hid hm0
  refine wp_region_plan [(.pure, 0), (.pure, 1), (.pure, 2), (.read, 3), (.pure, 4), (.read, 5), (.pure, 6), (.read, 7), (.ben, 8), (.eff, 9)] 9 (fun W => Mods Nil _ W) mixed (by kernel_rfl) (by kernel_rfl) Mods.refl.drew ?_
  repeat first
     | (refine reg_pure (v := ?_) rfl rfl ?_ ?_; rotate_left 1; (· (intro W; go_simp <;> with_reducible rfl)); simp only [Act.put, List.setIfInBounds_toArray, List.set_cons_zero, List.set_cons_succ])
     | (refine reg_read (v := ?_) rfl rfl ?_ ?_; rotate_left 1; (· (intro W hW; have hW' := Mods.cells hW; go_simp <;> with_reducible rfl)); simp only [Act.put, List.setIfInBounds_toArray, List.set_cons_zero, List.set_cons_succ])
     | (refine reg_off (by rfl) (by rfl) ?_; simp only [Act.put, List.setIfInBounds_toArray, List.set_cons_zero, List.set_cons_succ])
     | (refine reg_pure_on (v := ?_) rfl (by rfl) ?_ ?_; rotate_left 1; (· (intro W; go_simp <;> with_reducible rfl)); simp only [Act.put, List.setIfInBounds_toArray, List.set_cons_zero, List.set_cons_succ])
     | (refine reg_read_on (v := ?_) rfl (by rfl) ?_ ?_; rotate_left 1; (· (intro W hW; have hW' := Mods.cells hW; go_simp <;> with_reducible rfl)); simp only [Act.put, List.setIfInBounds_toArray, List.set_cons_zero, List.set_cons_succ])
  refine reg_ben (by rfl) (by rfl) (fun K hK => ?_)
  go_simp
  refine hK _ _ (Mods.refl.drew.alloc _) ?_
  clear hK K
  try simp only [Act.put, List.setIfInBounds_toArray, List.set_cons_zero, List.set_cons_succ]
  refine reg_eff (by rfl) (by rfl) (fun K hK => ?_)
  go_simp
  refine hK _ _ ?_
  clear hK K
  refine reg_done (qnp_normal ?_)
  have hC : RSyncCtx w (w1.alloc (.cells #[.int .i64 lead, .int .i64 ep, .int .i64 ver, .slice la isr.length lc, .slice ra rep.length rc, .slice ta tar.length tc] 99)).drew B w1.heap.size d nds L next count k ⟨⟨lead, ep, ver, isr, rep, tar⟩, (la, lc), (ra, rc), (ta, tc)⟩ kind node ep' ver' xa xc l := by
    have hm2 : Mods Nil w1 (w1.alloc (.cells #[.int .i64 lead, .int .i64 ep, .int .i64 ver, .slice la isr.length lc, .slice ra rep.length rc, .slice ta tar.length tc] 99)).drew := (Mods.refl.alloc _).drew
    exact ⟨h1.out.keepNil hm2, rdKeep hs1.out hm2 (fun _ _ => id), hm2.keep hbx.out id, heap_new w1 _, hbA.out, hm0.out.trans hm2 (fun _ _ h => h), hk.out⟩
  replace hC := Lib.hid hC
  clear c0 c1 c2 c3 c4 c5 lp cb lb cx lx h1 hs1 hbx hm0 hbA hk
  generalize (w1.alloc (.cells #[.int .i64 lead, .int .i64 ep, .int .i64 ver, .slice la isr.length lc, .slice ra rep.length rc, .slice ta tar.length tc] 99)).drew = w2 at *
  generalize w1.heap.size = C at *
  have cx := cellOf hC.out.box
  have lx := ltOf hC.out.box
  have cp : ∀ o, w2.cell? ⟨C, o, none⟩ = #[Value.int .i64 lead, .int .i64 ep, .int .i64 ver, .slice la isr.length lc, .slice ra rep.length rc, .slice ta tar.length tc][o]? := cellOf hC.out.cpy
  have lp := ltOf hC.out.cpy
  by_cases q0 : lead = -1
  · have hbad : Hid (lead < 0 ∨ ep' ≠ ep ∨ node ≠ lead ∨ ver' ≠ ver) := Lib.hid (.inl (by omega))
    have b0 : (lead == -1) = true := by simpa using q0
    replace q0 := Lib.hid q0
    have hE3 : Hid (E = 12) := Lib.hid (by rw [hE2.out, if_pos hbad.out])
    clear hE2 hbad
    go_wp2
    go_ret
    exact RSyncPost.no hE3.out (by omega) hC.out.img hC.out.mods
  have b0 : (lead == -1) = false := by simpa using q0
  by_cases q2 : node = lead
  rotate_left
  · have hbad : Hid (lead < 0 ∨ ep' ≠ ep ∨ node ≠ lead ∨ ver' ≠ ver) := Lib.hid (.inr (.inr (.inl q2)))
    have b2 : (node != lead) = true := by simpa using q2
    clear q2 q0
    have hE3 : Hid (E = 12) := Lib.hid (by rw [hE2.out, if_pos hbad.out])
    clear hE2 hbad
    go_wp2
    go_ret
    exact RSyncPost.no hE3.out (by omega) hC.out.img hC.out.mods
  have b2 : (node != lead) = false := by simpa using q2
  replace q2 := Lib.hid q2
  by_cases q1 : ep' = ep
  rotate_left
  · have hbad : Hid (lead < 0 ∨ ep' ≠ ep ∨ node ≠ lead ∨ ver' ≠ ver) := Lib.hid (.inr (.inl q1))
    have b1 : (ep' != ep) = true := by simpa using q1
    clear q1 q0
    have hE3 : Hid (E = 12) := Lib.hid (by rw [hE2.out, if_pos hbad.out])
    clear hE2 hbad
    go_wp2
    go_ret
    exact RSyncPost.no hE3.out (by omega) hC.out.img hC.out.mods
  have b1 : (ep' != ep) = false := by simpa using q1
  replace q1 := Lib.hid q1
  by_cases q3 : ver' = ver
  rotate_left
  · have hbad : Hid (lead < 0 ∨ ep' ≠ ep ∨ node ≠ lead ∨ ver' ≠ ver) := Lib.hid (.inr (.inr (.inr q3)))
    have b3 : (ver' != ver) = true := by simpa using q3
    clear q3 q0
    have hE3 : Hid (E = 12) := Lib.hid (by rw [hE2.out, if_pos hbad.out])
    clear hE2 hbad
    go_wp2
    go_ret
    exact RSyncPost.no hE3.out (by omega) hC.out.img hC.out.mods
  have b3 : (ver' != ver) = false := by simpa using q3
  have hE3 : Hid (E = if l.contains lead = true then (if isrOk nds l ⟨lead, ep, ver, isr, rep, tar⟩ = true then 0 else 5) else 5) := Lib.hid (by
    rw [hE2.out, if_neg]
    rintro (h | h | h | h)
    · omega
    · exact h q1.out
    · exact h q2.out
    · exact h q3)
  clear q3 hE2 q1 q2 q0
  have hcon := has_same w2 xa xc l lead (by omega) hC.out.sl
  obtain ⟨tb, htb⟩ : ∃ tb, tb = l.contains lead := ⟨_, rfl⟩
  rw [← htb] at hcon
  replace htb := Lib.hid htb
  cases tb with
  | false =>
    have hE4 : Hid (E = 5) := Lib.hid (by rw [hE3.out, ← htb.out]; rfl)
    clear htb
    go_wp2_with (go_at_call 47; refine hcon.mono ?_; rintro e w' ⟨rfl, hw'⟩; have hw'' := hw'.symm; subst hw'')
    go_ret
    exact RSyncPost.no hE4.out (by omega) hC.out.img hC.out.mods
  | true =>
    have hE4 : Hid (E = if isrOk nds l ⟨lead, ep, ver, isr, rep, tar⟩ = true then 0 else 5) := Lib.hid (by rw [hE3.out, if_pos htb.out.symm])
    clear htb hE3
    go_wp2_with (go_at_call 47; refine hcon.mono ?_; rintro e w' ⟨rfl, hw'⟩; have hw'' := hw'.symm; subst hw'')
    clear hcon b0 b1 b2 b3
    have hpp := Lib.hid (hC.out.img.pts.2.1 _ (List.mem_of_getElem? hC.out.part))
    have hcr0 : Hid (∀ x, Calls Try.prog 47 #[.slice ra rep.length rc, .int .i64 x] w2 fun e w' => e = .returned (.bool (rep.contains x)) ∧ w' = w2) := Lib.hid (fun x => has_same w2 ra rc rep x (by have : rep.length * 8 ≤ 140737488355328 := hok.out.lr; omega) hpp.out.2.1.1.rd)
    have hct0 : Hid (∀ x, Calls Try.prog 47 #[.slice ta tar.length tc, .int .i64 x] w2 fun e w' => e = .returned (.bool (tar.contains x)) ∧ w' = w2) := Lib.hid (fun x => has_same w2 ta tc tar x (by have : tar.length * 8 ≤ 140737488355328 := hok.out.lt; omega) hpp.out.2.2.1.rd)
    have hci0 : Hid (∀ x, Calls Try.prog 47 #[.slice la isr.length lc, .int .i64 x] w2 fun e w' => e = .returned (.bool (isr.contains x)) ∧ w' = w2) := Lib.hid (fun x => has_same w2 la lc isr x (by have : isr.length * 8 ≤ 140737488355328 := hok.out.li; omega) hpp.out.1.1.rd)
    have hlb : l.length ≤ 9223372036854775807 := by omega
    go_loopw [6] (fun s6 wr => ∃ i : Nat, i ≤ l.length ∧ s6 = .int .i64 i ∧ Hid (∀ j x, j < i → l[j]? = some x → ((rep.contains x || tar.contains x) && (isr.contains x || isUp nds x)) = true) ∧ wr = w2) (fun s6 _ => l.length - (intOf s6).toNat)
    case atStart => exact ⟨0, by omega, rfl, Lib.hid (fun j x hj => by omega), rfl⟩
    case round =>
      obtain ⟨i, hi, rfl, hno, rfl⟩ := hrel
      by_cases hlt : i < l.length
      · obtain ⟨g, off, rfl, hg, hcells⟩ := hC.out.sl.form (by omega) (by omega)
        have cy0 : wr.cell? ⟨g, off + i, none⟩ = some (.int .i64 l[i]) := by
          rw [hcells i (by omega), ints_at, List.getElem?_eq_getElem hlt]; rfl
        have hy : Hid (l[i]? = some l[i]) := Lib.hid (List.getElem?_eq_getElem hlt)
        generalize l[i] = y at *
        clear hcells
        obtain ⟨y0, y1⟩ := hx.out y (List.mem_of_getElem? hy.out)
        obtain ⟨m, rfl⟩ : ∃ m : Nat, y = (m : Int) := ⟨y.toNat, by omega⟩
        have hvl : m < nds.length := by omega
        have ca := (hC.out.img.nodeCells (List.getElem?_eq_getElem hvl)).1
        have hla := hC.out.img.al.ltAt
        have cb := cellOf hC.out.img.box
        have lb := ltOf hC.out.img.box
        have hu : Hid (nds[m].alive = isUp nds (m : Int)) := Lib.hid (by rw [isUp, Int.toNat_natCast, List.getElem?_eq_getElem hvl]; rfl)
        generalize nds[m].alive = up at *
        have i0 : (0 : Int) ≤ (i : Int) := by omega
        have i1 : (i : Int) < (l.length : Int) := by omega
        have hltH := Lib.hid hlt
        have hcr := hcr0.out (m : Int)
        have hct := hct0.out (m : Int)
        have hci := hci0.out (m : Int)
        obtain ⟨b1, e1⟩ : ∃ b1, b1 = rep.contains (m : Int) := ⟨_, rfl⟩
        obtain ⟨b2, e2⟩ : ∃ b2, b2 = tar.contains (m : Int) := ⟨_, rfl⟩
        obtain ⟨b3, e3⟩ : ∃ b3, b3 = isr.contains (m : Int) := ⟨_, rfl⟩
        rw [← e1] at hcr
        rw [← e2] at hct
        rw [← e3] at hci
        replace e1 := Lib.hid e1
        replace e2 := Lib.hid e2
        replace e3 := Lib.hid e3
        clear hpp hcr0 hct0 hci0
        cases b1 with
        | true =>
          cases up with
          | true =>
            have hcond : Hid (((rep.contains (m : Int) || tar.contains (m : Int)) && (isr.contains (m : Int) || isUp nds (m : Int))) = true) := Lib.hid (by rw [← e1.out, ← e2.out, ← e3.out, ← hu.out]; simp)
            go_wp2_with (first | (go_at_call 47; (with_reducible refine hcr.mono ?_); rintro e w' ⟨rfl, hw'⟩; have hw'' := hw'.symm; subst hw'') | (go_at_call 47; (with_reducible refine hct.mono ?_); rintro e w' ⟨rfl, hw'⟩; have hw'' := hw'.symm; subst hw'') | (go_at_call 47; (with_reducible refine hci.mono ?_); rintro e w' ⟨rfl, hw'⟩; have hw'' := hw'.symm; subst hw''))
            exact ⟨⟨i + 1, hltH.out, by go_num, Lib.hid (fun j x hj hx => by
              by_cases hji : j = i
              · subst hji
                rw [hy.out] at hx
                cases hx
                exact hcond.out
              · exact hno.out j x (by omega) hx), trivial⟩, by have := hltH.out; simp [intOf]; omega⟩
          | false =>
            cases b3 with
            | true =>
              have hcond : Hid (((rep.contains (m : Int) || tar.contains (m : Int)) && (isr.contains (m : Int) || isUp nds (m : Int))) = true) := Lib.hid (by rw [← e1.out, ← e2.out, ← e3.out, ← hu.out]; simp)
              go_wp2_with (first | (go_at_call 47; (with_reducible refine hcr.mono ?_); rintro e w' ⟨rfl, hw'⟩; have hw'' := hw'.symm; subst hw'') | (go_at_call 47; (with_reducible refine hct.mono ?_); rintro e w' ⟨rfl, hw'⟩; have hw'' := hw'.symm; subst hw'') | (go_at_call 47; (with_reducible refine hci.mono ?_); rintro e w' ⟨rfl, hw'⟩; have hw'' := hw'.symm; subst hw''))
              exact ⟨⟨i + 1, hltH.out, by go_num, Lib.hid (fun j x hj hx => by
                by_cases hji : j = i
                · subst hji
                  rw [hy.out] at hx
                  cases hx
                  exact hcond.out
                · exact hno.out j x (by omega) hx), trivial⟩, by have := hltH.out; simp [intOf]; omega⟩
            | false =>
              have hcond : Hid (((rep.contains (m : Int) || tar.contains (m : Int)) && (isr.contains (m : Int) || isUp nds (m : Int))) = false) := Lib.hid (by rw [← e1.out, ← e2.out, ← e3.out, ← hu.out]; simp)
              have hE5 : Hid (E = 5) := Lib.hid (by
                rw [hE4.out, if_neg]
                rw [isrOk, not_all_of hy.out hcond.out]; simp)
              clear hE4 hcond hno
              go_wp2_with (first | (go_at_call 47; (with_reducible refine hcr.mono ?_); rintro e w' ⟨rfl, hw'⟩; have hw'' := hw'.symm; subst hw'') | (go_at_call 47; (with_reducible refine hct.mono ?_); rintro e w' ⟨rfl, hw'⟩; have hw'' := hw'.symm; subst hw'') | (go_at_call 47; (with_reducible refine hci.mono ?_); rintro e w' ⟨rfl, hw'⟩; have hw'' := hw'.symm; subst hw''))
              go_ret
              exact RSyncPost.no hE5.out (by omega) hC.out.img hC.out.mods
        | false =>
          cases b2 with
          | true =>
            cases up with
            | true =>
              have hcond : Hid (((rep.contains (m : Int) || tar.contains (m : Int)) && (isr.contains (m : Int) || isUp nds (m : Int))) = true) := Lib.hid (by rw [← e1.out, ← e2.out, ← e3.out, ← hu.out]; simp)
              go_wp2_with (first | (go_at_call 47; (with_reducible refine hcr.mono ?_); rintro e w' ⟨rfl, hw'⟩; have hw'' := hw'.symm; subst hw'') | (go_at_call 47; (with_reducible refine hct.mono ?_); rintro e w' ⟨rfl, hw'⟩; have hw'' := hw'.symm; subst hw'') | (go_at_call 47; (with_reducible refine hci.mono ?_); rintro e w' ⟨rfl, hw'⟩; have hw'' := hw'.symm; subst hw''))
              exact ⟨⟨i + 1, hltH.out, by go_num, Lib.hid (fun j x hj hx => by
                by_cases hji : j = i
                · subst hji
                  rw [hy.out] at hx
                  cases hx
                  exact hcond.out
                · exact hno.out j x (by omega) hx), trivial⟩, by have := hltH.out; simp [intOf]; omega⟩
            | false =>
              cases b3 with
              | true =>
                have hcond : Hid (((rep.contains (m : Int) || tar.contains (m : Int)) && (isr.contains (m : Int) || isUp nds (m : Int))) = true) := Lib.hid (by rw [← e1.out, ← e2.out, ← e3.out, ← hu.out]; simp)
                go_wp2_with (first | (go_at_call 47; (with_reducible refine hcr.mono ?_); rintro e w' ⟨rfl, hw'⟩; have hw'' := hw'.symm; subst hw'') | (go_at_call 47; (with_reducible refine hct.mono ?_); rintro e w' ⟨rfl, hw'⟩; have hw'' := hw'.symm; subst hw'') | (go_at_call 47; (with_reducible refine hci.mono ?_); rintro e w' ⟨rfl, hw'⟩; have hw'' := hw'.symm; subst hw''))
                exact ⟨⟨i + 1, hltH.out, by go_num, Lib.hid (fun j x hj hx => by
                  by_cases hji : j = i
                  · subst hji
                    rw [hy.out] at hx
                    cases hx
                    exact hcond.out
                  · exact hno.out j x (by omega) hx), trivial⟩, by have := hltH.out; simp [intOf]; omega⟩
              | false =>
                have hcond : Hid (((rep.contains (m : Int) || tar.contains (m : Int)) && (isr.contains (m : Int) || isUp nds (m : Int))) = false) := Lib.hid (by rw [← e1.out, ← e2.out, ← e3.out, ← hu.out]; simp)
                have hE5 : Hid (E = 5) := Lib.hid (by
                  rw [hE4.out, if_neg]
                  rw [isrOk, not_all_of hy.out hcond.out]; simp)
                clear hE4 hcond hno
                go_wp2_with (first | (go_at_call 47; (with_reducible refine hcr.mono ?_); rintro e w' ⟨rfl, hw'⟩; have hw'' := hw'.symm; subst hw'') | (go_at_call 47; (with_reducible refine hct.mono ?_); rintro e w' ⟨rfl, hw'⟩; have hw'' := hw'.symm; subst hw'') | (go_at_call 47; (with_reducible refine hci.mono ?_); rintro e w' ⟨rfl, hw'⟩; have hw'' := hw'.symm; subst hw''))
                go_ret
                exact RSyncPost.no hE5.out (by omega) hC.out.img hC.out.mods
          | false =>
            have hcond : Hid (((rep.contains (m : Int) || tar.contains (m : Int)) && (isr.contains (m : Int) || isUp nds (m : Int))) = false) := Lib.hid (by rw [← e1.out, ← e2.out]; simp)
            have hE5 : Hid (E = 5) := Lib.hid (by
              rw [hE4.out, if_neg]
              rw [isrOk, not_all_of hy.out hcond.out]; simp)
            clear hE4 hcond hno
            go_wp2_with (first | (go_at_call 47; (with_reducible refine hcr.mono ?_); rintro e w' ⟨rfl, hw'⟩; have hw'' := hw'.symm; subst hw'') | (go_at_call 47; (with_reducible refine hct.mono ?_); rintro e w' ⟨rfl, hw'⟩; have hw'' := hw'.symm; subst hw'') | (go_at_call 47; (with_reducible refine hci.mono ?_); rintro e w' ⟨rfl, hw'⟩; have hw'' := hw'.symm; subst hw''))
            go_ret
            exact RSyncPost.no hE5.out (by omega) hC.out.img hC.out.mods
      · obtain rfl : i = l.length := by omega
        clear hlt
        have hall : Hid (isrOk nds l ⟨lead, ep, ver, isr, rep, tar⟩ = true) := Lib.hid (all_of (fun j x hj hx => hno.out j x hj hx))
        have hE5 : Hid (E = 0) := Lib.hid (by rw [hE4.out, if_pos hall.out])
        clear hno hall hE4 hcr0 hct0 hci0
        have cb := cellOf hC.out.img.box
        have lb := ltOf hC.out.img.box
        have lg := hC.out.img.pts.1.ltAt
        go_upto_region 12 with fail
        refine wp_region_plan [(.pure, 0), (.pure, 1), (.pure, 2), (.read, 3), (.pure, 4), (.read, 5), (.pure, 6), (.read, 7), (.ben, 8), (.pure, 9), (.pure, 10), (.eff, 11)] 11 (fun W => Mods Nil _ W) mixed (by kernel_rfl) (by kernel_rfl) Mods.refl.drew ?_
        repeat first
           | (refine reg_pure (v := ?_) rfl rfl ?_ ?_; rotate_left 1; (· (intro W; go_simp <;> with_reducible rfl)); simp only [Act.put, List.setIfInBounds_toArray, List.set_cons_zero, List.set_cons_succ])
           | (refine reg_read (v := ?_) rfl rfl ?_ ?_; rotate_left 1; (· (intro W hW; have hW' := Mods.cells hW; go_simp <;> with_reducible rfl)); simp only [Act.put, List.setIfInBounds_toArray, List.set_cons_zero, List.set_cons_succ])
           | (refine reg_off (by rfl) (by rfl) ?_; simp only [Act.put, List.setIfInBounds_toArray, List.set_cons_zero, List.set_cons_succ])
           | (refine reg_pure_on (v := ?_) rfl (by rfl) ?_ ?_; rotate_left 1; (· (intro W; go_simp <;> with_reducible rfl)); simp only [Act.put, List.setIfInBounds_toArray, List.set_cons_zero, List.set_cons_succ])
           | (refine reg_read_on (v := ?_) rfl (by rfl) ?_ ?_; rotate_left 1; (· (intro W hW; have hW' := Mods.cells hW; go_simp <;> with_reducible rfl)); simp only [Act.put, List.setIfInBounds_toArray, List.set_cons_zero, List.set_cons_succ])
        refine reg_ben (by rfl) (by rfl) (fun K hK => ?_)
        go_simp
        refine (own13_walk wr.drew xa xc l hlen hC.out.sl).mono ?_
        rintro e w3 ⟨na, nc, rfl, hN, hm3⟩
        replace hm3 := Mods.drew_left hm3
        refine hK _ _ hm3 ?_
        clear hK K
        have hC3 := hC.out.keep hm3
        have hN3 : Il w3 d.A (na, nc) l := Il.of_new hN (fun i hi => hC.out.img.lt i hi)
        have hpt3 := hC3.img.pts.2.1 _ (List.mem_of_getElem? hC3.part)
        have hok3 : (⟨lead, ep, ver, l, rep, tar⟩ : Pl).ok nds.length := ⟨hok.out.lead, hlen, hok.out.lr, hok.out.lt, hx.out, hok.out.tar⟩
        have h4 := hC3.img.setPart (p' := ⟨⟨lead, ep, ver, l, rep, tar⟩, (na, nc), (ra, rc), (ta, tc)⟩) (u := .slice na l.length nc) hC3.part (j := 3) (by omega) rfl ⟨hN3, hpt3.2.1, hpt3.2.2⟩ hok3
        have hk4 := get_set_same (a := (⟨⟨lead, ep, ver, l, rep, tar⟩, (na, nc), (ra, rc), (ta, tc)⟩ : Pt)) hC3.part
        have hm4 : Mods (fun i => i = d.gp) w3 (w3.setCell ⟨d.gp, d.op + k * 6 + 3, none⟩ (.slice na l.length nc)) := Mods.refl.setCell _ (fun _ => rfl)
        have hbx4 := hm4.keep hC3.box (fun e => hC3.bA d.gp (.inr (.inr (.inr (.inr rfl)))) e.symm)
        have hmw4 := (hC3.mods.mono (S' := fun i => i = d.gp) (fun _ h => h.elim)).trans hm4 (fun _ _ h => h)
        obtain ⟨-, -, -, c3, -, -⟩ := hC3.img.pts.cells hC3.part
        unfold Pt.vi at c3
        dsimp only at c3
        have f3 := hC3.img.pts.1.frzAt
        have l3 := hC3.img.pts.1.ltAt
        replace h4 := Lib.hid h4
        replace hk4 := Lib.hid hk4
        replace hmw4 := Lib.hid hmw4
        replace hbx4 := Lib.hid hbx4
        clear hC3 hN3 hpt3 hok3 hm4 hN
        try simp only [Act.put, List.setIfInBounds_toArray, List.set_cons_zero, List.set_cons_succ]
        repeat first
           | (refine reg_pure (v := ?_) rfl rfl ?_ ?_; rotate_left 1; (· (intro W; go_simp <;> with_reducible rfl)); simp only [Act.put, List.setIfInBounds_toArray, List.set_cons_zero, List.set_cons_succ])
           | (refine reg_read (v := ?_) rfl rfl ?_ ?_; rotate_left 1; (· (intro W hW; have hW' := Mods.cells hW; go_simp <;> with_reducible rfl)); simp only [Act.put, List.setIfInBounds_toArray, List.set_cons_zero, List.set_cons_succ])
           | (refine reg_off (by rfl) (by rfl) ?_; simp only [Act.put, List.setIfInBounds_toArray, List.set_cons_zero, List.set_cons_succ])
           | (refine reg_pure_on (v := ?_) rfl (by rfl) ?_ ?_; rotate_left 1; (· (intro W; go_simp <;> with_reducible rfl)); simp only [Act.put, List.setIfInBounds_toArray, List.set_cons_zero, List.set_cons_succ])
           | (refine reg_read_on (v := ?_) rfl (by rfl) ?_ ?_; rotate_left 1; (· (intro W hW; have hW' := Mods.cells hW; go_simp <;> with_reducible rfl)); simp only [Act.put, List.setIfInBounds_toArray, List.set_cons_zero, List.set_cons_succ])
        refine reg_eff (by rfl) (by rfl) (fun K hK => ?_)
        go_simp
        refine hK _ _ ?_
        clear hK K
        refine reg_done (qnp_normal ?_)
        clear c3 f3 l3 cb lb lg cx lx cp lp hm3 hC hpp
        generalize w3.setCell ⟨d.gp, d.op + k * 6 + 3, none⟩ (.slice na l.length nc) = w4 at *
        have hpt4 := h4.out.pts.2.1 _ (List.mem_of_getElem? hk4.out)
        have hok4 := h4.out.pts.2.2.1 _ (List.mem_of_getElem? hk4.out)
        have h5 := h4.out.setPart (p' := ⟨⟨lead, ep, w64 (ver + 1), l, rep, tar⟩, (na, nc), (ra, rc), (ta, tc)⟩) (u := .int .i64 (wrap64 (ver + 1))) hk4.out (j := 2) (by omega) rfl hpt4 ⟨hok4.lead, hok4.li, hok4.lr, hok4.lt, hok4.isr, hok4.tar⟩
        have hk5 := get_set_same (a := (⟨⟨lead, ep, w64 (ver + 1), l, rep, tar⟩, (na, nc), (ra, rc), (ta, tc)⟩ : Pt)) hk4.out
        rw [set_set_same] at h5 hk5
        have hm5 := hmw4.out.setCell (a := ⟨d.gp, d.op + k * 6 + 2, none⟩) (.int .i64 (wrap64 (ver + 1))) (fun _ => rfl)
        have hbx5 := (heap_setCell_ne (a := ⟨d.gp, d.op + k * 6 + 2, none⟩) (fun e => hbgp.out e.symm) (.int .i64 (wrap64 (ver + 1)))).trans hbx4.out
        have cb := cellOf h4.out.box
        have lb := ltOf h4.out.box
        rw [List.length_set] at cb
        obtain ⟨-, -, c2, -, -, -⟩ := h4.out.pts.cells hk4.out
        dsimp only at c2
        have lg := h4.out.pts.1.ltAt
        have fg := h4.out.pts.1.frzAt
        have cx := cellOf hbx4.out
        have lx := ltOf hbx4.out
        have k1' : (k : Int) < (L.length : Int) := k1
        replace h5 := Lib.hid h5
        replace hk5 := Lib.hid hk5
        replace hm5 := Lib.hid hm5
        replace hbx5 := Lib.hid hbx5
        clear hpt4 hok4
        go_upto_region 13 with fail
        refine wp_region_plan [(.pure, 0), (.pure, 1), (.pure, 2), (.read, 3), (.pure, 4), (.read, 5), (.pure, 6), (.pure, 7), (.read, 8), (.pure, 9), (.pure, 10), (.pure, 11), (.eff, 12)] 12 (fun W => Mods Nil _ W) mixed (by kernel_rfl) (by kernel_rfl) Mods.refl.drew ?_
        repeat first
           | (refine reg_pure (v := ?_) rfl rfl ?_ ?_; rotate_left 1; (· (intro W; go_simp <;> with_reducible rfl)); simp only [Act.put, List.setIfInBounds_toArray, List.set_cons_zero, List.set_cons_succ])
           | (refine reg_read (v := ?_) rfl rfl ?_ ?_; rotate_left 1; (· (intro W hW; have hW' := Mods.cells hW; go_simp <;> with_reducible rfl)); simp only [Act.put, List.setIfInBounds_toArray, List.set_cons_zero, List.set_cons_succ])
           | (refine reg_off (by rfl) (by rfl) ?_; simp only [Act.put, List.setIfInBounds_toArray, List.set_cons_zero, List.set_cons_succ])
           | (refine reg_pure_on (v := ?_) rfl (by rfl) ?_ ?_; rotate_left 1; (· (intro W; go_simp <;> with_reducible rfl)); simp only [Act.put, List.setIfInBounds_toArray, List.set_cons_zero, List.set_cons_succ])
           | (refine reg_read_on (v := ?_) rfl (by rfl) ?_ ?_; rotate_left 1; (· (intro W hW; have hW' := Mods.cells hW; go_simp <;> with_reducible rfl)); simp only [Act.put, List.setIfInBounds_toArray, List.set_cons_zero, List.set_cons_succ])
        refine reg_eff (by rfl) (by rfl) (fun K hK => ?_)
        go_simp
        refine hK _ _ ?_
        clear hK K
        refine reg_done (qnp_normal ?_)
        clear cb lb c2 lg fg cx lx h4 hk4 hmw4 hbx4
        rw [show IntKind.i64.wrap (ver + 1) = wrap64 (ver + 1) from IntWalk.i64_left _]
        generalize w4.setCell ⟨d.gp, d.op + k * 6 + 2, none⟩ (.int .i64 (wrap64 (ver + 1))) = w5 at *
        have hset : Hid (∀ W, Mods Nil w5 W → Calls Try.prog 52 #[.pointer (some ⟨d.b, 0, none⟩), .int .i64 k] W
          fun e w' => e = .returned (.tuple #[]) ∧ (∃ p', p'.pl = settleP nds ⟨lead, ep, w64 (ver + 1), l, rep, tar⟩ ∧ RImg w' d nds (L.set k p') next count) ∧ Mods (fun i => i = d.gp) W w') := Lib.hid (fun W hW => by
            have := rsettle_walk W d nds _ next count k _ (h5.out.keepNil hW) hk5.out
            simpa only [set_set_same] using this)
        have cx := cellOf hbx5.out
        have lx := ltOf hbx5.out
        clear h5 hk5
        go_wp2_with (go_at_call 52; (with_reducible refine (hset.out _ (by repeat (first | exact Mods.refl | apply Mods.drew))).mono ?_); rintro e w6 ⟨rfl, ⟨q, hq, h6⟩, hm6⟩)
        go_ret
        refine ⟨by rw [hE5.out]; rfl, (hm5.out.mono (S' := d.A) (fun i hi => .inr (.inr (.inr (.inr hi))))).trans (S' := d.A) (Mods.mono (by first | exact hm6 | exact Mods.drew_left hm6) (fun i hi => .inr (.inr (.inr (.inr hi))))) (fun _ _ h => h), _, h6, ?_⟩
        rw [hE5.out, if_pos rfl, List.map_set, hq]
        rfl
end Go.Proofs.Ytnnoicacpcahfaa
