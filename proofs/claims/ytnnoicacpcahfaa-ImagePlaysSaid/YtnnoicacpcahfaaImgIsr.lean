/- (*Image).isr, walked. No condition. -/
import Derived.Test.YtnnoicacpcahfaaImgMove
namespace Go.Proofs.Ytnnoicacpcahfaa
open Go.RowKit

/-- What the call leaves: its number, and the partitions. -/
def IsrPost (w : World) (d : Ad) (nds : List Nd) (L : List Pt) (next count : Int) (k : Nat) (E : Int) (q : Pl) (e : Ending) (w' : World) : Prop :=
  e = .returned (.int .i64 E) ∧ Mods d.A w w' ∧ ∃ L', Img w' d nds L' next count ∧ L'.map Pt.pl = if E = 0 then (L.map Pt.pl).set k q else L.map Pt.pl
theorem IsrPost.no {w w' : World} {d : Ad} {nds : List Nd} {L : List Pt} {next count : Int} {k : Nat} {E : Int} {q : Pl} {v : Int} (hE : E = v) (hv : v ≠ 0) (hI : Img w' d nds L next count) (hm : Mods Nil w w') : IsrPost w d nds L next count k E q (.returned (.int .i64 v)) w' := by
  refine ⟨by rw [hE], hm.mono (fun _ h => h.elim), L, hI, ?_⟩
  rw [hE, if_neg hv]
theorem any_not {l : List Int} {f : Int → Bool} {j : Nat} {x : Int} (hj : l[j]? = some x) (hf : f x = false) : l.all f = false := not_all_of hj hf

/-- The world between the first region and the loop: all that the walk asks of it. -/
structure IsrCtx (w w2 : World) (B : Nat) (d : Ad) (nds : List Nd) (L : List Pt) (next count : Int) (k : Nat) (p : Pt) (kind node ep' ver' : Int) (xa : Option Addr) (xc : Nat) (l : List Int) : Prop where
  img : Img w2 d nds L next count
  sl : Sl w2 3 1 (.slice xa l.length xc) l.length (ints l)
  box : w2.heap[B]? = some (.cells #[.int .i64 kind, .int .i64 node, .int .i64 k, .int .i64 ep', .int .i64 ver', .slice xa l.length xc] 61 (0, 0))
  mods : Mods Nil w w2
  part : L[k]? = some p
theorem IsrCtx.keep {w w2 w3 : World} {B : Nat} {d : Ad} {nds : List Nd} {L : List Pt} {next count : Int} {k : Nat} {p : Pt} {kind node ep' ver' : Int} {xa : Option Addr} {xc : Nat} {l : List Int} (h : IsrCtx w w2 B d nds L next count k p kind node ep' ver' xa xc l) (hm : Mods Nil w2 w3) : IsrCtx w w3 B d nds L next count k p kind node ep' ver' xa xc l :=
  ⟨h.img.keepNil hm, slKeep h.sl hm (fun _ _ => id), hm.keep h.box id, h.mods.trans hm (fun _ _ h => h), h.part⟩

set_option maxRecDepth 100000 in
set_option maxHeartbeats 6400000 in
theorem isr_walk (w : World) (d : Ad) (nds : List Nd) (L : List Pt) (next count : Int) (k : Nat) (p : Pt) (kind node ep' ver' : Int) (xa : Option Addr) (xc : Nat) (l : List Int) (h : Img w d nds L next count) (hk : L[k]? = some p)
    (hlen : l.length * 8 ≤ 140737488355328) (hs : Sl w 3 1 (.slice xa l.length xc) l.length (ints l)) :
    Calls Try.prog 43 #[.pointer (some ⟨d.b, 0, none⟩), .agg #[.int .i64 kind, .int .i64 node, .int .i64 k, .int .i64 ep', .int .i64 ver', .slice xa l.length xc]] w
      fun e w' => IsrPost w d nds L next count k (isrE nds node ep' ver' l p.pl) (isrP nds l p.pl) e w' := by
  have hkl : k < L.length := (List.getElem?_eq_some_iff.1 hk).1
  have hm0 : Mods Nil w (w.alloc (.cells #[.int .i64 kind, .int .i64 node, .int .i64 k, .int .i64 ep', .int .i64 ver', .slice xa l.length xc] 61)) := Mods.refl.alloc _
  have hC : IsrCtx w (w.alloc (.cells #[.int .i64 kind, .int .i64 node, .int .i64 k, .int .i64 ep', .int .i64 ver', .slice xa l.length xc] 61)) w.heap.size d nds L next count k p kind node ep' ver' xa xc l :=
    ⟨h.keepNil hm0, slKeep hs hm0 (fun _ _ => id), heap_new w _, hm0, hk⟩
  have hok := h.2.2.1.2.2.1 p (List.mem_of_getElem? hk)
  have hpcap := h.2.2.1.1.capAt.1
  have k0 : (0 : Int) ≤ (k : Int) := by omega
  have k1 : (k : Int) < (L.length : Int) := by omega
  obtain ⟨⟨lead, ep, ver, isr, rep, tar⟩, ⟨la, lc⟩, ⟨ra, rc⟩, ⟨ta, tc⟩⟩ := p
  dsimp only at *
  obtain ⟨E, hE⟩ : ∃ E, E = isrE nds node ep' ver' l ⟨lead, ep, ver, isr, rep, tar⟩ := ⟨_, rfl⟩
  rw [← hE]
  replace hE := Lib.hid hE
  replace hok := Lib.hid hok
  clear h hs hm0 hk
  replace hC := Lib.hid hC
  go_enter Try.func43, Try.ntmps43
  go_upto_region 1 with fail
  generalize w.alloc (.cells #[.int .i64 kind, .int .i64 node, .int .i64 k, .int .i64 ep', .int .i64 ver', .slice xa l.length xc] 61) = w1 at *
  generalize w.heap.size = B at *
  have cb := cellOf hC.out.img.1
  have lb := ltOf hC.out.img.1
  have cx := cellOf hC.out.box
  have lx := ltOf hC.out.box
  refine wp_region_plan [(.pure, 0), (.pure, 1), (.pure, 2), (.read, 3), (.pure, 4), (.read, 5), (.pure, 6), (.pure, 7)] 8 (fun W => Mods Nil _ W) mixed (by kernel_rfl) (by kernel_rfl) Mods.refl.drew ?_
  repeat first
     | (refine reg_pure (v := ?_) rfl rfl ?_ ?_; rotate_left 1; (· (intro W; go_simp <;> with_reducible rfl)); simp only [Act.put, List.setIfInBounds_toArray, List.set_cons_zero, List.set_cons_succ])
     | (refine reg_read (v := ?_) rfl rfl ?_ ?_; rotate_left 1; (· (intro W hW; have hW' := Mods.cells hW; go_simp <;> with_reducible rfl)); simp only [Act.put, List.setIfInBounds_toArray, List.set_cons_zero, List.set_cons_succ])
     | (refine reg_off (by rfl) (by rfl) ?_; simp only [Act.put, List.setIfInBounds_toArray, List.set_cons_zero, List.set_cons_succ])
     | (refine reg_pure_on (v := ?_) rfl (by rfl) ?_ ?_; rotate_left 1; (· (intro W; go_simp <;> with_reducible rfl)); simp only [Act.put, List.setIfInBounds_toArray, List.set_cons_zero, List.set_cons_succ])
     | (refine reg_read_on (v := ?_) rfl (by rfl) ?_ ?_; rotate_left 1; (· (intro W hW; have hW' := Mods.cells hW; go_simp <;> with_reducible rfl)); simp only [Act.put, List.setIfInBounds_toArray, List.set_cons_zero, List.set_cons_succ])
  refine reg_done (qnp_normal ?_)
  replace hC := Lib.hid (hC.out.keep (Mods.refl.drew : Mods Nil w1 w1.drew))
  clear cb lb cx lx
  generalize w1.drew = w2 at *
  clear w1
  have cx := cellOf hC.out.box
  have lx := ltOf hC.out.box
  have hso := sorted_walk w2 d nds L next count xa xc l hC.out.img hlen hC.out.sl
  obtain ⟨tb, htb⟩ : ∃ tb, tb = rises nds.length l := ⟨_, rfl⟩
  rw [← htb] at hso
  cases tb with
  | false =>
    have hE1 : Hid (E = 1) := Lib.hid (by rw [hE.out, isrE, ← htb]; rfl)
    clear htb
    go_wp2_with (go_at_call 70; refine hso.mono ?_; rintro e w' ⟨rfl, rfl⟩)
    go_ret
    exact IsrPost.no hE1.out (by omega) hC.out.img hC.out.mods
  | true =>
    have hx := Lib.hid (rises_in htb.symm)
    have hE2 : Hid (E = if lead < 0 ∨ ep' ≠ ep ∨ node ≠ lead ∨ ver' ≠ ver then 12 else if l.contains lead = true then (if isrOk nds l ⟨lead, ep, ver, isr, rep, tar⟩ = true then 0 else 5) else 5) := Lib.hid (by rw [hE.out, isrE, if_pos htb.symm])
    clear htb
    go_upto_region 4 with (go_at_call 70; refine hso.mono ?_; rintro e w' ⟨rfl, hw'⟩; have hw'' := hw'.symm; subst hw'')
    clear hso
    obtain ⟨c0, c1, c2, c3, c4, c5⟩ := hC.out.img.2.2.1.cells hC.out.part
    have lp := hC.out.img.2.2.1.1.ltAt
    unfold Pt.vi at c3
    unfold Pt.vr at c4
    unfold Pt.vt at c5
    dsimp only at c0 c1 c2 c3 c4 c5
    by_cases q0 : lead < 0
    · have hbad : Hid (lead < 0 ∨ ep' ≠ ep ∨ node ≠ lead ∨ ver' ≠ ver) := Lib.hid (.inl q0)
      have hE3 : Hid (E = 12) := Lib.hid (by rw [hE2.out, if_pos hbad.out])
      clear hE2 hE hbad
      refine wp_region_plan [(.pure, 0), (.pure, 1), (.pure, 2), (.read, 3), (.pure, 4), (.pure, 5), (.pure, 6), (.read, 7), (.pure, 8), (.pure, 9), (.pure, 10), (.read, 11), (.pure, 12), (.pure, 13), (.pure, 14), (.pure, 15), (.read, 16), (.pure, 17), (.pure, 18), (.pure, 19), (.read, 20), (.pure, 21), (.pure, 22), (.pure, 23), (.pure, 24), (.read, 25), (.pure, 26), (.pure, 27), (.pure, 28), (.read, 29), (.pure, 30), (.pure, 31), (.pure, 32)] 33 (fun W => Mods Nil _ W) mixed (by kernel_rfl) (by kernel_rfl) Mods.refl.drew ?_
      repeat first
         | (refine reg_pure (v := ?_) rfl rfl ?_ ?_; rotate_left 1; (· (intro W; go_simp <;> with_reducible rfl)); simp only [Act.put, List.setIfInBounds_toArray, List.set_cons_zero, List.set_cons_succ])
         | (refine reg_read (v := ?_) rfl rfl ?_ ?_; rotate_left 1; (· (intro W hW; have hW' := Mods.cells hW; go_simp <;> with_reducible rfl)); simp only [Act.put, List.setIfInBounds_toArray, List.set_cons_zero, List.set_cons_succ])
         | (refine reg_off (by rfl) (by rfl) ?_; simp only [Act.put, List.setIfInBounds_toArray, List.set_cons_zero, List.set_cons_succ])
         | (refine reg_pure_on (v := ?_) rfl (by rfl) ?_ ?_; rotate_left 1; (· (intro W; go_simp <;> with_reducible rfl)); simp only [Act.put, List.setIfInBounds_toArray, List.set_cons_zero, List.set_cons_succ])
         | (refine reg_read_on (v := ?_) rfl (by rfl) ?_ ?_; rotate_left 1; (· (intro W hW; have hW' := Mods.cells hW; go_simp <;> with_reducible rfl)); simp only [Act.put, List.setIfInBounds_toArray, List.set_cons_zero, List.set_cons_succ])
      refine reg_done (qnp_normal ?_)
      go_wp2
      go_ret
      exact IsrPost.no hE3.out (by omega) (hC.out.keep (Mods.refl.drew : Mods Nil w2 w2.drew)).img (hC.out.keep (Mods.refl.drew : Mods Nil w2 w2.drew)).mods
    by_cases q1 : ep' = ep
    rotate_left
    · have hbad : Hid (lead < 0 ∨ ep' ≠ ep ∨ node ≠ lead ∨ ver' ≠ ver) := Lib.hid (.inr (.inl q1))
      have b1 : (ep' != ep) = true := by simpa using q1
      clear q1
      have hE3 : Hid (E = 12) := Lib.hid (by rw [hE2.out, if_pos hbad.out])
      clear hE2 hE hbad
      refine wp_region_plan [(.pure, 0), (.pure, 1), (.pure, 2), (.read, 3), (.pure, 4), (.pure, 5), (.pure, 6), (.read, 7), (.pure, 8), (.pure, 9), (.pure, 10), (.read, 11), (.pure, 12), (.pure, 13), (.pure, 14), (.pure, 15), (.read, 16), (.pure, 17), (.pure, 18), (.pure, 19), (.read, 20), (.pure, 21), (.pure, 22), (.pure, 23), (.pure, 24), (.read, 25), (.pure, 26), (.pure, 27), (.pure, 28), (.read, 29), (.pure, 30), (.pure, 31), (.pure, 32)] 33 (fun W => Mods Nil _ W) mixed (by kernel_rfl) (by kernel_rfl) Mods.refl.drew ?_
      repeat first
         | (refine reg_pure (v := ?_) rfl rfl ?_ ?_; rotate_left 1; (· (intro W; go_simp <;> with_reducible rfl)); simp only [Act.put, List.setIfInBounds_toArray, List.set_cons_zero, List.set_cons_succ])
         | (refine reg_read (v := ?_) rfl rfl ?_ ?_; rotate_left 1; (· (intro W hW; have hW' := Mods.cells hW; go_simp <;> with_reducible rfl)); simp only [Act.put, List.setIfInBounds_toArray, List.set_cons_zero, List.set_cons_succ])
         | (refine reg_off (by rfl) (by rfl) ?_; simp only [Act.put, List.setIfInBounds_toArray, List.set_cons_zero, List.set_cons_succ])
         | (refine reg_pure_on (v := ?_) rfl (by rfl) ?_ ?_; rotate_left 1; (· (intro W; go_simp <;> with_reducible rfl)); simp only [Act.put, List.setIfInBounds_toArray, List.set_cons_zero, List.set_cons_succ])
         | (refine reg_read_on (v := ?_) rfl (by rfl) ?_ ?_; rotate_left 1; (· (intro W hW; have hW' := Mods.cells hW; go_simp <;> with_reducible rfl)); simp only [Act.put, List.setIfInBounds_toArray, List.set_cons_zero, List.set_cons_succ])
      refine reg_done (qnp_normal ?_)
      go_wp2
      go_ret
      exact IsrPost.no hE3.out (by omega) (hC.out.keep (Mods.refl.drew : Mods Nil w2 w2.drew)).img (hC.out.keep (Mods.refl.drew : Mods Nil w2 w2.drew)).mods
    have b1 : (ep' != ep) = false := by simpa using q1
    replace q1 := Lib.hid q1
    by_cases q2 : node = lead
    rotate_left
    · have hbad : Hid (lead < 0 ∨ ep' ≠ ep ∨ node ≠ lead ∨ ver' ≠ ver) := Lib.hid (.inr (.inr (.inl q2)))
      have b2 : (node != lead) = true := by simpa using q2
      clear q2
      have hE3 : Hid (E = 12) := Lib.hid (by rw [hE2.out, if_pos hbad.out])
      clear hE2 hE hbad
      refine wp_region_plan [(.pure, 0), (.pure, 1), (.pure, 2), (.read, 3), (.pure, 4), (.pure, 5), (.pure, 6), (.read, 7), (.pure, 8), (.pure, 9), (.pure, 10), (.read, 11), (.pure, 12), (.pure, 13), (.pure, 14), (.pure, 15), (.read, 16), (.pure, 17), (.pure, 18), (.pure, 19), (.read, 20), (.pure, 21), (.pure, 22), (.pure, 23), (.pure, 24), (.read, 25), (.pure, 26), (.pure, 27), (.pure, 28), (.read, 29), (.pure, 30), (.pure, 31), (.pure, 32)] 33 (fun W => Mods Nil _ W) mixed (by kernel_rfl) (by kernel_rfl) Mods.refl.drew ?_
      repeat first
         | (refine reg_pure (v := ?_) rfl rfl ?_ ?_; rotate_left 1; (· (intro W; go_simp <;> with_reducible rfl)); simp only [Act.put, List.setIfInBounds_toArray, List.set_cons_zero, List.set_cons_succ])
         | (refine reg_read (v := ?_) rfl rfl ?_ ?_; rotate_left 1; (· (intro W hW; have hW' := Mods.cells hW; go_simp <;> with_reducible rfl)); simp only [Act.put, List.setIfInBounds_toArray, List.set_cons_zero, List.set_cons_succ])
         | (refine reg_off (by rfl) (by rfl) ?_; simp only [Act.put, List.setIfInBounds_toArray, List.set_cons_zero, List.set_cons_succ])
         | (refine reg_pure_on (v := ?_) rfl (by rfl) ?_ ?_; rotate_left 1; (· (intro W; go_simp <;> with_reducible rfl)); simp only [Act.put, List.setIfInBounds_toArray, List.set_cons_zero, List.set_cons_succ])
         | (refine reg_read_on (v := ?_) rfl (by rfl) ?_ ?_; rotate_left 1; (· (intro W hW; have hW' := Mods.cells hW; go_simp <;> with_reducible rfl)); simp only [Act.put, List.setIfInBounds_toArray, List.set_cons_zero, List.set_cons_succ])
      refine reg_done (qnp_normal ?_)
      go_wp2
      go_ret
      exact IsrPost.no hE3.out (by omega) (hC.out.keep (Mods.refl.drew : Mods Nil w2 w2.drew)).img (hC.out.keep (Mods.refl.drew : Mods Nil w2 w2.drew)).mods
    have b2 : (node != lead) = false := by simpa using q2
    replace q2 := Lib.hid q2
    by_cases q3 : ver' = ver
    rotate_left
    · have hbad : Hid (lead < 0 ∨ ep' ≠ ep ∨ node ≠ lead ∨ ver' ≠ ver) := Lib.hid (.inr (.inr (.inr q3)))
      have b3 : (ver' != ver) = true := by simpa using q3
      clear q3
      have hE3 : Hid (E = 12) := Lib.hid (by rw [hE2.out, if_pos hbad.out])
      clear hE2 hE hbad
      refine wp_region_plan [(.pure, 0), (.pure, 1), (.pure, 2), (.read, 3), (.pure, 4), (.pure, 5), (.pure, 6), (.read, 7), (.pure, 8), (.pure, 9), (.pure, 10), (.read, 11), (.pure, 12), (.pure, 13), (.pure, 14), (.pure, 15), (.read, 16), (.pure, 17), (.pure, 18), (.pure, 19), (.read, 20), (.pure, 21), (.pure, 22), (.pure, 23), (.pure, 24), (.read, 25), (.pure, 26), (.pure, 27), (.pure, 28), (.read, 29), (.pure, 30), (.pure, 31), (.pure, 32)] 33 (fun W => Mods Nil _ W) mixed (by kernel_rfl) (by kernel_rfl) Mods.refl.drew ?_
      repeat first
         | (refine reg_pure (v := ?_) rfl rfl ?_ ?_; rotate_left 1; (· (intro W; go_simp <;> with_reducible rfl)); simp only [Act.put, List.setIfInBounds_toArray, List.set_cons_zero, List.set_cons_succ])
         | (refine reg_read (v := ?_) rfl rfl ?_ ?_; rotate_left 1; (· (intro W hW; have hW' := Mods.cells hW; go_simp <;> with_reducible rfl)); simp only [Act.put, List.setIfInBounds_toArray, List.set_cons_zero, List.set_cons_succ])
         | (refine reg_off (by rfl) (by rfl) ?_; simp only [Act.put, List.setIfInBounds_toArray, List.set_cons_zero, List.set_cons_succ])
         | (refine reg_pure_on (v := ?_) rfl (by rfl) ?_ ?_; rotate_left 1; (· (intro W; go_simp <;> with_reducible rfl)); simp only [Act.put, List.setIfInBounds_toArray, List.set_cons_zero, List.set_cons_succ])
         | (refine reg_read_on (v := ?_) rfl (by rfl) ?_ ?_; rotate_left 1; (· (intro W hW; have hW' := Mods.cells hW; go_simp <;> with_reducible rfl)); simp only [Act.put, List.setIfInBounds_toArray, List.set_cons_zero, List.set_cons_succ])
      refine reg_done (qnp_normal ?_)
      go_wp2
      go_ret
      exact IsrPost.no hE3.out (by omega) (hC.out.keep (Mods.refl.drew : Mods Nil w2 w2.drew)).img (hC.out.keep (Mods.refl.drew : Mods Nil w2 w2.drew)).mods
    have b3 : (ver' != ver) = false := by simpa using q3
    have hE3 : Hid (E = if l.contains lead = true then (if isrOk nds l ⟨lead, ep, ver, isr, rep, tar⟩ = true then 0 else 5) else 5) := Lib.hid (by
      rw [hE2.out, if_neg]
      rintro (h | h | h | h)
      · exact q0 h
      · exact h q1.out
      · exact h q2.out
      · exact h q3)
    clear q3 hE2 hE q1 q2
    refine wp_region_plan [(.pure, 0), (.pure, 1), (.pure, 2), (.read, 3), (.pure, 4), (.pure, 5), (.pure, 6), (.read, 7), (.pure, 8), (.pure, 9), (.pure, 10), (.read, 11), (.pure, 12), (.pure, 13), (.pure, 14), (.pure, 15), (.read, 16), (.pure, 17), (.pure, 18), (.pure, 19), (.read, 20), (.pure, 21), (.pure, 22), (.pure, 23), (.pure, 24), (.read, 25), (.pure, 26), (.pure, 27), (.pure, 28), (.read, 29), (.pure, 30), (.pure, 31), (.pure, 32)] 33 (fun W => Mods Nil _ W) mixed (by kernel_rfl) (by kernel_rfl) Mods.refl.drew ?_
    repeat first
       | (refine reg_pure (v := ?_) rfl rfl ?_ ?_; rotate_left 1; (· (intro W; go_simp <;> with_reducible rfl)); simp only [Act.put, List.setIfInBounds_toArray, List.set_cons_zero, List.set_cons_succ])
       | (refine reg_read (v := ?_) rfl rfl ?_ ?_; rotate_left 1; (· (intro W hW; have hW' := Mods.cells hW; go_simp <;> with_reducible rfl)); simp only [Act.put, List.setIfInBounds_toArray, List.set_cons_zero, List.set_cons_succ])
       | (refine reg_off (by rfl) (by rfl) ?_; simp only [Act.put, List.setIfInBounds_toArray, List.set_cons_zero, List.set_cons_succ])
       | (refine reg_pure_on (v := ?_) rfl (by rfl) ?_ ?_; rotate_left 1; (· (intro W; go_simp <;> with_reducible rfl)); simp only [Act.put, List.setIfInBounds_toArray, List.set_cons_zero, List.set_cons_succ])
       | (refine reg_read_on (v := ?_) rfl (by rfl) ?_ ?_; rotate_left 1; (· (intro W hW; have hW' := Mods.cells hW; go_simp <;> with_reducible rfl)); simp only [Act.put, List.setIfInBounds_toArray, List.set_cons_zero, List.set_cons_succ])
    refine reg_done (qnp_normal ?_)
    replace hC := Lib.hid (hC.out.keep (Mods.refl.drew : Mods Nil w2 w2.drew))
    clear b1 b2 b3
    have cx' : ∀ o, w2.drew.cell? ⟨B, o, none⟩ = _ := cx
    clear c0 c1 c2 c3 c4 c5 cx lx lp cx'
    generalize w2.drew = w3 at *
    clear w2
    have cx := cellOf hC.out.box
    have lx := ltOf hC.out.box
    obtain ⟨c0, c1, c2, c3, c4, c5⟩ := hC.out.img.2.2.1.cells hC.out.part
    have lp := hC.out.img.2.2.1.1.ltAt
    unfold Pt.vi at c3
    unfold Pt.vr at c4
    unfold Pt.vt at c5
    dsimp only at c0 c1 c2 c3 c4 c5
    have hcon := contains_walk w3.drew xa xc l lead (by omega) hC.out.sl
    obtain ⟨tb, htb⟩ : ∃ tb, tb = l.contains lead := ⟨_, rfl⟩
    rw [← htb] at hcon
    replace htb := Lib.hid htb
    go_upto_region 6 with fail
    refine wp_region_plan [(.pure, 0), (.read, 1), (.pure, 2), (.pure, 3), (.pure, 4), (.read, 5), (.ben, 6), (.pure, 7), (.pure, 8)] 9 (fun W => Mods Nil _ W) mixed (by kernel_rfl) (by kernel_rfl) Mods.refl.drew ?_
    repeat first
       | (refine reg_pure (v := ?_) rfl rfl ?_ ?_; rotate_left 1; (· (intro W; go_simp <;> with_reducible rfl)); simp only [Act.put, List.setIfInBounds_toArray, List.set_cons_zero, List.set_cons_succ])
       | (refine reg_read (v := ?_) rfl rfl ?_ ?_; rotate_left 1; (· (intro W hW; have hW' := Mods.cells hW; go_simp <;> with_reducible rfl)); simp only [Act.put, List.setIfInBounds_toArray, List.set_cons_zero, List.set_cons_succ])
       | (refine reg_off (by rfl) (by rfl) ?_; simp only [Act.put, List.setIfInBounds_toArray, List.set_cons_zero, List.set_cons_succ])
       | (refine reg_pure_on (v := ?_) rfl (by rfl) ?_ ?_; rotate_left 1; (· (intro W; go_simp <;> with_reducible rfl)); simp only [Act.put, List.setIfInBounds_toArray, List.set_cons_zero, List.set_cons_succ])
       | (refine reg_read_on (v := ?_) rfl (by rfl) ?_ ?_; rotate_left 1; (· (intro W hW; have hW' := Mods.cells hW; go_simp <;> with_reducible rfl)); simp only [Act.put, List.setIfInBounds_toArray, List.set_cons_zero, List.set_cons_succ])
    refine reg_ben (by rfl) (by rfl) (fun K hK => ?_)
    go_simp
    refine hcon.mono ?_
    rintro e w4 ⟨rfl, hw4⟩
    refine hK _ _ (by rw [hw4]; exact Mods.refl.drew) ?_
    clear hK K
    repeat first
       | (refine reg_pure (v := ?_) rfl rfl ?_ ?_; rotate_left 1; (· (intro W; go_simp <;> with_reducible rfl)); simp only [Act.put, List.setIfInBounds_toArray, List.set_cons_zero, List.set_cons_succ])
       | (refine reg_read (v := ?_) rfl rfl ?_ ?_; rotate_left 1; (· (intro W hW; have hW' := Mods.cells hW; go_simp <;> with_reducible rfl)); simp only [Act.put, List.setIfInBounds_toArray, List.set_cons_zero, List.set_cons_succ])
       | (refine reg_off (by rfl) (by rfl) ?_; simp only [Act.put, List.setIfInBounds_toArray, List.set_cons_zero, List.set_cons_succ])
       | (refine reg_pure_on (v := ?_) rfl (by rfl) ?_ ?_; rotate_left 1; (· (intro W; go_simp <;> with_reducible rfl)); simp only [Act.put, List.setIfInBounds_toArray, List.set_cons_zero, List.set_cons_succ])
       | (refine reg_read_on (v := ?_) rfl (by rfl) ?_ ?_; rotate_left 1; (· (intro W hW; have hW' := Mods.cells hW; go_simp <;> with_reducible rfl)); simp only [Act.put, List.setIfInBounds_toArray, List.set_cons_zero, List.set_cons_succ])
    refine reg_done (qnp_normal ?_)
    have hm4 : Mods Nil w3 w4 := by rw [hw4]; exact Mods.refl.drew
    replace hC := Lib.hid (hC.out.keep hm4)
    clear c0 c1 c2 c3 c4 c5 cx lx lp hcon hw4 hm4 w3
    cases tb with
    | false =>
      have hE4 : Hid (E = 5) := Lib.hid (by rw [hE3.out, ← htb.out]; rfl)
      clear htb
      go_wp2
      go_ret
      exact IsrPost.no hE4.out (by omega) hC.out.img hC.out.mods
    | true =>
      have hE4 : Hid (E = if isrOk nds l ⟨lead, ep, ver, isr, rep, tar⟩ = true then 0 else 5) := Lib.hid (by rw [hE3.out, if_pos htb.out.symm])
      clear htb hE3
      have cx := cellOf hC.out.box
      have lx := ltOf hC.out.box
      go_wp2_with fail
      have hcr0 : Hid (∀ x, Calls Try.prog 65 #[.slice ra rep.length rc, .int .i64 x] w4 fun e w' => e = .returned (.bool (rep.contains x)) ∧ w' = w4) := Lib.hid (fun x => contains_walk w4 ra rc rep x (by have := hok.out.lr; dsimp only at this; omega) (hC.out.img.2.2.1.2.1 _ (List.mem_of_getElem? hC.out.part)).2.1.1)
      have hct0 : Hid (∀ x, Calls Try.prog 65 #[.slice ta tar.length tc, .int .i64 x] w4 fun e w' => e = .returned (.bool (tar.contains x)) ∧ w' = w4) := Lib.hid (fun x => contains_walk w4 ta tc tar x (by have := hok.out.lt; dsimp only at this; omega) (hC.out.img.2.2.1.2.1 _ (List.mem_of_getElem? hC.out.part)).2.2.1)
      have hci0 : Hid (∀ x, Calls Try.prog 65 #[.slice la isr.length lc, .int .i64 x] w4 fun e w' => e = .returned (.bool (isr.contains x)) ∧ w' = w4) := Lib.hid (fun x => contains_walk w4 la lc isr x (by have := hok.out.li; dsimp only at this; omega) (hC.out.img.2.2.1.2.1 _ (List.mem_of_getElem? hC.out.part)).1.1)
      have hrd := Lib.hid hC.out.sl.rd
      have cb := cellOf hC.out.img.1
      have lb := ltOf hC.out.img.1
      obtain ⟨-, -, -, c3, c4, c5⟩ := hC.out.img.2.2.1.cells hC.out.part
      have lp := hC.out.img.2.2.1.1.ltAt
      have hnc := hC.out.img.2.1.capAt.1
      unfold Pt.vi at c3
      unfold Pt.vr at c4
      unfold Pt.vt at c5
      dsimp only at c3 c4 c5
      have hnd : Hid (∀ (i : Nat) (y : Int), l[i]? = some y → 0 ≤ y ∧ y < nds.length ∧ w4.cell? ⟨d.gn, d.on + y.toNat * 3, none⟩ = some (.bool (isUp nds y))) := Lib.hid (fun i y hy => by
        obtain ⟨a, b⟩ := hx.out y (List.mem_of_getElem? hy)
        have hlt : y.toNat < nds.length := by omega
        refine ⟨a, b, ?_⟩
        rw [(hC.out.img.nodeCells (List.getElem?_eq_getElem hlt)).1, isUp, List.getElem?_eq_getElem hlt]; rfl)
      have hlb : l.length ≤ 9223372036854775807 := by omega
      go_loopw [67] (fun s67 wr => ∃ i : Nat, i ≤ l.length ∧ s67 = .int .i64 i ∧ Hid (∀ j x, j < i → l[j]? = some x → ((rep.contains x || tar.contains x) && (isr.contains x || isUp nds x)) = true) ∧ wr = w4) (fun s67 _ => l.length - (intOf s67).toNat)
      case atStart => exact ⟨0, by omega, rfl, Lib.hid (fun j x hj => by omega), rfl⟩
      case round =>
        obtain ⟨i, hi, rfl, hno, rfl⟩ := hrel
        by_cases hlt : i < l.length
        · obtain ⟨g, off, rfl, hg, hcells⟩ := hrd.out.form (by omega) (by omega)
          have cy0 : wr.cell? ⟨g, off + i, none⟩ = some (.int .i64 l[i]) := by
            rw [hcells i (by omega), ints_at, List.getElem?_eq_getElem hlt]; rfl
          have hy : Hid (l[i]? = some l[i]) := Lib.hid (List.getElem?_eq_getElem hlt)
          generalize l[i] = y at *
          clear hcells
          obtain ⟨y0, y1, cy⟩ := hnd.out i y hy.out
          obtain ⟨m, rfl⟩ : ∃ m : Nat, y = (m : Int) := ⟨y.toNat, by omega⟩
          rw [Int.toNat_natCast] at cy
          have i0 : (0 : Int) ≤ (i : Int) := by omega
          have i1 : (i : Int) < (l.length : Int) := by omega
          have hltH := Lib.hid hlt
          have hcr := hcr0.out (m : Int)
          have hct := hct0.out (m : Int)
          have hci := hci0.out (m : Int)
          obtain ⟨b1, e1⟩ : ∃ b1, b1 = rep.contains (m : Int) := ⟨_, rfl⟩
          obtain ⟨b2, e2⟩ : ∃ b2, b2 = tar.contains (m : Int) := ⟨_, rfl⟩
          obtain ⟨b3, e3⟩ : ∃ b3, b3 = isr.contains (m : Int) := ⟨_, rfl⟩
          rw [← e1] at hcr
          rw [← e2] at hct
          rw [← e3] at hci
          replace e1 := Lib.hid e1
          replace e2 := Lib.hid e2
          replace e3 := Lib.hid e3
          clear hrd
          cases b1 with
          | true =>
            cases b3 with
            | true =>
              have hcond : Hid (((rep.contains (m : Int) || tar.contains (m : Int)) && (isr.contains (m : Int) || isUp nds (m : Int))) = true) := Lib.hid (by rw [← e1.out, ← e2.out, ← e3.out]; simp)
              go_wp2_with (first | (go_at_call 65; (with_reducible refine hcr.mono ?_); rintro e w' ⟨rfl, hw'⟩; have hw'' := hw'.symm; subst hw'') | (go_at_call 65; (with_reducible refine hct.mono ?_); rintro e w' ⟨rfl, hw'⟩; have hw'' := hw'.symm; subst hw'') | (go_at_call 65; (with_reducible refine hci.mono ?_); rintro e w' ⟨rfl, hw'⟩; have hw'' := hw'.symm; subst hw''))
              exact ⟨⟨i + 1, hltH.out, by go_num, Lib.hid (fun j x hj hx => by
                by_cases hji : j = i
                · subst hji
                  rw [hy.out] at hx
                  cases hx
                  exact hcond.out
                · exact hno.out j x (by omega) hx), trivial⟩, by have := hltH.out; simp [intOf]; omega⟩
            | false =>
              cases hup : isUp nds (m : Int) with
              | true =>
                have hcond : Hid (((rep.contains (m : Int) || tar.contains (m : Int)) && (isr.contains (m : Int) || isUp nds (m : Int))) = true) := Lib.hid (by rw [← e1.out, ← e2.out, ← e3.out, hup]; simp)
                rw [hup] at cy
                replace hup := Lib.hid hup
                go_wp2_with (first | (go_at_call 65; (with_reducible refine hcr.mono ?_); rintro e w' ⟨rfl, hw'⟩; have hw'' := hw'.symm; subst hw'') | (go_at_call 65; (with_reducible refine hct.mono ?_); rintro e w' ⟨rfl, hw'⟩; have hw'' := hw'.symm; subst hw'') | (go_at_call 65; (with_reducible refine hci.mono ?_); rintro e w' ⟨rfl, hw'⟩; have hw'' := hw'.symm; subst hw''))
                exact ⟨⟨i + 1, hltH.out, by go_num, Lib.hid (fun j x hj hx => by
                  by_cases hji : j = i
                  · subst hji
                    rw [hy.out] at hx
                    cases hx
                    exact hcond.out
                  · exact hno.out j x (by omega) hx), trivial⟩, by have := hltH.out; simp [intOf]; omega⟩
              | false =>
                have hcond : Hid (((rep.contains (m : Int) || tar.contains (m : Int)) && (isr.contains (m : Int) || isUp nds (m : Int))) = false) := Lib.hid (by rw [← e1.out, ← e2.out, ← e3.out, hup]; simp)
                rw [hup] at cy
                replace hup := Lib.hid hup
                have hE5 : Hid (E = 5) := Lib.hid (by
                  rw [hE4.out, if_neg]
                  rw [isrOk, any_not hy.out hcond.out]; simp)
                clear hE4 hcond hno
                go_wp2_with (first | (go_at_call 65; (with_reducible refine hcr.mono ?_); rintro e w' ⟨rfl, hw'⟩; have hw'' := hw'.symm; subst hw'') | (go_at_call 65; (with_reducible refine hct.mono ?_); rintro e w' ⟨rfl, hw'⟩; have hw'' := hw'.symm; subst hw'') | (go_at_call 65; (with_reducible refine hci.mono ?_); rintro e w' ⟨rfl, hw'⟩; have hw'' := hw'.symm; subst hw''))
                go_ret
                exact IsrPost.no hE5.out (by omega) hC.out.img hC.out.mods
          | false =>
            cases b2 with
            | true =>
              cases b3 with
              | true =>
                have hcond : Hid (((rep.contains (m : Int) || tar.contains (m : Int)) && (isr.contains (m : Int) || isUp nds (m : Int))) = true) := Lib.hid (by rw [← e1.out, ← e2.out, ← e3.out]; simp)
                go_wp2_with (first | (go_at_call 65; (with_reducible refine hcr.mono ?_); rintro e w' ⟨rfl, hw'⟩; have hw'' := hw'.symm; subst hw'') | (go_at_call 65; (with_reducible refine hct.mono ?_); rintro e w' ⟨rfl, hw'⟩; have hw'' := hw'.symm; subst hw'') | (go_at_call 65; (with_reducible refine hci.mono ?_); rintro e w' ⟨rfl, hw'⟩; have hw'' := hw'.symm; subst hw''))
                exact ⟨⟨i + 1, hltH.out, by go_num, Lib.hid (fun j x hj hx => by
                  by_cases hji : j = i
                  · subst hji
                    rw [hy.out] at hx
                    cases hx
                    exact hcond.out
                  · exact hno.out j x (by omega) hx), trivial⟩, by have := hltH.out; simp [intOf]; omega⟩
              | false =>
                cases hup : isUp nds (m : Int) with
                | true =>
                  have hcond : Hid (((rep.contains (m : Int) || tar.contains (m : Int)) && (isr.contains (m : Int) || isUp nds (m : Int))) = true) := Lib.hid (by rw [← e1.out, ← e2.out, ← e3.out, hup]; simp)
                  rw [hup] at cy
                  replace hup := Lib.hid hup
                  go_wp2_with (first | (go_at_call 65; (with_reducible refine hcr.mono ?_); rintro e w' ⟨rfl, hw'⟩; have hw'' := hw'.symm; subst hw'') | (go_at_call 65; (with_reducible refine hct.mono ?_); rintro e w' ⟨rfl, hw'⟩; have hw'' := hw'.symm; subst hw'') | (go_at_call 65; (with_reducible refine hci.mono ?_); rintro e w' ⟨rfl, hw'⟩; have hw'' := hw'.symm; subst hw''))
                  exact ⟨⟨i + 1, hltH.out, by go_num, Lib.hid (fun j x hj hx => by
                    by_cases hji : j = i
                    · subst hji
                      rw [hy.out] at hx
                      cases hx
                      exact hcond.out
                    · exact hno.out j x (by omega) hx), trivial⟩, by have := hltH.out; simp [intOf]; omega⟩
                | false =>
                  have hcond : Hid (((rep.contains (m : Int) || tar.contains (m : Int)) && (isr.contains (m : Int) || isUp nds (m : Int))) = false) := Lib.hid (by rw [← e1.out, ← e2.out, ← e3.out, hup]; simp)
                  rw [hup] at cy
                  replace hup := Lib.hid hup
                  have hE5 : Hid (E = 5) := Lib.hid (by
                    rw [hE4.out, if_neg]
                    rw [isrOk, any_not hy.out hcond.out]; simp)
                  clear hE4 hcond hno
                  go_wp2_with (first | (go_at_call 65; (with_reducible refine hcr.mono ?_); rintro e w' ⟨rfl, hw'⟩; have hw'' := hw'.symm; subst hw'') | (go_at_call 65; (with_reducible refine hct.mono ?_); rintro e w' ⟨rfl, hw'⟩; have hw'' := hw'.symm; subst hw'') | (go_at_call 65; (with_reducible refine hci.mono ?_); rintro e w' ⟨rfl, hw'⟩; have hw'' := hw'.symm; subst hw''))
                  go_ret
                  exact IsrPost.no hE5.out (by omega) hC.out.img hC.out.mods
            | false =>
              have hcond : Hid (((rep.contains (m : Int) || tar.contains (m : Int)) && (isr.contains (m : Int) || isUp nds (m : Int))) = false) := Lib.hid (by rw [← e1.out, ← e2.out]; simp)
              have hE5 : Hid (E = 5) := Lib.hid (by
                rw [hE4.out, if_neg]
                rw [isrOk, any_not hy.out hcond.out]; simp)
              clear hE4 hcond hno
              go_wp2_with (first | (go_at_call 65; (with_reducible refine hcr.mono ?_); rintro e w' ⟨rfl, hw'⟩; have hw'' := hw'.symm; subst hw'') | (go_at_call 65; (with_reducible refine hct.mono ?_); rintro e w' ⟨rfl, hw'⟩; have hw'' := hw'.symm; subst hw'') | (go_at_call 65; (with_reducible refine hci.mono ?_); rintro e w' ⟨rfl, hw'⟩; have hw'' := hw'.symm; subst hw''))
              go_ret
              exact IsrPost.no hE5.out (by omega) hC.out.img hC.out.mods
        · obtain rfl : i = l.length := by omega
          have hE5 : Hid (E = 0) := Lib.hid (by
            rw [hE4.out, if_pos]
            exact all_of (fun j x hj hx => hno.out j x hj hx))
          clear hlt hno hcr0 hct0 hci0 hE4 hrd
          go_upto_region 15 with fail
          have hcl := clone_walk wr xa xc l hlen hC.out.sl
          have hAl := hC.out.img.ltF
          go_upto_region 16 with (go_at_call 39; refine hcl.mono ?_; rintro e w3 ⟨na, nc, rfl, hN, hm3⟩; have c53 := (hm3.cell lp id (d.op + k * 6 + 3)).trans c3; have f53 := (hC.out.img.keepNil hm3).2.2.1.1.frzAt; have l53 := hm3.lt lp)
          have hN3 : Il w3 d.F (na, nc) l := Il.of_new hN hAl
          obtain ⟨hI4, -, c4b, -, f4b⟩ := (hC.out.img.keepNil hm3).rest hC.out.part hN3 hlen hx.out
          have hm4 : Mods d.A w ((w3.setCell ⟨d.gp, d.op + k * 6 + 3, none⟩ (.slice na l.length nc)).setCell ⟨d.gp, d.op + k * 6 + 2, none⟩ (.int .i64 (w64 (ver + 1)))) :=
            (((hC.out.mods.trans hm3 (fun _ _ h => h)).mono (S' := d.A) (fun _ h => h.elim)).setCell (a := ⟨d.gp, d.op + k * 6 + 3, none⟩) _ (fun _ => .inr (.inr (.inl rfl)))).setCell (a := ⟨d.gp, d.op + k * 6 + 2, none⟩) _ (fun _ => .inr (.inr (.inl rfl)))
          have hk4 := get_set_same (a := (⟨⟨lead, ep, w64 (ver + 1), l, rep, tar⟩, (na, nc), (ra, rc), (ta, tc)⟩ : Pt)) hC.out.part
          clear hN hN3 hm3 c53 f53 hcl cx lx cb lb c3 c4 c5 lp
          replace hI4 := Lib.hid hI4
          replace hm4 := Lib.hid hm4
          replace hk4 := Lib.hid hk4
          go_upto_region 17 with fail
          clear c4b f4b l53
          change Code.wp _ _ _ _ ((w3.setCell ⟨d.gp, d.op + k * 6 + 3, none⟩ (.slice na l.length nc)).setCell ⟨d.gp, d.op + k * 6 + 2, none⟩ (.int .i64 (w64 (ver + 1))))
          generalize (w3.setCell ⟨d.gp, d.op + k * 6 + 3, none⟩ (.slice na l.length nc)).setCell ⟨d.gp, d.op + k * 6 + 2, none⟩ (.int .i64 (w64 (ver + 1))) = w4 at *
          have hset := settle_walk w4 d nds _ next count k _ hI4.out hk4.out
          clear hI4
          go_wp2_with (go_at_call 71; refine hset.mono ?_; rintro e w5 ⟨rfl, ⟨p5, hp5, hI5⟩, hm5⟩)
          go_ret
          refine ⟨by rw [hE5.out]; rfl, hm4.out.trans hm5 (fun i _ hi => .inr (.inr (.inl hi))), _, hI5, ?_⟩
          rw [hE5.out, if_pos rfl, set_set_same, List.map_set, hp5]
          rfl
end Go.Proofs.Ytnnoicacpcahfaa
