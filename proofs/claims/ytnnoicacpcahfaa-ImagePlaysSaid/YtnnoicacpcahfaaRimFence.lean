/- The reference's image: Apply of a fence, of a change of who is in sync, of a move and of a grant, walked. No condition. -/
import Derived.Test.YtnnoicacpcahfaaRimJoin
namespace Go.Proofs.Ytnnoicacpcahfaa
open Go.RowKit

set_option maxRecDepth 100000 in
set_option maxHeartbeats 6400000 in
theorem rapply_fence (w : World) (d : RAd) (nds : List Nd) (L : List Pt) (next count : Int) (n : Nat) (x : Nd) (part ep' ver' : Int) (xa : Option Addr) (xc : Nat) (l : List Int) (h : RImg w d nds L next count) (hs : Rd w 1 (.slice xa l.length xc) l.length (ints l)) (hxa : l ≠ [] → ∀ a, xa = some a → ¬ d.A a.block) (hn : nds[n]? = some x) :
    Calls Try.prog 23 #[.pointer (some ⟨d.b, 0, none⟩), .agg #[.int .i64 2, .int .i64 n, .int .i64 part, .int .i64 ep', .int .i64 ver', .slice xa l.length xc]] w
      fun e w' => RAppPost w d ⟨nds, L.map Pt.pl, next, count⟩ ⟨2, n, part, ep', ver', l⟩ e w' := by
  have hnl : n < nds.length := (List.getElem?_eq_some_iff.1 hn).1
  have i0 : (0 : Int) ≤ (n : Int) := by omega
  have i1 : (n : Int) < (nds.length : Int) := by omega
  have happ : Hid (Im.app ⟨nds, L.map Pt.pl, next, count⟩ ⟨2, n, part, ep', ver', l⟩ = if x.alive = false then (⟨nds, L.map Pt.pl, next, w64 (count + 1)⟩, 4) else (⟨nds.set n { x with alive := false }, (L.map Pt.pl).map (goneP (nds.set n { x with alive := false }) n), next, w64 (count + 1)⟩, 0)) := Lib.hid (by
    unfold Im.app
    simp only [show ¬ (2 : Int) = 1 by omega, if_false, if_true, Int.toNat_natCast, hn, show ¬ (n : Int) < 0 by omega])
  have hC := Lib.hid (RApCtx.start (kind := 2) (node := n) (part := part) (ep' := ep') (ver' := ver') h hs hxa)
  have hm0 : Mods Nil w (w.alloc (.cells #[.int .i64 2, .int .i64 n, .int .i64 part, .int .i64 ep', .int .i64 ver', .slice xa l.length xc] 61)) := Mods.refl.alloc _
  have cb := cellOf (h.keepNil hm0).box
  have lb := ltOf (h.keepNil hm0).box
  have fb := frzOf (h.keepNil hm0).box
  replace hs := Lib.hid hs
  replace hxa := Lib.hid hxa
  clear h hm0
  go_enter Try.func23, Try.ntmps23
  go_upto_region 2 with fail
  clear cb lb fb
  change Code.wp _ _ _ _ ((w.alloc (.cells #[.int .i64 2, .int .i64 n, .int .i64 part, .int .i64 ep', .int .i64 ver', .slice xa l.length xc] 61)).setCell ⟨d.b, 5, none⟩ (.int .i64 (w64 (count + 1))))
  generalize (w.alloc (.cells #[.int .i64 2, .int .i64 n, .int .i64 part, .int .i64 ep', .int .i64 ver', .slice xa l.length xc] 61)).setCell ⟨d.b, 5, none⟩ (.int .i64 (w64 (count + 1))) = w2 at *
  generalize w.heap.size = B at *
  have cb := cellOf hC.out.img.box
  have lb := ltOf hC.out.img.box
  have cx := cellOf hC.out.box
  have lx := ltOf hC.out.box
  obtain ⟨c0, -, -⟩ := hC.out.img.nodeCells hn
  have la := hC.out.img.al.ltAt
  obtain ⟨al, cm, bk⟩ := x
  dsimp only at *
  cases al with
  | false =>
    simp only [if_true] at happ
    go_upto_region 7 with fail
    refine wp_region_plan [(.pure, 0), (.read, 1), (.pure, 2), (.pure, 3), (.pure, 4), (.read, 5), (.pure, 6), (.pure, 7), (.pure, 8), (.read, 9), (.pure, 10), (.pure, 11), (.pure, 12)] 13 (fun W => Mods Nil (w2) W) mixed (by kernel_rfl) (by kernel_rfl) (by repeat (first | exact Mods.refl | apply Mods.drew)) ?_
    repeat first
       | (refine reg_pure (v := ?_) rfl rfl ?_ ?_; rotate_left 1; (· (intro W; go_simp <;> with_reducible rfl)); simp only [Act.put, List.setIfInBounds_toArray, List.set_cons_zero, List.set_cons_succ])
       | (refine reg_read (v := ?_) rfl rfl ?_ ?_; rotate_left 1; (· (intro W hW; have hW' := Mods.cells hW; go_simp <;> with_reducible rfl)); simp only [Act.put, List.setIfInBounds_toArray, List.set_cons_zero, List.set_cons_succ])
       | (refine reg_off (by rfl) (by rfl) ?_; simp only [Act.put, List.setIfInBounds_toArray, List.set_cons_zero, List.set_cons_succ])
       | (refine reg_pure_on (v := ?_) rfl (by rfl) ?_ ?_; rotate_left 1; (· (intro W; go_simp <;> with_reducible rfl)); simp only [Act.put, List.setIfInBounds_toArray, List.set_cons_zero, List.set_cons_succ])
       | (refine reg_read_on (v := ?_) rfl (by rfl) ?_ ?_; rotate_left 1; (· (intro W hW; have hW' := Mods.cells hW; go_simp <;> with_reducible rfl)); simp only [Act.put, List.setIfInBounds_toArray, List.set_cons_zero, List.set_cons_succ])
    refine reg_done (qnp_normal ?_)
    go_upto_region 25 with fail
    refine wp_region_plan [(.pure, 0), (.pure, 1), (.pure, 2), (.read, 3), (.pure, 4), (.read, 5), (.pure, 6), (.read, 7), (.pure, 8)] 9 (fun W => Mods Nil (w2) W) mixed (by kernel_rfl) (by kernel_rfl) (by repeat (first | exact Mods.refl | apply Mods.drew)) ?_
    repeat first
       | (refine reg_pure (v := ?_) rfl rfl ?_ ?_; rotate_left 1; (· (intro W; go_simp <;> with_reducible rfl)); simp only [Act.put, List.setIfInBounds_toArray, List.set_cons_zero, List.set_cons_succ])
       | (refine reg_read (v := ?_) rfl rfl ?_ ?_; rotate_left 1; (· (intro W hW; have hW' := Mods.cells hW; go_simp <;> with_reducible rfl)); simp only [Act.put, List.setIfInBounds_toArray, List.set_cons_zero, List.set_cons_succ])
       | (refine reg_off (by rfl) (by rfl) ?_; simp only [Act.put, List.setIfInBounds_toArray, List.set_cons_zero, List.set_cons_succ])
       | (refine reg_pure_on (v := ?_) rfl (by rfl) ?_ ?_; rotate_left 1; (· (intro W; go_simp <;> with_reducible rfl)); simp only [Act.put, List.setIfInBounds_toArray, List.set_cons_zero, List.set_cons_succ])
       | (refine reg_read_on (v := ?_) rfl (by rfl) ?_ ?_; rotate_left 1; (· (intro W hW; have hW' := Mods.cells hW; go_simp <;> with_reducible rfl)); simp only [Act.put, List.setIfInBounds_toArray, List.set_cons_zero, List.set_cons_succ])
    refine reg_done (qnp_normal ?_)
    go_wp2
    go_ret
    exact RAppPost.of happ.out (hC.out.keep ((Mods.refl : Mods Nil w2 w2).drew.drew)).mods (hC.out.keep ((Mods.refl : Mods Nil w2 w2).drew.drew)).img rfl
  | true =>
    simp only [Bool.true_eq_false, if_false] at happ
    go_upto_region 7 with fail
    refine wp_region_plan [(.pure, 0), (.read, 1), (.pure, 2), (.pure, 3), (.pure, 4), (.read, 5), (.pure, 6), (.pure, 7), (.pure, 8), (.read, 9), (.pure, 10), (.pure, 11), (.pure, 12)] 13 (fun W => Mods Nil (w2) W) mixed (by kernel_rfl) (by kernel_rfl) (by repeat (first | exact Mods.refl | apply Mods.drew)) ?_
    repeat first
       | (refine reg_pure (v := ?_) rfl rfl ?_ ?_; rotate_left 1; (· (intro W; go_simp <;> with_reducible rfl)); simp only [Act.put, List.setIfInBounds_toArray, List.set_cons_zero, List.set_cons_succ])
       | (refine reg_read (v := ?_) rfl rfl ?_ ?_; rotate_left 1; (· (intro W hW; have hW' := Mods.cells hW; go_simp <;> with_reducible rfl)); simp only [Act.put, List.setIfInBounds_toArray, List.set_cons_zero, List.set_cons_succ])
       | (refine reg_off (by rfl) (by rfl) ?_; simp only [Act.put, List.setIfInBounds_toArray, List.set_cons_zero, List.set_cons_succ])
       | (refine reg_pure_on (v := ?_) rfl (by rfl) ?_ ?_; rotate_left 1; (· (intro W; go_simp <;> with_reducible rfl)); simp only [Act.put, List.setIfInBounds_toArray, List.set_cons_zero, List.set_cons_succ])
       | (refine reg_read_on (v := ?_) rfl (by rfl) ?_ ?_; rotate_left 1; (· (intro W hW; have hW' := Mods.cells hW; go_simp <;> with_reducible rfl)); simp only [Act.put, List.setIfInBounds_toArray, List.set_cons_zero, List.set_cons_succ])
    refine reg_done (qnp_normal ?_)
    go_upto_region 25 with fail
    refine wp_region_plan [(.pure, 0), (.pure, 1), (.pure, 2), (.read, 3), (.pure, 4), (.read, 5), (.pure, 6), (.read, 7), (.pure, 8)] 9 (fun W => Mods Nil (w2) W) mixed (by kernel_rfl) (by kernel_rfl) (by repeat (first | exact Mods.refl | apply Mods.drew)) ?_
    repeat first
       | (refine reg_pure (v := ?_) rfl rfl ?_ ?_; rotate_left 1; (· (intro W; go_simp <;> with_reducible rfl)); simp only [Act.put, List.setIfInBounds_toArray, List.set_cons_zero, List.set_cons_succ])
       | (refine reg_read (v := ?_) rfl rfl ?_ ?_; rotate_left 1; (· (intro W hW; have hW' := Mods.cells hW; go_simp <;> with_reducible rfl)); simp only [Act.put, List.setIfInBounds_toArray, List.set_cons_zero, List.set_cons_succ])
       | (refine reg_off (by rfl) (by rfl) ?_; simp only [Act.put, List.setIfInBounds_toArray, List.set_cons_zero, List.set_cons_succ])
       | (refine reg_pure_on (v := ?_) rfl (by rfl) ?_ ?_; rotate_left 1; (· (intro W; go_simp <;> with_reducible rfl)); simp only [Act.put, List.setIfInBounds_toArray, List.set_cons_zero, List.set_cons_succ])
       | (refine reg_read_on (v := ?_) rfl (by rfl) ?_ ?_; rotate_left 1; (· (intro W hW; have hW' := Mods.cells hW; go_simp <;> with_reducible rfl)); simp only [Act.put, List.setIfInBounds_toArray, List.set_cons_zero, List.set_cons_succ])
    refine reg_done (qnp_normal ?_)
    have hIa := hC.out.img.setAl hn false
    have hma : Mods d.A w2 (w2.setCell ⟨d.ga, n, none⟩ (.bool false)) := Mods.refl.setCell (a := ⟨d.ga, n, none⟩) _ (fun _ => .inr (.inl rfl))
    have hCa := Lib.hid (hC.out.turn hma hIa hxa.out)
    have fa := hC.out.img.al.frzAt
    clear hIa hma
    go_upto_region 27 with fail
    refine wp_region_plan [(.pure, 0), (.pure, 1), (.pure, 2), (.read, 3), (.pure, 4), (.read, 5), (.pure, 6), (.eff, 7)] 7 (fun W => Mods Nil (w2) W) mixed (by kernel_rfl) (by kernel_rfl) (by repeat (first | exact Mods.refl | apply Mods.drew)) ?_
    repeat first
       | (refine reg_pure (v := ?_) rfl rfl ?_ ?_; rotate_left 1; (· (intro W; go_simp <;> with_reducible rfl)); simp only [Act.put, List.setIfInBounds_toArray, List.set_cons_zero, List.set_cons_succ])
       | (refine reg_read (v := ?_) rfl rfl ?_ ?_; rotate_left 1; (· (intro W hW; have hW' := Mods.cells hW; go_simp <;> with_reducible rfl)); simp only [Act.put, List.setIfInBounds_toArray, List.set_cons_zero, List.set_cons_succ])
       | (refine reg_off (by rfl) (by rfl) ?_; simp only [Act.put, List.setIfInBounds_toArray, List.set_cons_zero, List.set_cons_succ])
       | (refine reg_pure_on (v := ?_) rfl (by rfl) ?_ ?_; rotate_left 1; (· (intro W; go_simp <;> with_reducible rfl)); simp only [Act.put, List.setIfInBounds_toArray, List.set_cons_zero, List.set_cons_succ])
       | (refine reg_read_on (v := ?_) rfl (by rfl) ?_ ?_; rotate_left 1; (· (intro W hW; have hW' := Mods.cells hW; go_simp <;> with_reducible rfl)); simp only [Act.put, List.setIfInBounds_toArray, List.set_cons_zero, List.set_cons_succ])
    refine reg_eff (by rfl) (by rfl) (fun K hK => ?_)
    go_simp
    refine hK _ _ ?_
    clear hK K
    refine reg_done (qnp_normal ?_)
    clear c0 fa la cb lb cx lx hC
    generalize w2.setCell ⟨d.ga, n, none⟩ (.bool false) = w4 at *
    have hCb := hCa.out
    dsimp only at hCb
    generalize hnds : nds.set n ⟨false, cm, bk⟩ = nds2 at *
    have hCd := Lib.hid (hCb.keep ((by repeat (first | exact Mods.refl | apply Mods.drew)) : Mods Nil w4 w4.drew.drew.drew))
    clear hCb hCa
    generalize w4.drew.drew.drew = w5 at *
    obtain ⟨P, hP⟩ : ∃ P, P = L.map Pt.pl := ⟨_, rfl⟩
    have hPl : L.length = P.length := by rw [hP]; simp
    have hU0 : Upto (goneP nds2 n) P 0 L := by rw [hP]; exact Upto.zero _ _
    have hPb : P.length ≤ 9223372036854775807 := by have := hCd.out.img.pts.1.capAt; unfold maxLen at this; omega
    replace hP := Lib.hid hP
    replace hPl := Lib.hid hPl
    replace hU0 := Lib.hid hU0
    have cb := cellOf hCd.out.img.box
    have lb := ltOf hCd.out.img.box
    rw [hPl.out] at cb
    go_wp2_with fail
    go_loopw [6] (fun s5 wr => ∃ (k : Nat) (Lr : List Pt), k ≤ P.length ∧ s5 = .int .i64 k ∧ Hid (Upto (goneP nds2 n) P k Lr) ∧ Hid (RApCtx w wr B d nds2 Lr next (w64 (count + 1)) 2 n part ep' ver' xa xc l)) (fun s5 _ => P.length - (intOf s5).toNat)
    case atStart => exact ⟨0, L, by omega, rfl, hU0, hCd⟩
    case round =>
      clear cb lb hCd hU0
      obtain ⟨k, Lr, hk, rfl, hU, hC⟩ := hrel
      have hLl := hU.out.len hk
      have cb := cellOf hC.out.img.box
      have lb := ltOf hC.out.img.box
      rw [hLl] at cb
      have cx := cellOf hC.out.box
      have lx := ltOf hC.out.box
      by_cases hlt : k < P.length
      · obtain ⟨p, hp⟩ : ∃ p, Lr[k]? = some p := ⟨_, List.getElem?_eq_getElem (by omega)⟩
        have hstep : Hid (∀ p' : Pt, p'.pl = goneP nds2 n p.pl → Upto (goneP nds2 n) P (k + 1) (Lr.set k p')) := Lib.hid (fun p' hq => hU.out.step hp hlt hq)
        have hgo := rgone_walk wr d nds2 Lr next (w64 (count + 1)) k n p hC.out.img hp
        clear hU hp hLl
        have hltH := Lib.hid hlt
        go_wp2_with (go_at_call 49; (with_reducible refine hgo.mono ?_); rintro e w7 ⟨rfl, ⟨q, hq, hI7⟩, hm7⟩)
        exact ⟨⟨k + 1, _, hltH.out, by go_num, Lib.hid (hstep.out q hq), Lib.hid (hC.out.turn (hm7.mono (fun i hi => .inr (.inr (.inr (.inr hi))))) hI7 hxa.out)⟩, by have := hltH.out; simp [intOf]; omega⟩
      · obtain rfl : k = P.length := by omega
        have hall := Lib.hid hU.out.all
        clear hlt hU hLl
        go_wp2
        go_ret
        exact RAppPost.of happ.out hC.out.mods hC.out.img (by rw [hall.out, hP.out])

set_option maxRecDepth 100000 in
set_option maxHeartbeats 6400000 in
theorem rapply_block (w : World) (d : RAd) (nds : List Nd) (L : List Pt) (next count : Int) (n : Nat) (x : Nd) (part ep' ver' : Int) (xa : Option Addr) (xc : Nat) (l : List Int) (h : RImg w d nds L next count) (hs : Rd w 1 (.slice xa l.length xc) l.length (ints l)) (hxa : l ≠ [] → ∀ a, xa = some a → ¬ d.A a.block) (hn : nds[n]? = some x) :
    Calls Try.prog 23 #[.pointer (some ⟨d.b, 0, none⟩), .agg #[.int .i64 5, .int .i64 n, .int .i64 part, .int .i64 ep', .int .i64 ver', .slice xa l.length xc]] w
      fun e w' => RAppPost w d ⟨nds, L.map Pt.pl, next, count⟩ ⟨5, n, part, ep', ver', l⟩ e w' := by
  have hnl : n < nds.length := (List.getElem?_eq_some_iff.1 hn).1
  have i0 : (0 : Int) ≤ (n : Int) := by omega
  have i1 : (n : Int) < (nds.length : Int) := by omega
  have n1 := h.n1
  have n2 := h.n2
  have hwr : IntKind.u64.wrap (next + 10) = next + 10 := by simp [IntKind.wrap, IntKind.bits, IntKind.signed]; omega
  have happ : Hid (Im.app ⟨nds, L.map Pt.pl, next, count⟩ ⟨5, n, part, ep', ver', l⟩ = if next + 10 > 1001 then (⟨nds, L.map Pt.pl, next, w64 (count + 1)⟩, 17) else (⟨nds.set n { x with block := next }, L.map Pt.pl, next + 10, w64 (count + 1)⟩, 0)) := Lib.hid (by
    unfold Im.app
    simp only [show ¬ (5 : Int) = 1 by omega, show ¬ (5 : Int) = 2 by omega, if_false, if_true, Int.toNat_natCast, hn, show ¬ (n : Int) < 0 by omega])
  have hC := Lib.hid (RApCtx.start (kind := 5) (node := n) (part := part) (ep' := ep') (ver' := ver') h hs hxa)
  have hm0 : Mods Nil w (w.alloc (.cells #[.int .i64 5, .int .i64 n, .int .i64 part, .int .i64 ep', .int .i64 ver', .slice xa l.length xc] 61)) := Mods.refl.alloc _
  have cb := cellOf (h.keepNil hm0).box
  have lb := ltOf (h.keepNil hm0).box
  have fb := frzOf (h.keepNil hm0).box
  replace hs := Lib.hid hs
  replace hxa := Lib.hid hxa
  clear h hm0
  go_enter Try.func23, Try.ntmps23
  go_upto_region 2 with fail
  clear cb lb fb
  change Code.wp _ _ _ _ ((w.alloc (.cells #[.int .i64 5, .int .i64 n, .int .i64 part, .int .i64 ep', .int .i64 ver', .slice xa l.length xc] 61)).setCell ⟨d.b, 5, none⟩ (.int .i64 (w64 (count + 1))))
  generalize (w.alloc (.cells #[.int .i64 5, .int .i64 n, .int .i64 part, .int .i64 ep', .int .i64 ver', .slice xa l.length xc] 61)).setCell ⟨d.b, 5, none⟩ (.int .i64 (w64 (count + 1))) = w2 at *
  generalize w.heap.size = B at *
  have cb := cellOf hC.out.img.box
  have lb := ltOf hC.out.img.box
  have cx := cellOf hC.out.box
  have lx := ltOf hC.out.box
  by_cases ht : next + 10 > 1001
  · rw [if_pos ht] at happ
    go_upto_region 7 with fail
    refine wp_region_plan [(.pure, 0), (.read, 1), (.pure, 2), (.pure, 3), (.pure, 4), (.read, 5), (.pure, 6), (.pure, 7), (.pure, 8), (.read, 9), (.pure, 10), (.pure, 11), (.pure, 12)] 13 (fun W => Mods Nil (w2) W) mixed (by kernel_rfl) (by kernel_rfl) (by repeat (first | exact Mods.refl | apply Mods.drew)) ?_
    repeat first
       | (refine reg_pure (v := ?_) rfl rfl ?_ ?_; rotate_left 1; (· (intro W; go_simp <;> with_reducible rfl)); simp only [Act.put, List.setIfInBounds_toArray, List.set_cons_zero, List.set_cons_succ])
       | (refine reg_read (v := ?_) rfl rfl ?_ ?_; rotate_left 1; (· (intro W hW; have hW' := Mods.cells hW; go_simp <;> with_reducible rfl)); simp only [Act.put, List.setIfInBounds_toArray, List.set_cons_zero, List.set_cons_succ])
       | (refine reg_off (by rfl) (by rfl) ?_; simp only [Act.put, List.setIfInBounds_toArray, List.set_cons_zero, List.set_cons_succ])
       | (refine reg_pure_on (v := ?_) rfl (by rfl) ?_ ?_; rotate_left 1; (· (intro W; go_simp <;> with_reducible rfl)); simp only [Act.put, List.setIfInBounds_toArray, List.set_cons_zero, List.set_cons_succ])
       | (refine reg_read_on (v := ?_) rfl (by rfl) ?_ ?_; rotate_left 1; (· (intro W hW; have hW' := Mods.cells hW; go_simp <;> with_reducible rfl)); simp only [Act.put, List.setIfInBounds_toArray, List.set_cons_zero, List.set_cons_succ])
    refine reg_done (qnp_normal ?_)
    go_wp2
    go_ret
    exact RAppPost.of happ.out (hC.out.keep ((Mods.refl : Mods Nil w2 w2).drew)).mods (hC.out.keep ((Mods.refl : Mods Nil w2 w2).drew)).img rfl
  · rw [if_neg ht] at happ
    have ht2 : next + 10 ≤ 1001 := by omega
    clear ht
    have hIa := hC.out.img.setBl hn next
    have hma : Mods d.A w2 (w2.setCell ⟨d.gk, n, none⟩ (.int .u64 next)) := Mods.refl.setCell (a := ⟨d.gk, n, none⟩) _ (fun _ => .inr (.inr (.inr (.inl rfl))))
    have hCa := Lib.hid (hC.out.turn hma hIa hxa.out)
    obtain ⟨-, -, c2⟩ := hC.out.img.nodeCells hn
    have fk := hC.out.img.bl.frzAt
    have lk := hC.out.img.bl.ltAt
    clear hIa hma
    go_upto_region 7 with fail
    refine wp_region_plan [(.pure, 0), (.read, 1), (.pure, 2), (.pure, 3), (.pure, 4), (.read, 5), (.pure, 6), (.pure, 7), (.pure, 8), (.read, 9), (.pure, 10), (.pure, 11), (.pure, 12)] 13 (fun W => Mods Nil (w2) W) mixed (by kernel_rfl) (by kernel_rfl) (by repeat (first | exact Mods.refl | apply Mods.drew)) ?_
    repeat first
       | (refine reg_pure (v := ?_) rfl rfl ?_ ?_; rotate_left 1; (· (intro W; go_simp <;> with_reducible rfl)); simp only [Act.put, List.setIfInBounds_toArray, List.set_cons_zero, List.set_cons_succ])
       | (refine reg_read (v := ?_) rfl rfl ?_ ?_; rotate_left 1; (· (intro W hW; have hW' := Mods.cells hW; go_simp <;> with_reducible rfl)); simp only [Act.put, List.setIfInBounds_toArray, List.set_cons_zero, List.set_cons_succ])
       | (refine reg_off (by rfl) (by rfl) ?_; simp only [Act.put, List.setIfInBounds_toArray, List.set_cons_zero, List.set_cons_succ])
       | (refine reg_pure_on (v := ?_) rfl (by rfl) ?_ ?_; rotate_left 1; (· (intro W; go_simp <;> with_reducible rfl)); simp only [Act.put, List.setIfInBounds_toArray, List.set_cons_zero, List.set_cons_succ])
       | (refine reg_read_on (v := ?_) rfl (by rfl) ?_ ?_; rotate_left 1; (· (intro W hW; have hW' := Mods.cells hW; go_simp <;> with_reducible rfl)); simp only [Act.put, List.setIfInBounds_toArray, List.set_cons_zero, List.set_cons_succ])
    refine reg_done (qnp_normal ?_)
    go_upto_region 42 with fail
    refine wp_region_plan [(.pure, 0), (.pure, 1), (.pure, 2), (.read, 3), (.pure, 4), (.read, 5), (.pure, 6), (.pure, 7), (.pure, 8), (.read, 9), (.pure, 10), (.eff, 11)] 11 (fun W => Mods Nil (w2) W) mixed (by kernel_rfl) (by kernel_rfl) (by repeat (first | exact Mods.refl | apply Mods.drew)) ?_
    repeat first
       | (refine reg_pure (v := ?_) rfl rfl ?_ ?_; rotate_left 1; (· (intro W; go_simp <;> with_reducible rfl)); simp only [Act.put, List.setIfInBounds_toArray, List.set_cons_zero, List.set_cons_succ])
       | (refine reg_read (v := ?_) rfl rfl ?_ ?_; rotate_left 1; (· (intro W hW; have hW' := Mods.cells hW; go_simp <;> with_reducible rfl)); simp only [Act.put, List.setIfInBounds_toArray, List.set_cons_zero, List.set_cons_succ])
       | (refine reg_off (by rfl) (by rfl) ?_; simp only [Act.put, List.setIfInBounds_toArray, List.set_cons_zero, List.set_cons_succ])
       | (refine reg_pure_on (v := ?_) rfl (by rfl) ?_ ?_; rotate_left 1; (· (intro W; go_simp <;> with_reducible rfl)); simp only [Act.put, List.setIfInBounds_toArray, List.set_cons_zero, List.set_cons_succ])
       | (refine reg_read_on (v := ?_) rfl (by rfl) ?_ ?_; rotate_left 1; (· (intro W hW; have hW' := Mods.cells hW; go_simp <;> with_reducible rfl)); simp only [Act.put, List.setIfInBounds_toArray, List.set_cons_zero, List.set_cons_succ])
    refine reg_eff (by rfl) (by rfl) (fun K hK => ?_)
    go_simp
    refine hK _ _ ?_
    clear hK K
    refine reg_done (qnp_normal ?_)
    clear c2 fk lk cb lb cx lx hC
    generalize w2.setCell ⟨d.gk, n, none⟩ (.int .u64 next) = w3 at *
    have hIb := hCa.out.img.setNext (next + 10) (by omega) ht2
    have hmb : Mods d.A w3 (w3.setCell ⟨d.b, 4, none⟩ (.int .u64 (next + 10))) := Mods.refl.setCell (a := ⟨d.b, 4, none⟩) _ (fun _ => .inl rfl)
    have hCb := Lib.hid (hCa.out.turn hmb hIb hxa.out)
    have cb := cellOf hCa.out.img.box
    have lb := ltOf hCa.out.img.box
    have fb := frzOf hCa.out.img.box
    clear hIb hmb
    go_wp2
    go_ret
    exact RAppPost.of happ.out (hCb.out.keep (by repeat (first | exact Mods.refl | apply Mods.drew))).mods (hCb.out.keep (by repeat (first | exact Mods.refl | apply Mods.drew))).img rfl
end Go.Proofs.Ytnnoicacpcahfaa
