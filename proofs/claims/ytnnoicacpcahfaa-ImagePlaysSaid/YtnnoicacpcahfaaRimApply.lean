/- The reference's image: Apply, walked. No condition. -/
import Derived.Test.YtnnoicacpcahfaaRimFence
namespace Go.Proofs.Ytnnoicacpcahfaa
open Go.RowKit

set_option maxRecDepth 100000 in
set_option maxHeartbeats 6400000 in
theorem rapply_isr (w : World) (d : RAd) (nds : List Nd) (L : List Pt) (next count : Int) (n : Nat) (p : Pt) (node ep' ver' : Int) (xa : Option Addr) (xc : Nat) (l : List Int) (h : RImg w d nds L next count) (hlen : l.length * 8 ≤ 140737488355328) (hs : Rd w 1 (.slice xa l.length xc) l.length (ints l)) (hxa : l ≠ [] → ∀ a, xa = some a → ¬ d.A a.block) (hn : L[n]? = some p) :
    Calls Try.prog 23 #[.pointer (some ⟨d.b, 0, none⟩), .agg #[.int .i64 3, .int .i64 node, .int .i64 n, .int .i64 ep', .int .i64 ver', .slice xa l.length xc]] w
      fun e w' => RAppPost w d ⟨nds, L.map Pt.pl, next, count⟩ ⟨3, node, n, ep', ver', l⟩ e w' := by
  have hnl : n < L.length := (List.getElem?_eq_some_iff.1 hn).1
  have i0 : (0 : Int) ≤ (n : Int) := by omega
  have i1 : (n : Int) < (L.length : Int) := by omega
  have happ : Hid (Im.app ⟨nds, L.map Pt.pl, next, count⟩ ⟨3, node, n, ep', ver', l⟩ = (⟨nds, if isrE nds node ep' ver' l p.pl = 0 then (L.map Pt.pl).set n (isrP nds l p.pl) else L.map Pt.pl, next, w64 (count + 1)⟩, isrE nds node ep' ver' l p.pl)) := Lib.hid (by
    unfold Im.app
    have hx' : (L.map Pt.pl)[n]? = some p.pl := by rw [List.getElem?_map, hn]; rfl
    simp only [show ¬ (3 : Int) = 1 by omega, show ¬ (3 : Int) = 2 by omega, show ¬ (3 : Int) = 5 by omega, if_false, if_true, Int.toNat_natCast, hx', show ¬ (n : Int) < 0 by omega])
  have hpcap := h.pts.1.capAt
  unfold maxLen at hpcap
  have hlb : L.length ≤ 9223372036854775807 := by omega
  have hC := Lib.hid (RApCtx.start (kind := 3) (node := node) (part := n) (ep' := ep') (ver' := ver') h hs hxa)
  have hm0 : Mods Nil w (w.alloc (.cells #[.int .i64 3, .int .i64 node, .int .i64 n, .int .i64 ep', .int .i64 ver', .slice xa l.length xc] 61)) := Mods.refl.alloc _
  have cb := cellOf (h.keepNil hm0).box
  have lb := ltOf (h.keepNil hm0).box
  have fb := frzOf (h.keepNil hm0).box
  replace hs := Lib.hid hs
  replace hxa := Lib.hid hxa
  clear h hm0
  go_enter Try.func23, Try.ntmps23
  go_upto_region 2 with fail
  clear cb lb fb
  change Code.wp _ _ _ _ ((w.alloc (.cells #[.int .i64 3, .int .i64 node, .int .i64 n, .int .i64 ep', .int .i64 ver', .slice xa l.length xc] 61)).setCell ⟨d.b, 5, none⟩ (.int .i64 (w64 (count + 1))))
  generalize (w.alloc (.cells #[.int .i64 3, .int .i64 node, .int .i64 n, .int .i64 ep', .int .i64 ver', .slice xa l.length xc] 61)).setCell ⟨d.b, 5, none⟩ (.int .i64 (w64 (count + 1))) = w2 at *
  generalize w.heap.size = B at *
  have cb := cellOf hC.out.img.box
  have lb := ltOf hC.out.img.box
  have cx := cellOf hC.out.box
  have lx := ltOf hC.out.box
  have d0 : decide ((n : Int) < 0) = false := decide_eq_false (by omega)
  have d1 : decide (L.length ≤ n) = false := decide_eq_false (by omega)
  obtain ⟨tb, htb⟩ : ∃ tb, tb = rises nds.length l := ⟨_, rfl⟩
  cases tb with
  | false =>
    have hE : Hid (isrE nds node ep' ver' l p.pl = 1) := Lib.hid (by rw [isrE, ← htb]; rfl)
    replace htb := Lib.hid htb
    go_upto_region 11 with fail
    refine wp_region_plan [(.pure, 0), (.read, 1), (.pure, 2), (.pure, 3), (.pure, 4), (.read, 5), (.pure, 6), (.pure, 7), (.pure, 8), (.read, 9), (.pure, 10), (.pure, 11), (.pure, 12), (.pure, 13), (.pure, 14), (.pure, 15), (.read, 16), (.ben, 17), (.pure, 18), (.pure, 19)] 20 (fun W => Mods Nil (w2) W) mixed (by kernel_rfl) (by kernel_rfl) (by repeat (first | exact Mods.refl | apply Mods.drew)) ?_
    repeat first
       | (refine reg_pure (v := ?_) rfl rfl ?_ ?_; rotate_left 1; (· (intro W; go_simp <;> with_reducible rfl)); simp only [Act.put, List.setIfInBounds_toArray, List.set_cons_zero, List.set_cons_succ])
       | (refine reg_read (v := ?_) rfl rfl ?_ ?_; rotate_left 1; (· (intro W hW; have hW' := Mods.cells hW; go_simp <;> with_reducible rfl)); simp only [Act.put, List.setIfInBounds_toArray, List.set_cons_zero, List.set_cons_succ])
       | (refine reg_off (by rfl) (by rfl) ?_; simp only [Act.put, List.setIfInBounds_toArray, List.set_cons_zero, List.set_cons_succ])
       | (refine reg_pure_on (v := ?_) rfl (by rfl) ?_ ?_; rotate_left 1; (· (intro W; go_simp <;> with_reducible rfl)); simp only [Act.put, List.setIfInBounds_toArray, List.set_cons_zero, List.set_cons_succ])
       | (refine reg_read_on (v := ?_) rfl (by rfl) ?_ ?_; rotate_left 1; (· (intro W hW; have hW' := Mods.cells hW; go_simp <;> with_reducible rfl)); simp only [Act.put, List.setIfInBounds_toArray, List.set_cons_zero, List.set_cons_succ])
    refine reg_ben_on (by rfl) (by rfl) (fun K hK => ?_)
    go_simp
    refine (rises_walk w2.drew d nds L next (w64 (count + 1)) xa xc l (hC.out.img.keepNil (Mods.refl : Mods Nil w2 w2).drew) hlen hC.out.sl).mono ?_
    rintro e w3 ⟨rfl, hm3⟩
    rw [← htb.out]
    replace hm3 := Mods.drew_left hm3
    refine hK _ _ hm3 ?_
    clear hK K
    repeat first
       | (refine reg_pure (v := ?_) rfl rfl ?_ ?_; rotate_left 1; (· (intro W; go_simp <;> with_reducible rfl)); simp only [Act.put, List.setIfInBounds_toArray, List.set_cons_zero, List.set_cons_succ])
       | (refine reg_read (v := ?_) rfl rfl ?_ ?_; rotate_left 1; (· (intro W hW; have hW' := Mods.cells hW; go_simp <;> with_reducible rfl)); simp only [Act.put, List.setIfInBounds_toArray, List.set_cons_zero, List.set_cons_succ])
       | (refine reg_off (by rfl) (by rfl) ?_; simp only [Act.put, List.setIfInBounds_toArray, List.set_cons_zero, List.set_cons_succ])
       | (refine reg_pure_on (v := ?_) rfl (by rfl) ?_ ?_; rotate_left 1; (· (intro W; go_simp <;> with_reducible rfl)); simp only [Act.put, List.setIfInBounds_toArray, List.set_cons_zero, List.set_cons_succ])
       | (refine reg_read_on (v := ?_) rfl (by rfl) ?_ ?_; rotate_left 1; (· (intro W hW; have hW' := Mods.cells hW; go_simp <;> with_reducible rfl)); simp only [Act.put, List.setIfInBounds_toArray, List.set_cons_zero, List.set_cons_succ])
    refine reg_done (qnp_normal ?_)
    go_wp2
    go_ret
    exact RAppPost.of (by rw [happ.out, hE.out, if_neg (by omega)]) (hC.out.keep hm3).mods (hC.out.keep hm3).img rfl
  | true =>
    replace htb := Lib.hid htb
    go_upto_region 11 with fail
    refine wp_region_plan [(.pure, 0), (.read, 1), (.pure, 2), (.pure, 3), (.pure, 4), (.read, 5), (.pure, 6), (.pure, 7), (.pure, 8), (.read, 9), (.pure, 10), (.pure, 11), (.pure, 12), (.pure, 13), (.pure, 14), (.pure, 15), (.read, 16), (.ben, 17), (.pure, 18), (.pure, 19)] 20 (fun W => Mods Nil (w2) W) mixed (by kernel_rfl) (by kernel_rfl) (by repeat (first | exact Mods.refl | apply Mods.drew)) ?_
    repeat first
       | (refine reg_pure (v := ?_) rfl rfl ?_ ?_; rotate_left 1; (· (intro W; go_simp <;> with_reducible rfl)); simp only [Act.put, List.setIfInBounds_toArray, List.set_cons_zero, List.set_cons_succ])
       | (refine reg_read (v := ?_) rfl rfl ?_ ?_; rotate_left 1; (· (intro W hW; have hW' := Mods.cells hW; go_simp <;> with_reducible rfl)); simp only [Act.put, List.setIfInBounds_toArray, List.set_cons_zero, List.set_cons_succ])
       | (refine reg_off (by rfl) (by rfl) ?_; simp only [Act.put, List.setIfInBounds_toArray, List.set_cons_zero, List.set_cons_succ])
       | (refine reg_pure_on (v := ?_) rfl (by rfl) ?_ ?_; rotate_left 1; (· (intro W; go_simp <;> with_reducible rfl)); simp only [Act.put, List.setIfInBounds_toArray, List.set_cons_zero, List.set_cons_succ])
       | (refine reg_read_on (v := ?_) rfl (by rfl) ?_ ?_; rotate_left 1; (· (intro W hW; have hW' := Mods.cells hW; go_simp <;> with_reducible rfl)); simp only [Act.put, List.setIfInBounds_toArray, List.set_cons_zero, List.set_cons_succ])
    refine reg_ben_on (by rfl) (by rfl) (fun K hK => ?_)
    go_simp
    refine (rises_walk w2.drew d nds L next (w64 (count + 1)) xa xc l (hC.out.img.keepNil (Mods.refl : Mods Nil w2 w2).drew) hlen hC.out.sl).mono ?_
    rintro e w3 ⟨rfl, hm3⟩
    rw [← htb.out]
    replace hm3 := Mods.drew_left hm3
    refine hK _ _ hm3 ?_
    clear hK K
    repeat first
       | (refine reg_pure (v := ?_) rfl rfl ?_ ?_; rotate_left 1; (· (intro W; go_simp <;> with_reducible rfl)); simp only [Act.put, List.setIfInBounds_toArray, List.set_cons_zero, List.set_cons_succ])
       | (refine reg_read (v := ?_) rfl rfl ?_ ?_; rotate_left 1; (· (intro W hW; have hW' := Mods.cells hW; go_simp <;> with_reducible rfl)); simp only [Act.put, List.setIfInBounds_toArray, List.set_cons_zero, List.set_cons_succ])
       | (refine reg_off (by rfl) (by rfl) ?_; simp only [Act.put, List.setIfInBounds_toArray, List.set_cons_zero, List.set_cons_succ])
       | (refine reg_pure_on (v := ?_) rfl (by rfl) ?_ ?_; rotate_left 1; (· (intro W; go_simp <;> with_reducible rfl)); simp only [Act.put, List.setIfInBounds_toArray, List.set_cons_zero, List.set_cons_succ])
       | (refine reg_read_on (v := ?_) rfl (by rfl) ?_ ?_; rotate_left 1; (· (intro W hW; have hW' := Mods.cells hW; go_simp <;> with_reducible rfl)); simp only [Act.put, List.setIfInBounds_toArray, List.set_cons_zero, List.set_cons_succ])
    refine reg_done (qnp_normal ?_)
    have hC3 := Lib.hid (hC.out.keep hm3)
    have hsy := rsync_walk w3 d nds L next (w64 (count + 1)) n p 3 node ep' ver' xa xc l hC3.out.img hn hlen hC3.out.sl htb.out.symm
    clear cb lb cx lx hC hm3
    have cx := cellOf hC3.out.box
    have lx := ltOf hC3.out.box
    go_wp2_with (go_at_call 50; (with_reducible refine hsy.mono ?_); rintro e w4 ⟨rfl, hm4, L4, h4, hp4⟩)
    go_ret
    exact RAppPost.of happ.out (hC3.out.mods.trans hm4 (fun _ _ h => h)) h4 hp4

set_option maxRecDepth 100000 in
set_option maxHeartbeats 6400000 in
theorem rapply_move (w : World) (d : RAd) (nds : List Nd) (L : List Pt) (next count : Int) (n : Nat) (p : Pt) (node ep' ver' : Int) (xa : Option Addr) (xc : Nat) (l : List Int) (h : RImg w d nds L next count) (hlen : l.length * 8 ≤ 140737488355328) (hs : Rd w 1 (.slice xa l.length xc) l.length (ints l)) (hxa : l ≠ [] → ∀ a, xa = some a → ¬ d.A a.block) (hn : L[n]? = some p) :
    Calls Try.prog 23 #[.pointer (some ⟨d.b, 0, none⟩), .agg #[.int .i64 4, .int .i64 node, .int .i64 n, .int .i64 ep', .int .i64 ver', .slice xa l.length xc]] w
      fun e w' => RAppPost w d ⟨nds, L.map Pt.pl, next, count⟩ ⟨4, node, n, ep', ver', l⟩ e w' := by
  have hnl : n < L.length := (List.getElem?_eq_some_iff.1 hn).1
  have i0 : (0 : Int) ≤ (n : Int) := by omega
  have i1 : (n : Int) < (L.length : Int) := by omega
  have happ : Hid (Im.app ⟨nds, L.map Pt.pl, next, count⟩ ⟨4, node, n, ep', ver', l⟩ = (⟨nds, if moveE nds.length l p.pl = 0 then (L.map Pt.pl).set n (moveP nds l p.pl) else L.map Pt.pl, next, w64 (count + 1)⟩, moveE nds.length l p.pl)) := Lib.hid (by
    unfold Im.app
    have hx' : (L.map Pt.pl)[n]? = some p.pl := by rw [List.getElem?_map, hn]; rfl
    simp only [show ¬ (4 : Int) = 1 by omega, show ¬ (4 : Int) = 2 by omega, show ¬ (4 : Int) = 5 by omega, show ¬ (4 : Int) = 3 by omega, if_false, if_true, Int.toNat_natCast, hx', show ¬ (n : Int) < 0 by omega])
  have hpcap := h.pts.1.capAt
  unfold maxLen at hpcap
  have hlb : L.length ≤ 9223372036854775807 := by omega
  have hok := Lib.hid (h.pts.2.2.1 p (List.mem_of_getElem? hn))
  have hC := Lib.hid (RApCtx.start (kind := 4) (node := node) (part := n) (ep' := ep') (ver' := ver') h hs hxa)
  have hm0 : Mods Nil w (w.alloc (.cells #[.int .i64 4, .int .i64 node, .int .i64 n, .int .i64 ep', .int .i64 ver', .slice xa l.length xc] 61)) := Mods.refl.alloc _
  have cb := cellOf (h.keepNil hm0).box
  have lb := ltOf (h.keepNil hm0).box
  have fb := frzOf (h.keepNil hm0).box
  replace hs := Lib.hid hs
  replace hxa := Lib.hid hxa
  clear h hm0
  go_enter Try.func23, Try.ntmps23
  go_upto_region 2 with fail
  clear cb lb fb
  change Code.wp _ _ _ _ ((w.alloc (.cells #[.int .i64 4, .int .i64 node, .int .i64 n, .int .i64 ep', .int .i64 ver', .slice xa l.length xc] 61)).setCell ⟨d.b, 5, none⟩ (.int .i64 (w64 (count + 1))))
  generalize (w.alloc (.cells #[.int .i64 4, .int .i64 node, .int .i64 n, .int .i64 ep', .int .i64 ver', .slice xa l.length xc] 61)).setCell ⟨d.b, 5, none⟩ (.int .i64 (w64 (count + 1))) = w2 at *
  generalize w.heap.size = B at *
  have cb := cellOf hC.out.img.box
  have lb := ltOf hC.out.img.box
  have cx := cellOf hC.out.box
  have lx := ltOf hC.out.box
  have d0 : decide ((n : Int) < 0) = false := decide_eq_false (by omega)
  have d1 : decide (L.length ≤ n) = false := decide_eq_false (by omega)
  obtain ⟨tb, htb⟩ : ∃ tb, tb = rises nds.length l := ⟨_, rfl⟩
  cases tb with
  | false =>
    have hE : Hid (moveE nds.length l p.pl = 1) := Lib.hid (by rw [moveE, ← htb]; rfl)
    replace htb := Lib.hid htb
    go_upto_region 11 with fail
    refine wp_region_plan [(.pure, 0), (.read, 1), (.pure, 2), (.pure, 3), (.pure, 4), (.read, 5), (.pure, 6), (.pure, 7), (.pure, 8), (.read, 9), (.pure, 10), (.pure, 11), (.pure, 12), (.pure, 13), (.pure, 14), (.pure, 15), (.read, 16), (.ben, 17), (.pure, 18), (.pure, 19)] 20 (fun W => Mods Nil (w2) W) mixed (by kernel_rfl) (by kernel_rfl) (by repeat (first | exact Mods.refl | apply Mods.drew)) ?_
    repeat first
       | (refine reg_pure (v := ?_) rfl rfl ?_ ?_; rotate_left 1; (· (intro W; go_simp <;> with_reducible rfl)); simp only [Act.put, List.setIfInBounds_toArray, List.set_cons_zero, List.set_cons_succ])
       | (refine reg_read (v := ?_) rfl rfl ?_ ?_; rotate_left 1; (· (intro W hW; have hW' := Mods.cells hW; go_simp <;> with_reducible rfl)); simp only [Act.put, List.setIfInBounds_toArray, List.set_cons_zero, List.set_cons_succ])
       | (refine reg_off (by rfl) (by rfl) ?_; simp only [Act.put, List.setIfInBounds_toArray, List.set_cons_zero, List.set_cons_succ])
       | (refine reg_pure_on (v := ?_) rfl (by rfl) ?_ ?_; rotate_left 1; (· (intro W; go_simp <;> with_reducible rfl)); simp only [Act.put, List.setIfInBounds_toArray, List.set_cons_zero, List.set_cons_succ])
       | (refine reg_read_on (v := ?_) rfl (by rfl) ?_ ?_; rotate_left 1; (· (intro W hW; have hW' := Mods.cells hW; go_simp <;> with_reducible rfl)); simp only [Act.put, List.setIfInBounds_toArray, List.set_cons_zero, List.set_cons_succ])
    refine reg_ben_on (by rfl) (by rfl) (fun K hK => ?_)
    go_simp
    refine (rises_walk w2.drew d nds L next (w64 (count + 1)) xa xc l (hC.out.img.keepNil (Mods.refl : Mods Nil w2 w2).drew) hlen hC.out.sl).mono ?_
    rintro e w3 ⟨rfl, hm3⟩
    rw [← htb.out]
    replace hm3 := Mods.drew_left hm3
    refine hK _ _ hm3 ?_
    clear hK K
    repeat first
       | (refine reg_pure (v := ?_) rfl rfl ?_ ?_; rotate_left 1; (· (intro W; go_simp <;> with_reducible rfl)); simp only [Act.put, List.setIfInBounds_toArray, List.set_cons_zero, List.set_cons_succ])
       | (refine reg_read (v := ?_) rfl rfl ?_ ?_; rotate_left 1; (· (intro W hW; have hW' := Mods.cells hW; go_simp <;> with_reducible rfl)); simp only [Act.put, List.setIfInBounds_toArray, List.set_cons_zero, List.set_cons_succ])
       | (refine reg_off (by rfl) (by rfl) ?_; simp only [Act.put, List.setIfInBounds_toArray, List.set_cons_zero, List.set_cons_succ])
       | (refine reg_pure_on (v := ?_) rfl (by rfl) ?_ ?_; rotate_left 1; (· (intro W; go_simp <;> with_reducible rfl)); simp only [Act.put, List.setIfInBounds_toArray, List.set_cons_zero, List.set_cons_succ])
       | (refine reg_read_on (v := ?_) rfl (by rfl) ?_ ?_; rotate_left 1; (· (intro W hW; have hW' := Mods.cells hW; go_simp <;> with_reducible rfl)); simp only [Act.put, List.setIfInBounds_toArray, List.set_cons_zero, List.set_cons_succ])
    refine reg_done (qnp_normal ?_)
    go_wp2
    go_ret
    exact RAppPost.of (by rw [happ.out, hE.out, if_neg (by omega)]) (hC.out.keep hm3).mods (hC.out.keep hm3).img rfl
  | true =>
    have hx := Lib.hid (rises_in htb.symm)
    have hE : Hid (moveE nds.length l p.pl = if p.pl.tar = [] then 0 else 16) := Lib.hid (by rw [moveE, ← htb]; rfl)
    replace htb := Lib.hid htb
    go_upto_region 11 with fail
    refine wp_region_plan [(.pure, 0), (.read, 1), (.pure, 2), (.pure, 3), (.pure, 4), (.read, 5), (.pure, 6), (.pure, 7), (.pure, 8), (.read, 9), (.pure, 10), (.pure, 11), (.pure, 12), (.pure, 13), (.pure, 14), (.pure, 15), (.read, 16), (.ben, 17), (.pure, 18), (.pure, 19)] 20 (fun W => Mods Nil (w2) W) mixed (by kernel_rfl) (by kernel_rfl) (by repeat (first | exact Mods.refl | apply Mods.drew)) ?_
    repeat first
       | (refine reg_pure (v := ?_) rfl rfl ?_ ?_; rotate_left 1; (· (intro W; go_simp <;> with_reducible rfl)); simp only [Act.put, List.setIfInBounds_toArray, List.set_cons_zero, List.set_cons_succ])
       | (refine reg_read (v := ?_) rfl rfl ?_ ?_; rotate_left 1; (· (intro W hW; have hW' := Mods.cells hW; go_simp <;> with_reducible rfl)); simp only [Act.put, List.setIfInBounds_toArray, List.set_cons_zero, List.set_cons_succ])
       | (refine reg_off (by rfl) (by rfl) ?_; simp only [Act.put, List.setIfInBounds_toArray, List.set_cons_zero, List.set_cons_succ])
       | (refine reg_pure_on (v := ?_) rfl (by rfl) ?_ ?_; rotate_left 1; (· (intro W; go_simp <;> with_reducible rfl)); simp only [Act.put, List.setIfInBounds_toArray, List.set_cons_zero, List.set_cons_succ])
       | (refine reg_read_on (v := ?_) rfl (by rfl) ?_ ?_; rotate_left 1; (· (intro W hW; have hW' := Mods.cells hW; go_simp <;> with_reducible rfl)); simp only [Act.put, List.setIfInBounds_toArray, List.set_cons_zero, List.set_cons_succ])
    refine reg_ben_on (by rfl) (by rfl) (fun K hK => ?_)
    go_simp
    refine (rises_walk w2.drew d nds L next (w64 (count + 1)) xa xc l (hC.out.img.keepNil (Mods.refl : Mods Nil w2 w2).drew) hlen hC.out.sl).mono ?_
    rintro e w3 ⟨rfl, hm3⟩
    rw [← htb.out]
    replace hm3 := Mods.drew_left hm3
    refine hK _ _ hm3 ?_
    clear hK K
    repeat first
       | (refine reg_pure (v := ?_) rfl rfl ?_ ?_; rotate_left 1; (· (intro W; go_simp <;> with_reducible rfl)); simp only [Act.put, List.setIfInBounds_toArray, List.set_cons_zero, List.set_cons_succ])
       | (refine reg_read (v := ?_) rfl rfl ?_ ?_; rotate_left 1; (· (intro W hW; have hW' := Mods.cells hW; go_simp <;> with_reducible rfl)); simp only [Act.put, List.setIfInBounds_toArray, List.set_cons_zero, List.set_cons_succ])
       | (refine reg_off (by rfl) (by rfl) ?_; simp only [Act.put, List.setIfInBounds_toArray, List.set_cons_zero, List.set_cons_succ])
       | (refine reg_pure_on (v := ?_) rfl (by rfl) ?_ ?_; rotate_left 1; (· (intro W; go_simp <;> with_reducible rfl)); simp only [Act.put, List.setIfInBounds_toArray, List.set_cons_zero, List.set_cons_succ])
       | (refine reg_read_on (v := ?_) rfl (by rfl) ?_ ?_; rotate_left 1; (· (intro W hW; have hW' := Mods.cells hW; go_simp <;> with_reducible rfl)); simp only [Act.put, List.setIfInBounds_toArray, List.set_cons_zero, List.set_cons_succ])
    refine reg_done (qnp_normal ?_)
    have hC3 := Lib.hid (hC.out.keep hm3)
    clear cb lb cx lx hC hm3
    have cb := cellOf hC3.out.img.box
    have lb := ltOf hC3.out.img.box
    have cx := cellOf hC3.out.box
    have lx := ltOf hC3.out.box
    obtain ⟨-, -, -, -, -, c5⟩ := hC3.out.img.pts.cells hn
    have lp := hC3.out.img.pts.1.ltAt
    obtain ⟨⟨lead, ep, ver, isr, rep, tar⟩, ⟨la, lc⟩, ⟨ra, rc⟩, ⟨ta, tc⟩⟩ := p
    unfold Pt.vt at c5
    dsimp only at *
    replace hn := Lib.hid hn
    by_cases h0 : tar = []
    rotate_left
    · have hE2 : Hid (moveE nds.length l ⟨lead, ep, ver, isr, rep, tar⟩ = 16) := Lib.hid (by rw [hE.out, if_neg h0])
      have hpos : tar.length ≠ 0 := fun e => h0 (List.eq_nil_of_length_eq_zero e)
      have hgt : (0 : Int) < (tar.length : Int) := by omega
      clear h0 hpos
      go_upto_region 35 with fail
      refine wp_region_plan [(.pure, 0), (.pure, 1), (.pure, 2), (.read, 3), (.pure, 4), (.read, 5), (.pure, 6), (.pure, 7), (.read, 8), (.pure, 9), (.pure, 10)] 11 (fun W => Mods Nil (w3) W) mixed (by kernel_rfl) (by kernel_rfl) (by repeat (first | exact Mods.refl | apply Mods.drew)) ?_
      repeat first
         | (refine reg_pure (v := ?_) rfl rfl ?_ ?_; rotate_left 1; (· (intro W; go_simp <;> with_reducible rfl)); simp only [Act.put, List.setIfInBounds_toArray, List.set_cons_zero, List.set_cons_succ])
         | (refine reg_read (v := ?_) rfl rfl ?_ ?_; rotate_left 1; (· (intro W hW; have hW' := Mods.cells hW; go_simp <;> with_reducible rfl)); simp only [Act.put, List.setIfInBounds_toArray, List.set_cons_zero, List.set_cons_succ])
         | (refine reg_off (by rfl) (by rfl) ?_; simp only [Act.put, List.setIfInBounds_toArray, List.set_cons_zero, List.set_cons_succ])
         | (refine reg_pure_on (v := ?_) rfl (by rfl) ?_ ?_; rotate_left 1; (· (intro W; go_simp <;> with_reducible rfl)); simp only [Act.put, List.setIfInBounds_toArray, List.set_cons_zero, List.set_cons_succ])
         | (refine reg_read_on (v := ?_) rfl (by rfl) ?_ ?_; rotate_left 1; (· (intro W hW; have hW' := Mods.cells hW; go_simp <;> with_reducible rfl)); simp only [Act.put, List.setIfInBounds_toArray, List.set_cons_zero, List.set_cons_succ])
      refine reg_done (qnp_normal ?_)
      go_wp2
      go_ret
      exact RAppPost.of (by rw [happ.out, hE2.out, if_neg (by omega)]) (hC3.out.keep (Mods.refl : Mods Nil w3 w3).drew).mods (hC3.out.keep (Mods.refl : Mods Nil w3 w3).drew).img rfl
    · subst h0
      have hE2 : Hid (moveE nds.length l ⟨lead, ep, ver, isr, rep, []⟩ = 0) := Lib.hid (by rw [hE.out, if_pos rfl])
      rw [List.length_nil] at c5
      clear hE
      go_upto_region 35 with fail
      refine wp_region_plan [(.pure, 0), (.pure, 1), (.pure, 2), (.read, 3), (.pure, 4), (.read, 5), (.pure, 6), (.pure, 7), (.read, 8), (.pure, 9), (.pure, 10)] 11 (fun W => Mods Nil (w3) W) mixed (by kernel_rfl) (by kernel_rfl) (by repeat (first | exact Mods.refl | apply Mods.drew)) ?_
      repeat first
         | (refine reg_pure (v := ?_) rfl rfl ?_ ?_; rotate_left 1; (· (intro W; go_simp <;> with_reducible rfl)); simp only [Act.put, List.setIfInBounds_toArray, List.set_cons_zero, List.set_cons_succ])
         | (refine reg_read (v := ?_) rfl rfl ?_ ?_; rotate_left 1; (· (intro W hW; have hW' := Mods.cells hW; go_simp <;> with_reducible rfl)); simp only [Act.put, List.setIfInBounds_toArray, List.set_cons_zero, List.set_cons_succ])
         | (refine reg_off (by rfl) (by rfl) ?_; simp only [Act.put, List.setIfInBounds_toArray, List.set_cons_zero, List.set_cons_succ])
         | (refine reg_pure_on (v := ?_) rfl (by rfl) ?_ ?_; rotate_left 1; (· (intro W; go_simp <;> with_reducible rfl)); simp only [Act.put, List.setIfInBounds_toArray, List.set_cons_zero, List.set_cons_succ])
         | (refine reg_read_on (v := ?_) rfl (by rfl) ?_ ?_; rotate_left 1; (· (intro W hW; have hW' := Mods.cells hW; go_simp <;> with_reducible rfl)); simp only [Act.put, List.setIfInBounds_toArray, List.set_cons_zero, List.set_cons_succ])
      refine reg_done (qnp_normal ?_)
      go_upto_region 37 with fail
      refine wp_region_plan [(.pure, 0), (.pure, 1), (.pure, 2), (.read, 3), (.pure, 4), (.read, 5), (.pure, 6), (.read, 7), (.ben, 8), (.pure, 9), (.pure, 10), (.eff, 11)] 11 (fun W => Mods Nil (w3) W) mixed (by kernel_rfl) (by kernel_rfl) (by repeat (first | exact Mods.refl | apply Mods.drew)) ?_
      repeat first
         | (refine reg_pure (v := ?_) rfl rfl ?_ ?_; rotate_left 1; (· (intro W; go_simp <;> with_reducible rfl)); simp only [Act.put, List.setIfInBounds_toArray, List.set_cons_zero, List.set_cons_succ])
         | (refine reg_read (v := ?_) rfl rfl ?_ ?_; rotate_left 1; (· (intro W hW; have hW' := Mods.cells hW; go_simp <;> with_reducible rfl)); simp only [Act.put, List.setIfInBounds_toArray, List.set_cons_zero, List.set_cons_succ])
         | (refine reg_off (by rfl) (by rfl) ?_; simp only [Act.put, List.setIfInBounds_toArray, List.set_cons_zero, List.set_cons_succ])
         | (refine reg_pure_on (v := ?_) rfl (by rfl) ?_ ?_; rotate_left 1; (· (intro W; go_simp <;> with_reducible rfl)); simp only [Act.put, List.setIfInBounds_toArray, List.set_cons_zero, List.set_cons_succ])
         | (refine reg_read_on (v := ?_) rfl (by rfl) ?_ ?_; rotate_left 1; (· (intro W hW; have hW' := Mods.cells hW; go_simp <;> with_reducible rfl)); simp only [Act.put, List.setIfInBounds_toArray, List.set_cons_zero, List.set_cons_succ])
      refine reg_ben (by rfl) (by rfl) (fun K hK => ?_)
      go_simp
      refine (own13_walk _ xa xc l hlen (rdKeep hC3.out.sl ((by repeat (first | exact Mods.refl | apply Mods.drew)) : Mods Nil w3 _) (fun _ _ => id))).mono ?_
      rintro e w4 ⟨na, nc, rfl, hN, hm4⟩
      replace hm4 : Mods Nil w3 w4 := by repeat (first | exact hm4 | apply Mods.drew_left)
      refine hK _ _ hm4 ?_
      clear hK K
      have hC4 := hC3.out.keep hm4
      have hN4 : Il w4 d.A (na, nc) l := Il.of_new hN (fun i hi => hC3.out.img.lt i hi)
      have hpt4 := hC4.img.pts.2.1 _ (List.mem_of_getElem? hn.out)
      have hok4 : (⟨lead, ep, ver, isr, rep, l⟩ : Pl).ok nds.length := ⟨hok.out.lead, hok.out.li, hok.out.lr, hlen, hok.out.isr, hx.out⟩
      have h5 := hC4.img.setPart (p' := ⟨⟨lead, ep, ver, isr, rep, l⟩, (la, lc), (ra, rc), (na, nc)⟩) (u := .slice na l.length nc) hn.out (j := 5) (by omega) rfl ⟨hpt4.1, hpt4.2.1, hN4⟩ hok4
      have hk5 := get_set_same (a := (⟨⟨lead, ep, ver, isr, rep, l⟩, (la, lc), (ra, rc), (na, nc)⟩ : Pt)) hn.out
      have hm5 : Mods d.A w4 (w4.setCell ⟨d.gp, d.op + n * 6 + 5, none⟩ (.slice na l.length nc)) := Mods.refl.setCell (a := ⟨d.gp, d.op + n * 6 + 5, none⟩) _ (fun _ => .inr (.inr (.inr (.inr rfl))))
      have hC5 := Lib.hid (hC4.turn hm5 h5 hxa.out)
      obtain ⟨-, -, -, -, -, c4⟩ := hC4.img.pts.cells hn.out
      unfold Pt.vt at c4
      dsimp only at c4
      have f4 := hC4.img.pts.1.frzAt
      have l4 := hC4.img.pts.1.ltAt
      clear hC4 hN4 hpt4 hok4 hm5 hN h5 c5
      replace hk5 := Lib.hid hk5
      try simp only [Act.put, List.setIfInBounds_toArray, List.set_cons_zero, List.set_cons_succ]
      repeat first
         | (refine reg_pure (v := ?_) rfl rfl ?_ ?_; rotate_left 1; (· (intro W; go_simp <;> with_reducible rfl)); simp only [Act.put, List.setIfInBounds_toArray, List.set_cons_zero, List.set_cons_succ])
         | (refine reg_read (v := ?_) rfl rfl ?_ ?_; rotate_left 1; (· (intro W hW; have hW' := Mods.cells hW; go_simp <;> with_reducible rfl)); simp only [Act.put, List.setIfInBounds_toArray, List.set_cons_zero, List.set_cons_succ])
         | (refine reg_off (by rfl) (by rfl) ?_; simp only [Act.put, List.setIfInBounds_toArray, List.set_cons_zero, List.set_cons_succ])
         | (refine reg_pure_on (v := ?_) rfl (by rfl) ?_ ?_; rotate_left 1; (· (intro W; go_simp <;> with_reducible rfl)); simp only [Act.put, List.setIfInBounds_toArray, List.set_cons_zero, List.set_cons_succ])
         | (refine reg_read_on (v := ?_) rfl (by rfl) ?_ ?_; rotate_left 1; (· (intro W hW; have hW' := Mods.cells hW; go_simp <;> with_reducible rfl)); simp only [Act.put, List.setIfInBounds_toArray, List.set_cons_zero, List.set_cons_succ])
      refine reg_eff (by rfl) (by rfl) (fun K hK => ?_)
      go_simp
      refine hK _ _ ?_
      clear hK K
      refine reg_done (qnp_normal ?_)
      clear c4 f4 l4 cb lb cx lx lp hm4 hC3
      generalize w4.setCell ⟨d.gp, d.op + n * 6 + 5, none⟩ (.slice na l.length nc) = w5 at *
      have hset : Hid (∀ W, Mods Nil w5 W → Calls Try.prog 52 #[.pointer (some ⟨d.b, 0, none⟩), .int .i64 n] W
        fun e w' => e = .returned (.tuple #[]) ∧ (∃ p', p'.pl = settleP nds ⟨lead, ep, ver, isr, rep, l⟩ ∧ RImg w' d nds (L.set n p') next (w64 (count + 1))) ∧ Mods (fun i => i = d.gp) W w') := Lib.hid (fun W hW => by
          have := rsettle_walk W d nds _ next (w64 (count + 1)) n _ (hC5.out.img.keepNil hW) hk5.out
          simpa only [set_set_same] using this)
      have cx := cellOf hC5.out.box
      have lx := ltOf hC5.out.box
      go_wp2_with (go_at_call 52; (with_reducible refine (hset.out _ (by repeat (first | exact Mods.refl | apply Mods.drew))).mono ?_); rintro e w6 ⟨rfl, ⟨q, hq, h6⟩, hm6⟩)
      go_ret
      refine RAppPost.of (by rw [happ.out, hE2.out, if_pos rfl]) ((hC5.out.keep (by repeat (first | exact Mods.refl | apply Mods.drew))).mods.trans (hm6.mono (fun i hi => .inr (.inr (.inr (.inr hi))))) (fun _ _ h => h)) h6 ?_
      rw [List.map_set, hq]
      rfl
end Go.Proofs.Ytnnoicacpcahfaa
