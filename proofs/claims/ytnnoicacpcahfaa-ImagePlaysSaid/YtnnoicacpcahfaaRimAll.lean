/- The reference's image: Apply, walked, of any command. No condition. -/
import Derived.Test.YtnnoicacpcahfaaRimApply
namespace Go.Proofs.Ytnnoicacpcahfaa
open Go.RowKit

set_option maxRecDepth 100000 in
set_option maxHeartbeats 3200000 in
theorem rapply_node_1_lo (w : World) (d : RAd) (nds : List Nd) (L : List Pt) (next count node part ep' ver' : Int) (xa : Option Addr) (xc : Nat) (l : List Int) (h : RImg w d nds L next count) (hs : Rd w 1 (.slice xa l.length xc) l.length (ints l)) (hxa : l ≠ [] → ∀ a, xa = some a → ¬ d.A a.block) (hx : node < 0) :
    Calls Try.prog 23 #[.pointer (some ⟨d.b, 0, none⟩), .agg #[.int .i64 1, .int .i64 node, .int .i64 part, .int .i64 ep', .int .i64 ver', .slice xa l.length xc]] w
      fun e w' => RAppPost w d ⟨nds, L.map Pt.pl, next, count⟩ ⟨1, node, part, ep', ver', l⟩ e w' := by
  have happ := Lib.hid (app_nodeOut (S := ⟨nds, L.map Pt.pl, next, count⟩) (c := ⟨1, node, part, ep', ver', l⟩) (by simp) (.inl hx))
  have d0 : decide (node < 0) = true := decide_eq_true hx
  have hC := Lib.hid (RApCtx.start (kind := 1) (node := node) (part := part) (ep' := ep') (ver' := ver') h hs hxa)
  have hm0 : Mods Nil w (w.alloc (.cells #[.int .i64 1, .int .i64 node, .int .i64 part, .int .i64 ep', .int .i64 ver', .slice xa l.length xc] 61)) := Mods.refl.alloc _
  have cb := cellOf (h.keepNil hm0).box
  have lb := ltOf (h.keepNil hm0).box
  have fb := frzOf (h.keepNil hm0).box
  replace hs := Lib.hid hs
  replace hxa := Lib.hid hxa
  clear h hm0
  go_enter Try.func23, Try.ntmps23
  go_upto_region 2 with fail
  clear cb lb fb
  change Code.wp _ _ _ _ ((w.alloc (.cells #[.int .i64 1, .int .i64 node, .int .i64 part, .int .i64 ep', .int .i64 ver', .slice xa l.length xc] 61)).setCell ⟨d.b, 5, none⟩ (.int .i64 (w64 (count + 1))))
  generalize (w.alloc (.cells #[.int .i64 1, .int .i64 node, .int .i64 part, .int .i64 ep', .int .i64 ver', .slice xa l.length xc] 61)).setCell ⟨d.b, 5, none⟩ (.int .i64 (w64 (count + 1))) = w2 at *
  generalize w.heap.size = B at *
  have cb := cellOf hC.out.img.box
  have lb := ltOf hC.out.img.box
  have cx := cellOf hC.out.box
  have lx := ltOf hC.out.box
  go_upto_region 7 with fail
  refine wp_region_plan [(.pure, 0), (.read, 1), (.pure, 2), (.pure, 3), (.pure, 4), (.read, 5), (.pure, 6), (.pure, 7), (.pure, 8), (.read, 9), (.pure, 10), (.pure, 11), (.pure, 12)] 13 (fun W => Mods Nil (w2) W) mixed (by kernel_rfl) (by kernel_rfl) (by repeat (first | exact Mods.refl | apply Mods.drew)) ?_
  repeat first
     | (refine reg_pure (v := ?_) rfl rfl ?_ ?_; rotate_left 1; (· (intro W; go_simp <;> with_reducible rfl)); simp only [Act.put, List.setIfInBounds_toArray, List.set_cons_zero, List.set_cons_succ])
     | (refine reg_read (v := ?_) rfl rfl ?_ ?_; rotate_left 1; (· (intro W hW; have hW' := Mods.cells hW; go_simp <;> with_reducible rfl)); simp only [Act.put, List.setIfInBounds_toArray, List.set_cons_zero, List.set_cons_succ])
     | (refine reg_off (by rfl) (by rfl) ?_; simp only [Act.put, List.setIfInBounds_toArray, List.set_cons_zero, List.set_cons_succ])
     | (refine reg_pure_on (v := ?_) rfl (by rfl) ?_ ?_; rotate_left 1; (· (intro W; go_simp <;> with_reducible rfl)); simp only [Act.put, List.setIfInBounds_toArray, List.set_cons_zero, List.set_cons_succ])
     | (refine reg_read_on (v := ?_) rfl (by rfl) ?_ ?_; rotate_left 1; (· (intro W hW; have hW' := Mods.cells hW; go_simp <;> with_reducible rfl)); simp only [Act.put, List.setIfInBounds_toArray, List.set_cons_zero, List.set_cons_succ])
  refine reg_done (qnp_normal ?_)
  go_wp2
  go_ret
  exact RAppPost.of happ.out (hC.out.keep (Mods.refl : Mods Nil w2 w2).drew).mods (hC.out.keep (Mods.refl : Mods Nil w2 w2).drew).img rfl
set_option maxRecDepth 100000 in
set_option maxHeartbeats 3200000 in
theorem rapply_node_1_hi (w : World) (d : RAd) (nds : List Nd) (L : List Pt) (next count node part ep' ver' : Int) (xa : Option Addr) (xc : Nat) (l : List Int) (h : RImg w d nds L next count) (hs : Rd w 1 (.slice xa l.length xc) l.length (ints l)) (hxa : l ≠ [] → ∀ a, xa = some a → ¬ d.A a.block) (hx0 : 0 ≤ node) (hx : (nds.length : Int) ≤ node) :
    Calls Try.prog 23 #[.pointer (some ⟨d.b, 0, none⟩), .agg #[.int .i64 1, .int .i64 node, .int .i64 part, .int .i64 ep', .int .i64 ver', .slice xa l.length xc]] w
      fun e w' => RAppPost w d ⟨nds, L.map Pt.pl, next, count⟩ ⟨1, node, part, ep', ver', l⟩ e w' := by
  have happ := Lib.hid (app_nodeOut (S := ⟨nds, L.map Pt.pl, next, count⟩) (c := ⟨1, node, part, ep', ver', l⟩) (by simp) (.inr (by simpa using hx)))
  have d0 : decide (node < 0) = false := decide_eq_false (by omega)
  have d1 : decide ((nds.length : Int) ≤ node) = true := decide_eq_true hx
  have hC := Lib.hid (RApCtx.start (kind := 1) (node := node) (part := part) (ep' := ep') (ver' := ver') h hs hxa)
  have hm0 : Mods Nil w (w.alloc (.cells #[.int .i64 1, .int .i64 node, .int .i64 part, .int .i64 ep', .int .i64 ver', .slice xa l.length xc] 61)) := Mods.refl.alloc _
  have cb := cellOf (h.keepNil hm0).box
  have lb := ltOf (h.keepNil hm0).box
  have fb := frzOf (h.keepNil hm0).box
  replace hs := Lib.hid hs
  replace hxa := Lib.hid hxa
  clear h hm0
  go_enter Try.func23, Try.ntmps23
  go_upto_region 2 with fail
  clear cb lb fb
  change Code.wp _ _ _ _ ((w.alloc (.cells #[.int .i64 1, .int .i64 node, .int .i64 part, .int .i64 ep', .int .i64 ver', .slice xa l.length xc] 61)).setCell ⟨d.b, 5, none⟩ (.int .i64 (w64 (count + 1))))
  generalize (w.alloc (.cells #[.int .i64 1, .int .i64 node, .int .i64 part, .int .i64 ep', .int .i64 ver', .slice xa l.length xc] 61)).setCell ⟨d.b, 5, none⟩ (.int .i64 (w64 (count + 1))) = w2 at *
  generalize w.heap.size = B at *
  have cb := cellOf hC.out.img.box
  have lb := ltOf hC.out.img.box
  have cx := cellOf hC.out.box
  have lx := ltOf hC.out.box
  go_upto_region 7 with fail
  refine wp_region_plan [(.pure, 0), (.read, 1), (.pure, 2), (.pure, 3), (.pure, 4), (.read, 5), (.pure, 6), (.pure, 7), (.pure, 8), (.read, 9), (.pure, 10), (.pure, 11), (.pure, 12)] 13 (fun W => Mods Nil (w2) W) mixed (by kernel_rfl) (by kernel_rfl) (by repeat (first | exact Mods.refl | apply Mods.drew)) ?_
  repeat first
     | (refine reg_pure (v := ?_) rfl rfl ?_ ?_; rotate_left 1; (· (intro W; go_simp <;> with_reducible rfl)); simp only [Act.put, List.setIfInBounds_toArray, List.set_cons_zero, List.set_cons_succ])
     | (refine reg_read (v := ?_) rfl rfl ?_ ?_; rotate_left 1; (· (intro W hW; have hW' := Mods.cells hW; go_simp <;> with_reducible rfl)); simp only [Act.put, List.setIfInBounds_toArray, List.set_cons_zero, List.set_cons_succ])
     | (refine reg_off (by rfl) (by rfl) ?_; simp only [Act.put, List.setIfInBounds_toArray, List.set_cons_zero, List.set_cons_succ])
     | (refine reg_pure_on (v := ?_) rfl (by rfl) ?_ ?_; rotate_left 1; (· (intro W; go_simp <;> with_reducible rfl)); simp only [Act.put, List.setIfInBounds_toArray, List.set_cons_zero, List.set_cons_succ])
     | (refine reg_read_on (v := ?_) rfl (by rfl) ?_ ?_; rotate_left 1; (· (intro W hW; have hW' := Mods.cells hW; go_simp <;> with_reducible rfl)); simp only [Act.put, List.setIfInBounds_toArray, List.set_cons_zero, List.set_cons_succ])
  refine reg_done (qnp_normal ?_)
  go_wp2
  go_ret
  exact RAppPost.of happ.out (hC.out.keep (Mods.refl : Mods Nil w2 w2).drew).mods (hC.out.keep (Mods.refl : Mods Nil w2 w2).drew).img rfl
set_option maxRecDepth 100000 in
set_option maxHeartbeats 3200000 in
theorem rapply_node_2_lo (w : World) (d : RAd) (nds : List Nd) (L : List Pt) (next count node part ep' ver' : Int) (xa : Option Addr) (xc : Nat) (l : List Int) (h : RImg w d nds L next count) (hs : Rd w 1 (.slice xa l.length xc) l.length (ints l)) (hxa : l ≠ [] → ∀ a, xa = some a → ¬ d.A a.block) (hx : node < 0) :
    Calls Try.prog 23 #[.pointer (some ⟨d.b, 0, none⟩), .agg #[.int .i64 2, .int .i64 node, .int .i64 part, .int .i64 ep', .int .i64 ver', .slice xa l.length xc]] w
      fun e w' => RAppPost w d ⟨nds, L.map Pt.pl, next, count⟩ ⟨2, node, part, ep', ver', l⟩ e w' := by
  have happ := Lib.hid (app_nodeOut (S := ⟨nds, L.map Pt.pl, next, count⟩) (c := ⟨2, node, part, ep', ver', l⟩) (by simp) (.inl hx))
  have d0 : decide (node < 0) = true := decide_eq_true hx
  have hC := Lib.hid (RApCtx.start (kind := 2) (node := node) (part := part) (ep' := ep') (ver' := ver') h hs hxa)
  have hm0 : Mods Nil w (w.alloc (.cells #[.int .i64 2, .int .i64 node, .int .i64 part, .int .i64 ep', .int .i64 ver', .slice xa l.length xc] 61)) := Mods.refl.alloc _
  have cb := cellOf (h.keepNil hm0).box
  have lb := ltOf (h.keepNil hm0).box
  have fb := frzOf (h.keepNil hm0).box
  replace hs := Lib.hid hs
  replace hxa := Lib.hid hxa
  clear h hm0
  go_enter Try.func23, Try.ntmps23
  go_upto_region 2 with fail
  clear cb lb fb
  change Code.wp _ _ _ _ ((w.alloc (.cells #[.int .i64 2, .int .i64 node, .int .i64 part, .int .i64 ep', .int .i64 ver', .slice xa l.length xc] 61)).setCell ⟨d.b, 5, none⟩ (.int .i64 (w64 (count + 1))))
  generalize (w.alloc (.cells #[.int .i64 2, .int .i64 node, .int .i64 part, .int .i64 ep', .int .i64 ver', .slice xa l.length xc] 61)).setCell ⟨d.b, 5, none⟩ (.int .i64 (w64 (count + 1))) = w2 at *
  generalize w.heap.size = B at *
  have cb := cellOf hC.out.img.box
  have lb := ltOf hC.out.img.box
  have cx := cellOf hC.out.box
  have lx := ltOf hC.out.box
  go_upto_region 7 with fail
  refine wp_region_plan [(.pure, 0), (.read, 1), (.pure, 2), (.pure, 3), (.pure, 4), (.read, 5), (.pure, 6), (.pure, 7), (.pure, 8), (.read, 9), (.pure, 10), (.pure, 11), (.pure, 12)] 13 (fun W => Mods Nil (w2) W) mixed (by kernel_rfl) (by kernel_rfl) (by repeat (first | exact Mods.refl | apply Mods.drew)) ?_
  repeat first
     | (refine reg_pure (v := ?_) rfl rfl ?_ ?_; rotate_left 1; (· (intro W; go_simp <;> with_reducible rfl)); simp only [Act.put, List.setIfInBounds_toArray, List.set_cons_zero, List.set_cons_succ])
     | (refine reg_read (v := ?_) rfl rfl ?_ ?_; rotate_left 1; (· (intro W hW; have hW' := Mods.cells hW; go_simp <;> with_reducible rfl)); simp only [Act.put, List.setIfInBounds_toArray, List.set_cons_zero, List.set_cons_succ])
     | (refine reg_off (by rfl) (by rfl) ?_; simp only [Act.put, List.setIfInBounds_toArray, List.set_cons_zero, List.set_cons_succ])
     | (refine reg_pure_on (v := ?_) rfl (by rfl) ?_ ?_; rotate_left 1; (· (intro W; go_simp <;> with_reducible rfl)); simp only [Act.put, List.setIfInBounds_toArray, List.set_cons_zero, List.set_cons_succ])
     | (refine reg_read_on (v := ?_) rfl (by rfl) ?_ ?_; rotate_left 1; (· (intro W hW; have hW' := Mods.cells hW; go_simp <;> with_reducible rfl)); simp only [Act.put, List.setIfInBounds_toArray, List.set_cons_zero, List.set_cons_succ])
  refine reg_done (qnp_normal ?_)
  go_wp2
  go_ret
  exact RAppPost.of happ.out (hC.out.keep (Mods.refl : Mods Nil w2 w2).drew).mods (hC.out.keep (Mods.refl : Mods Nil w2 w2).drew).img rfl
set_option maxRecDepth 100000 in
set_option maxHeartbeats 3200000 in
theorem rapply_node_2_hi (w : World) (d : RAd) (nds : List Nd) (L : List Pt) (next count node part ep' ver' : Int) (xa : Option Addr) (xc : Nat) (l : List Int) (h : RImg w d nds L next count) (hs : Rd w 1 (.slice xa l.length xc) l.length (ints l)) (hxa : l ≠ [] → ∀ a, xa = some a → ¬ d.A a.block) (hx0 : 0 ≤ node) (hx : (nds.length : Int) ≤ node) :
    Calls Try.prog 23 #[.pointer (some ⟨d.b, 0, none⟩), .agg #[.int .i64 2, .int .i64 node, .int .i64 part, .int .i64 ep', .int .i64 ver', .slice xa l.length xc]] w
      fun e w' => RAppPost w d ⟨nds, L.map Pt.pl, next, count⟩ ⟨2, node, part, ep', ver', l⟩ e w' := by
  have happ := Lib.hid (app_nodeOut (S := ⟨nds, L.map Pt.pl, next, count⟩) (c := ⟨2, node, part, ep', ver', l⟩) (by simp) (.inr (by simpa using hx)))
  have d0 : decide (node < 0) = false := decide_eq_false (by omega)
  have d1 : decide ((nds.length : Int) ≤ node) = true := decide_eq_true hx
  have hC := Lib.hid (RApCtx.start (kind := 2) (node := node) (part := part) (ep' := ep') (ver' := ver') h hs hxa)
  have hm0 : Mods Nil w (w.alloc (.cells #[.int .i64 2, .int .i64 node, .int .i64 part, .int .i64 ep', .int .i64 ver', .slice xa l.length xc] 61)) := Mods.refl.alloc _
  have cb := cellOf (h.keepNil hm0).box
  have lb := ltOf (h.keepNil hm0).box
  have fb := frzOf (h.keepNil hm0).box
  replace hs := Lib.hid hs
  replace hxa := Lib.hid hxa
  clear h hm0
  go_enter Try.func23, Try.ntmps23
  go_upto_region 2 with fail
  clear cb lb fb
  change Code.wp _ _ _ _ ((w.alloc (.cells #[.int .i64 2, .int .i64 node, .int .i64 part, .int .i64 ep', .int .i64 ver', .slice xa l.length xc] 61)).setCell ⟨d.b, 5, none⟩ (.int .i64 (w64 (count + 1))))
  generalize (w.alloc (.cells #[.int .i64 2, .int .i64 node, .int .i64 part, .int .i64 ep', .int .i64 ver', .slice xa l.length xc] 61)).setCell ⟨d.b, 5, none⟩ (.int .i64 (w64 (count + 1))) = w2 at *
  generalize w.heap.size = B at *
  have cb := cellOf hC.out.img.box
  have lb := ltOf hC.out.img.box
  have cx := cellOf hC.out.box
  have lx := ltOf hC.out.box
  go_upto_region 7 with fail
  refine wp_region_plan [(.pure, 0), (.read, 1), (.pure, 2), (.pure, 3), (.pure, 4), (.read, 5), (.pure, 6), (.pure, 7), (.pure, 8), (.read, 9), (.pure, 10), (.pure, 11), (.pure, 12)] 13 (fun W => Mods Nil (w2) W) mixed (by kernel_rfl) (by kernel_rfl) (by repeat (first | exact Mods.refl | apply Mods.drew)) ?_
  repeat first
     | (refine reg_pure (v := ?_) rfl rfl ?_ ?_; rotate_left 1; (· (intro W; go_simp <;> with_reducible rfl)); simp only [Act.put, List.setIfInBounds_toArray, List.set_cons_zero, List.set_cons_succ])
     | (refine reg_read (v := ?_) rfl rfl ?_ ?_; rotate_left 1; (· (intro W hW; have hW' := Mods.cells hW; go_simp <;> with_reducible rfl)); simp only [Act.put, List.setIfInBounds_toArray, List.set_cons_zero, List.set_cons_succ])
     | (refine reg_off (by rfl) (by rfl) ?_; simp only [Act.put, List.setIfInBounds_toArray, List.set_cons_zero, List.set_cons_succ])
     | (refine reg_pure_on (v := ?_) rfl (by rfl) ?_ ?_; rotate_left 1; (· (intro W; go_simp <;> with_reducible rfl)); simp only [Act.put, List.setIfInBounds_toArray, List.set_cons_zero, List.set_cons_succ])
     | (refine reg_read_on (v := ?_) rfl (by rfl) ?_ ?_; rotate_left 1; (· (intro W hW; have hW' := Mods.cells hW; go_simp <;> with_reducible rfl)); simp only [Act.put, List.setIfInBounds_toArray, List.set_cons_zero, List.set_cons_succ])
  refine reg_done (qnp_normal ?_)
  go_wp2
  go_ret
  exact RAppPost.of happ.out (hC.out.keep (Mods.refl : Mods Nil w2 w2).drew).mods (hC.out.keep (Mods.refl : Mods Nil w2 w2).drew).img rfl
set_option maxRecDepth 100000 in
set_option maxHeartbeats 3200000 in
theorem rapply_node_5_lo (w : World) (d : RAd) (nds : List Nd) (L : List Pt) (next count node part ep' ver' : Int) (xa : Option Addr) (xc : Nat) (l : List Int) (h : RImg w d nds L next count) (hs : Rd w 1 (.slice xa l.length xc) l.length (ints l)) (hxa : l ≠ [] → ∀ a, xa = some a → ¬ d.A a.block) (hx : node < 0) :
    Calls Try.prog 23 #[.pointer (some ⟨d.b, 0, none⟩), .agg #[.int .i64 5, .int .i64 node, .int .i64 part, .int .i64 ep', .int .i64 ver', .slice xa l.length xc]] w
      fun e w' => RAppPost w d ⟨nds, L.map Pt.pl, next, count⟩ ⟨5, node, part, ep', ver', l⟩ e w' := by
  have happ := Lib.hid (app_nodeOut (S := ⟨nds, L.map Pt.pl, next, count⟩) (c := ⟨5, node, part, ep', ver', l⟩) (by simp) (.inl hx))
  have d0 : decide (node < 0) = true := decide_eq_true hx
  have hC := Lib.hid (RApCtx.start (kind := 5) (node := node) (part := part) (ep' := ep') (ver' := ver') h hs hxa)
  have hm0 : Mods Nil w (w.alloc (.cells #[.int .i64 5, .int .i64 node, .int .i64 part, .int .i64 ep', .int .i64 ver', .slice xa l.length xc] 61)) := Mods.refl.alloc _
  have cb := cellOf (h.keepNil hm0).box
  have lb := ltOf (h.keepNil hm0).box
  have fb := frzOf (h.keepNil hm0).box
  replace hs := Lib.hid hs
  replace hxa := Lib.hid hxa
  clear h hm0
  go_enter Try.func23, Try.ntmps23
  go_upto_region 2 with fail
  clear cb lb fb
  change Code.wp _ _ _ _ ((w.alloc (.cells #[.int .i64 5, .int .i64 node, .int .i64 part, .int .i64 ep', .int .i64 ver', .slice xa l.length xc] 61)).setCell ⟨d.b, 5, none⟩ (.int .i64 (w64 (count + 1))))
  generalize (w.alloc (.cells #[.int .i64 5, .int .i64 node, .int .i64 part, .int .i64 ep', .int .i64 ver', .slice xa l.length xc] 61)).setCell ⟨d.b, 5, none⟩ (.int .i64 (w64 (count + 1))) = w2 at *
  generalize w.heap.size = B at *
  have cb := cellOf hC.out.img.box
  have lb := ltOf hC.out.img.box
  have cx := cellOf hC.out.box
  have lx := ltOf hC.out.box
  go_upto_region 7 with fail
  refine wp_region_plan [(.pure, 0), (.read, 1), (.pure, 2), (.pure, 3), (.pure, 4), (.read, 5), (.pure, 6), (.pure, 7), (.pure, 8), (.read, 9), (.pure, 10), (.pure, 11), (.pure, 12)] 13 (fun W => Mods Nil (w2) W) mixed (by kernel_rfl) (by kernel_rfl) (by repeat (first | exact Mods.refl | apply Mods.drew)) ?_
  repeat first
     | (refine reg_pure (v := ?_) rfl rfl ?_ ?_; rotate_left 1; (· (intro W; go_simp <;> with_reducible rfl)); simp only [Act.put, List.setIfInBounds_toArray, List.set_cons_zero, List.set_cons_succ])
     | (refine reg_read (v := ?_) rfl rfl ?_ ?_; rotate_left 1; (· (intro W hW; have hW' := Mods.cells hW; go_simp <;> with_reducible rfl)); simp only [Act.put, List.setIfInBounds_toArray, List.set_cons_zero, List.set_cons_succ])
     | (refine reg_off (by rfl) (by rfl) ?_; simp only [Act.put, List.setIfInBounds_toArray, List.set_cons_zero, List.set_cons_succ])
     | (refine reg_pure_on (v := ?_) rfl (by rfl) ?_ ?_; rotate_left 1; (· (intro W; go_simp <;> with_reducible rfl)); simp only [Act.put, List.setIfInBounds_toArray, List.set_cons_zero, List.set_cons_succ])
     | (refine reg_read_on (v := ?_) rfl (by rfl) ?_ ?_; rotate_left 1; (· (intro W hW; have hW' := Mods.cells hW; go_simp <;> with_reducible rfl)); simp only [Act.put, List.setIfInBounds_toArray, List.set_cons_zero, List.set_cons_succ])
  refine reg_done (qnp_normal ?_)
  go_wp2
  go_ret
  exact RAppPost.of happ.out (hC.out.keep (Mods.refl : Mods Nil w2 w2).drew).mods (hC.out.keep (Mods.refl : Mods Nil w2 w2).drew).img rfl
set_option maxRecDepth 100000 in
set_option maxHeartbeats 3200000 in
theorem rapply_node_5_hi (w : World) (d : RAd) (nds : List Nd) (L : List Pt) (next count node part ep' ver' : Int) (xa : Option Addr) (xc : Nat) (l : List Int) (h : RImg w d nds L next count) (hs : Rd w 1 (.slice xa l.length xc) l.length (ints l)) (hxa : l ≠ [] → ∀ a, xa = some a → ¬ d.A a.block) (hx0 : 0 ≤ node) (hx : (nds.length : Int) ≤ node) :
    Calls Try.prog 23 #[.pointer (some ⟨d.b, 0, none⟩), .agg #[.int .i64 5, .int .i64 node, .int .i64 part, .int .i64 ep', .int .i64 ver', .slice xa l.length xc]] w
      fun e w' => RAppPost w d ⟨nds, L.map Pt.pl, next, count⟩ ⟨5, node, part, ep', ver', l⟩ e w' := by
  have happ := Lib.hid (app_nodeOut (S := ⟨nds, L.map Pt.pl, next, count⟩) (c := ⟨5, node, part, ep', ver', l⟩) (by simp) (.inr (by simpa using hx)))
  have d0 : decide (node < 0) = false := decide_eq_false (by omega)
  have d1 : decide ((nds.length : Int) ≤ node) = true := decide_eq_true hx
  have hC := Lib.hid (RApCtx.start (kind := 5) (node := node) (part := part) (ep' := ep') (ver' := ver') h hs hxa)
  have hm0 : Mods Nil w (w.alloc (.cells #[.int .i64 5, .int .i64 node, .int .i64 part, .int .i64 ep', .int .i64 ver', .slice xa l.length xc] 61)) := Mods.refl.alloc _
  have cb := cellOf (h.keepNil hm0).box
  have lb := ltOf (h.keepNil hm0).box
  have fb := frzOf (h.keepNil hm0).box
  replace hs := Lib.hid hs
  replace hxa := Lib.hid hxa
  clear h hm0
  go_enter Try.func23, Try.ntmps23
  go_upto_region 2 with fail
  clear cb lb fb
  change Code.wp _ _ _ _ ((w.alloc (.cells #[.int .i64 5, .int .i64 node, .int .i64 part, .int .i64 ep', .int .i64 ver', .slice xa l.length xc] 61)).setCell ⟨d.b, 5, none⟩ (.int .i64 (w64 (count + 1))))
  generalize (w.alloc (.cells #[.int .i64 5, .int .i64 node, .int .i64 part, .int .i64 ep', .int .i64 ver', .slice xa l.length xc] 61)).setCell ⟨d.b, 5, none⟩ (.int .i64 (w64 (count + 1))) = w2 at *
  generalize w.heap.size = B at *
  have cb := cellOf hC.out.img.box
  have lb := ltOf hC.out.img.box
  have cx := cellOf hC.out.box
  have lx := ltOf hC.out.box
  go_upto_region 7 with fail
  refine wp_region_plan [(.pure, 0), (.read, 1), (.pure, 2), (.pure, 3), (.pure, 4), (.read, 5), (.pure, 6), (.pure, 7), (.pure, 8), (.read, 9), (.pure, 10), (.pure, 11), (.pure, 12)] 13 (fun W => Mods Nil (w2) W) mixed (by kernel_rfl) (by kernel_rfl) (by repeat (first | exact Mods.refl | apply Mods.drew)) ?_
  repeat first
     | (refine reg_pure (v := ?_) rfl rfl ?_ ?_; rotate_left 1; (· (intro W; go_simp <;> with_reducible rfl)); simp only [Act.put, List.setIfInBounds_toArray, List.set_cons_zero, List.set_cons_succ])
     | (refine reg_read (v := ?_) rfl rfl ?_ ?_; rotate_left 1; (· (intro W hW; have hW' := Mods.cells hW; go_simp <;> with_reducible rfl)); simp only [Act.put, List.setIfInBounds_toArray, List.set_cons_zero, List.set_cons_succ])
     | (refine reg_off (by rfl) (by rfl) ?_; simp only [Act.put, List.setIfInBounds_toArray, List.set_cons_zero, List.set_cons_succ])
     | (refine reg_pure_on (v := ?_) rfl (by rfl) ?_ ?_; rotate_left 1; (· (intro W; go_simp <;> with_reducible rfl)); simp only [Act.put, List.setIfInBounds_toArray, List.set_cons_zero, List.set_cons_succ])
     | (refine reg_read_on (v := ?_) rfl (by rfl) ?_ ?_; rotate_left 1; (· (intro W hW; have hW' := Mods.cells hW; go_simp <;> with_reducible rfl)); simp only [Act.put, List.setIfInBounds_toArray, List.set_cons_zero, List.set_cons_succ])
  refine reg_done (qnp_normal ?_)
  go_wp2
  go_ret
  exact RAppPost.of happ.out (hC.out.keep (Mods.refl : Mods Nil w2 w2).drew).mods (hC.out.keep (Mods.refl : Mods Nil w2 w2).drew).img rfl
set_option maxRecDepth 100000 in
set_option maxHeartbeats 3200000 in
theorem rapply_part_3_lo (w : World) (d : RAd) (nds : List Nd) (L : List Pt) (next count node part ep' ver' : Int) (xa : Option Addr) (xc : Nat) (l : List Int) (h : RImg w d nds L next count) (hs : Rd w 1 (.slice xa l.length xc) l.length (ints l)) (hxa : l ≠ [] → ∀ a, xa = some a → ¬ d.A a.block) (hx : part < 0) :
    Calls Try.prog 23 #[.pointer (some ⟨d.b, 0, none⟩), .agg #[.int .i64 3, .int .i64 node, .int .i64 part, .int .i64 ep', .int .i64 ver', .slice xa l.length xc]] w
      fun e w' => RAppPost w d ⟨nds, L.map Pt.pl, next, count⟩ ⟨3, node, part, ep', ver', l⟩ e w' := by
  have happ := Lib.hid (app_partOut (S := ⟨nds, L.map Pt.pl, next, count⟩) (c := ⟨3, node, part, ep', ver', l⟩) (by simp) (.inl hx))
  have d0 : decide (part < 0) = true := decide_eq_true hx
  have hC := Lib.hid (RApCtx.start (kind := 3) (node := node) (part := part) (ep' := ep') (ver' := ver') h hs hxa)
  have hm0 : Mods Nil w (w.alloc (.cells #[.int .i64 3, .int .i64 node, .int .i64 part, .int .i64 ep', .int .i64 ver', .slice xa l.length xc] 61)) := Mods.refl.alloc _
  have cb := cellOf (h.keepNil hm0).box
  have lb := ltOf (h.keepNil hm0).box
  have fb := frzOf (h.keepNil hm0).box
  replace hs := Lib.hid hs
  replace hxa := Lib.hid hxa
  clear h hm0
  go_enter Try.func23, Try.ntmps23
  go_upto_region 2 with fail
  clear cb lb fb
  change Code.wp _ _ _ _ ((w.alloc (.cells #[.int .i64 3, .int .i64 node, .int .i64 part, .int .i64 ep', .int .i64 ver', .slice xa l.length xc] 61)).setCell ⟨d.b, 5, none⟩ (.int .i64 (w64 (count + 1))))
  generalize (w.alloc (.cells #[.int .i64 3, .int .i64 node, .int .i64 part, .int .i64 ep', .int .i64 ver', .slice xa l.length xc] 61)).setCell ⟨d.b, 5, none⟩ (.int .i64 (w64 (count + 1))) = w2 at *
  generalize w.heap.size = B at *
  have cb := cellOf hC.out.img.box
  have lb := ltOf hC.out.img.box
  have cx := cellOf hC.out.box
  have lx := ltOf hC.out.box
  go_upto_region 11 with fail
  refine wp_region_plan [(.pure, 0), (.read, 1), (.pure, 2), (.pure, 3), (.pure, 4), (.read, 5), (.pure, 6), (.pure, 7), (.pure, 8), (.read, 9), (.pure, 10), (.pure, 11), (.pure, 12), (.pure, 13), (.pure, 14), (.pure, 15), (.read, 16), (.ben, 17), (.pure, 18), (.pure, 19)] 20 (fun W => Mods Nil (w2) W) mixed (by kernel_rfl) (by kernel_rfl) (by repeat (first | exact Mods.refl | apply Mods.drew)) ?_
  repeat first
     | (refine reg_pure (v := ?_) rfl rfl ?_ ?_; rotate_left 1; (· (intro W; go_simp <;> with_reducible rfl)); simp only [Act.put, List.setIfInBounds_toArray, List.set_cons_zero, List.set_cons_succ])
     | (refine reg_read (v := ?_) rfl rfl ?_ ?_; rotate_left 1; (· (intro W hW; have hW' := Mods.cells hW; go_simp <;> with_reducible rfl)); simp only [Act.put, List.setIfInBounds_toArray, List.set_cons_zero, List.set_cons_succ])
     | (refine reg_off (by rfl) (by rfl) ?_; simp only [Act.put, List.setIfInBounds_toArray, List.set_cons_zero, List.set_cons_succ])
     | (refine reg_pure_on (v := ?_) rfl (by rfl) ?_ ?_; rotate_left 1; (· (intro W; go_simp <;> with_reducible rfl)); simp only [Act.put, List.setIfInBounds_toArray, List.set_cons_zero, List.set_cons_succ])
     | (refine reg_read_on (v := ?_) rfl (by rfl) ?_ ?_; rotate_left 1; (· (intro W hW; have hW' := Mods.cells hW; go_simp <;> with_reducible rfl)); simp only [Act.put, List.setIfInBounds_toArray, List.set_cons_zero, List.set_cons_succ])
  refine reg_done (qnp_normal ?_)
  go_wp2
  go_ret
  exact RAppPost.of happ.out (hC.out.keep (Mods.refl : Mods Nil w2 w2).drew).mods (hC.out.keep (Mods.refl : Mods Nil w2 w2).drew).img rfl
set_option maxRecDepth 100000 in
set_option maxHeartbeats 3200000 in
theorem rapply_part_3_hi (w : World) (d : RAd) (nds : List Nd) (L : List Pt) (next count node part ep' ver' : Int) (xa : Option Addr) (xc : Nat) (l : List Int) (h : RImg w d nds L next count) (hs : Rd w 1 (.slice xa l.length xc) l.length (ints l)) (hxa : l ≠ [] → ∀ a, xa = some a → ¬ d.A a.block) (hx0 : 0 ≤ part) (hx : (L.length : Int) ≤ part) :
    Calls Try.prog 23 #[.pointer (some ⟨d.b, 0, none⟩), .agg #[.int .i64 3, .int .i64 node, .int .i64 part, .int .i64 ep', .int .i64 ver', .slice xa l.length xc]] w
      fun e w' => RAppPost w d ⟨nds, L.map Pt.pl, next, count⟩ ⟨3, node, part, ep', ver', l⟩ e w' := by
  have happ := Lib.hid (app_partOut (S := ⟨nds, L.map Pt.pl, next, count⟩) (c := ⟨3, node, part, ep', ver', l⟩) (by simp) (.inr (by simpa using hx)))
  have d0 : decide (part < 0) = false := decide_eq_false (by omega)
  have d1 : decide ((L.length : Int) ≤ part) = true := decide_eq_true hx
  have hC := Lib.hid (RApCtx.start (kind := 3) (node := node) (part := part) (ep' := ep') (ver' := ver') h hs hxa)
  have hm0 : Mods Nil w (w.alloc (.cells #[.int .i64 3, .int .i64 node, .int .i64 part, .int .i64 ep', .int .i64 ver', .slice xa l.length xc] 61)) := Mods.refl.alloc _
  have cb := cellOf (h.keepNil hm0).box
  have lb := ltOf (h.keepNil hm0).box
  have fb := frzOf (h.keepNil hm0).box
  replace hs := Lib.hid hs
  replace hxa := Lib.hid hxa
  clear h hm0
  go_enter Try.func23, Try.ntmps23
  go_upto_region 2 with fail
  clear cb lb fb
  change Code.wp _ _ _ _ ((w.alloc (.cells #[.int .i64 3, .int .i64 node, .int .i64 part, .int .i64 ep', .int .i64 ver', .slice xa l.length xc] 61)).setCell ⟨d.b, 5, none⟩ (.int .i64 (w64 (count + 1))))
  generalize (w.alloc (.cells #[.int .i64 3, .int .i64 node, .int .i64 part, .int .i64 ep', .int .i64 ver', .slice xa l.length xc] 61)).setCell ⟨d.b, 5, none⟩ (.int .i64 (w64 (count + 1))) = w2 at *
  generalize w.heap.size = B at *
  have cb := cellOf hC.out.img.box
  have lb := ltOf hC.out.img.box
  have cx := cellOf hC.out.box
  have lx := ltOf hC.out.box
  go_upto_region 11 with fail
  refine wp_region_plan [(.pure, 0), (.read, 1), (.pure, 2), (.pure, 3), (.pure, 4), (.read, 5), (.pure, 6), (.pure, 7), (.pure, 8), (.read, 9), (.pure, 10), (.pure, 11), (.pure, 12), (.pure, 13), (.pure, 14), (.pure, 15), (.read, 16), (.ben, 17), (.pure, 18), (.pure, 19)] 20 (fun W => Mods Nil (w2) W) mixed (by kernel_rfl) (by kernel_rfl) (by repeat (first | exact Mods.refl | apply Mods.drew)) ?_
  repeat first
     | (refine reg_pure (v := ?_) rfl rfl ?_ ?_; rotate_left 1; (· (intro W; go_simp <;> with_reducible rfl)); simp only [Act.put, List.setIfInBounds_toArray, List.set_cons_zero, List.set_cons_succ])
     | (refine reg_read (v := ?_) rfl rfl ?_ ?_; rotate_left 1; (· (intro W hW; have hW' := Mods.cells hW; go_simp <;> with_reducible rfl)); simp only [Act.put, List.setIfInBounds_toArray, List.set_cons_zero, List.set_cons_succ])
     | (refine reg_off (by rfl) (by rfl) ?_; simp only [Act.put, List.setIfInBounds_toArray, List.set_cons_zero, List.set_cons_succ])
     | (refine reg_pure_on (v := ?_) rfl (by rfl) ?_ ?_; rotate_left 1; (· (intro W; go_simp <;> with_reducible rfl)); simp only [Act.put, List.setIfInBounds_toArray, List.set_cons_zero, List.set_cons_succ])
     | (refine reg_read_on (v := ?_) rfl (by rfl) ?_ ?_; rotate_left 1; (· (intro W hW; have hW' := Mods.cells hW; go_simp <;> with_reducible rfl)); simp only [Act.put, List.setIfInBounds_toArray, List.set_cons_zero, List.set_cons_succ])
  refine reg_done (qnp_normal ?_)
  go_wp2
  go_ret
  exact RAppPost.of happ.out (hC.out.keep (Mods.refl : Mods Nil w2 w2).drew).mods (hC.out.keep (Mods.refl : Mods Nil w2 w2).drew).img rfl
set_option maxRecDepth 100000 in
set_option maxHeartbeats 3200000 in
theorem rapply_part_4_lo (w : World) (d : RAd) (nds : List Nd) (L : List Pt) (next count node part ep' ver' : Int) (xa : Option Addr) (xc : Nat) (l : List Int) (h : RImg w d nds L next count) (hs : Rd w 1 (.slice xa l.length xc) l.length (ints l)) (hxa : l ≠ [] → ∀ a, xa = some a → ¬ d.A a.block) (hx : part < 0) :
    Calls Try.prog 23 #[.pointer (some ⟨d.b, 0, none⟩), .agg #[.int .i64 4, .int .i64 node, .int .i64 part, .int .i64 ep', .int .i64 ver', .slice xa l.length xc]] w
      fun e w' => RAppPost w d ⟨nds, L.map Pt.pl, next, count⟩ ⟨4, node, part, ep', ver', l⟩ e w' := by
  have happ := Lib.hid (app_partOut (S := ⟨nds, L.map Pt.pl, next, count⟩) (c := ⟨4, node, part, ep', ver', l⟩) (by simp) (.inl hx))
  have d0 : decide (part < 0) = true := decide_eq_true hx
  have hC := Lib.hid (RApCtx.start (kind := 4) (node := node) (part := part) (ep' := ep') (ver' := ver') h hs hxa)
  have hm0 : Mods Nil w (w.alloc (.cells #[.int .i64 4, .int .i64 node, .int .i64 part, .int .i64 ep', .int .i64 ver', .slice xa l.length xc] 61)) := Mods.refl.alloc _
  have cb := cellOf (h.keepNil hm0).box
  have lb := ltOf (h.keepNil hm0).box
  have fb := frzOf (h.keepNil hm0).box
  replace hs := Lib.hid hs
  replace hxa := Lib.hid hxa
  clear h hm0
  go_enter Try.func23, Try.ntmps23
  go_upto_region 2 with fail
  clear cb lb fb
  change Code.wp _ _ _ _ ((w.alloc (.cells #[.int .i64 4, .int .i64 node, .int .i64 part, .int .i64 ep', .int .i64 ver', .slice xa l.length xc] 61)).setCell ⟨d.b, 5, none⟩ (.int .i64 (w64 (count + 1))))
  generalize (w.alloc (.cells #[.int .i64 4, .int .i64 node, .int .i64 part, .int .i64 ep', .int .i64 ver', .slice xa l.length xc] 61)).setCell ⟨d.b, 5, none⟩ (.int .i64 (w64 (count + 1))) = w2 at *
  generalize w.heap.size = B at *
  have cb := cellOf hC.out.img.box
  have lb := ltOf hC.out.img.box
  have cx := cellOf hC.out.box
  have lx := ltOf hC.out.box
  go_upto_region 11 with fail
  refine wp_region_plan [(.pure, 0), (.read, 1), (.pure, 2), (.pure, 3), (.pure, 4), (.read, 5), (.pure, 6), (.pure, 7), (.pure, 8), (.read, 9), (.pure, 10), (.pure, 11), (.pure, 12), (.pure, 13), (.pure, 14), (.pure, 15), (.read, 16), (.ben, 17), (.pure, 18), (.pure, 19)] 20 (fun W => Mods Nil (w2) W) mixed (by kernel_rfl) (by kernel_rfl) (by repeat (first | exact Mods.refl | apply Mods.drew)) ?_
  repeat first
     | (refine reg_pure (v := ?_) rfl rfl ?_ ?_; rotate_left 1; (· (intro W; go_simp <;> with_reducible rfl)); simp only [Act.put, List.setIfInBounds_toArray, List.set_cons_zero, List.set_cons_succ])
     | (refine reg_read (v := ?_) rfl rfl ?_ ?_; rotate_left 1; (· (intro W hW; have hW' := Mods.cells hW; go_simp <;> with_reducible rfl)); simp only [Act.put, List.setIfInBounds_toArray, List.set_cons_zero, List.set_cons_succ])
     | (refine reg_off (by rfl) (by rfl) ?_; simp only [Act.put, List.setIfInBounds_toArray, List.set_cons_zero, List.set_cons_succ])
     | (refine reg_pure_on (v := ?_) rfl (by rfl) ?_ ?_; rotate_left 1; (· (intro W; go_simp <;> with_reducible rfl)); simp only [Act.put, List.setIfInBounds_toArray, List.set_cons_zero, List.set_cons_succ])
     | (refine reg_read_on (v := ?_) rfl (by rfl) ?_ ?_; rotate_left 1; (· (intro W hW; have hW' := Mods.cells hW; go_simp <;> with_reducible rfl)); simp only [Act.put, List.setIfInBounds_toArray, List.set_cons_zero, List.set_cons_succ])
  refine reg_done (qnp_normal ?_)
  go_wp2
  go_ret
  exact RAppPost.of happ.out (hC.out.keep (Mods.refl : Mods Nil w2 w2).drew).mods (hC.out.keep (Mods.refl : Mods Nil w2 w2).drew).img rfl
set_option maxRecDepth 100000 in
set_option maxHeartbeats 3200000 in
theorem rapply_part_4_hi (w : World) (d : RAd) (nds : List Nd) (L : List Pt) (next count node part ep' ver' : Int) (xa : Option Addr) (xc : Nat) (l : List Int) (h : RImg w d nds L next count) (hs : Rd w 1 (.slice xa l.length xc) l.length (ints l)) (hxa : l ≠ [] → ∀ a, xa = some a → ¬ d.A a.block) (hx0 : 0 ≤ part) (hx : (L.length : Int) ≤ part) :
    Calls Try.prog 23 #[.pointer (some ⟨d.b, 0, none⟩), .agg #[.int .i64 4, .int .i64 node, .int .i64 part, .int .i64 ep', .int .i64 ver', .slice xa l.length xc]] w
      fun e w' => RAppPost w d ⟨nds, L.map Pt.pl, next, count⟩ ⟨4, node, part, ep', ver', l⟩ e w' := by
  have happ := Lib.hid (app_partOut (S := ⟨nds, L.map Pt.pl, next, count⟩) (c := ⟨4, node, part, ep', ver', l⟩) (by simp) (.inr (by simpa using hx)))
  have d0 : decide (part < 0) = false := decide_eq_false (by omega)
  have d1 : decide ((L.length : Int) ≤ part) = true := decide_eq_true hx
  have hC := Lib.hid (RApCtx.start (kind := 4) (node := node) (part := part) (ep' := ep') (ver' := ver') h hs hxa)
  have hm0 : Mods Nil w (w.alloc (.cells #[.int .i64 4, .int .i64 node, .int .i64 part, .int .i64 ep', .int .i64 ver', .slice xa l.length xc] 61)) := Mods.refl.alloc _
  have cb := cellOf (h.keepNil hm0).box
  have lb := ltOf (h.keepNil hm0).box
  have fb := frzOf (h.keepNil hm0).box
  replace hs := Lib.hid hs
  replace hxa := Lib.hid hxa
  clear h hm0
  go_enter Try.func23, Try.ntmps23
  go_upto_region 2 with fail
  clear cb lb fb
  change Code.wp _ _ _ _ ((w.alloc (.cells #[.int .i64 4, .int .i64 node, .int .i64 part, .int .i64 ep', .int .i64 ver', .slice xa l.length xc] 61)).setCell ⟨d.b, 5, none⟩ (.int .i64 (w64 (count + 1))))
  generalize (w.alloc (.cells #[.int .i64 4, .int .i64 node, .int .i64 part, .int .i64 ep', .int .i64 ver', .slice xa l.length xc] 61)).setCell ⟨d.b, 5, none⟩ (.int .i64 (w64 (count + 1))) = w2 at *
  generalize w.heap.size = B at *
  have cb := cellOf hC.out.img.box
  have lb := ltOf hC.out.img.box
  have cx := cellOf hC.out.box
  have lx := ltOf hC.out.box
  go_upto_region 11 with fail
  refine wp_region_plan [(.pure, 0), (.read, 1), (.pure, 2), (.pure, 3), (.pure, 4), (.read, 5), (.pure, 6), (.pure, 7), (.pure, 8), (.read, 9), (.pure, 10), (.pure, 11), (.pure, 12), (.pure, 13), (.pure, 14), (.pure, 15), (.read, 16), (.ben, 17), (.pure, 18), (.pure, 19)] 20 (fun W => Mods Nil (w2) W) mixed (by kernel_rfl) (by kernel_rfl) (by repeat (first | exact Mods.refl | apply Mods.drew)) ?_
  repeat first
     | (refine reg_pure (v := ?_) rfl rfl ?_ ?_; rotate_left 1; (· (intro W; go_simp <;> with_reducible rfl)); simp only [Act.put, List.setIfInBounds_toArray, List.set_cons_zero, List.set_cons_succ])
     | (refine reg_read (v := ?_) rfl rfl ?_ ?_; rotate_left 1; (· (intro W hW; have hW' := Mods.cells hW; go_simp <;> with_reducible rfl)); simp only [Act.put, List.setIfInBounds_toArray, List.set_cons_zero, List.set_cons_succ])
     | (refine reg_off (by rfl) (by rfl) ?_; simp only [Act.put, List.setIfInBounds_toArray, List.set_cons_zero, List.set_cons_succ])
     | (refine reg_pure_on (v := ?_) rfl (by rfl) ?_ ?_; rotate_left 1; (· (intro W; go_simp <;> with_reducible rfl)); simp only [Act.put, List.setIfInBounds_toArray, List.set_cons_zero, List.set_cons_succ])
     | (refine reg_read_on (v := ?_) rfl (by rfl) ?_ ?_; rotate_left 1; (· (intro W hW; have hW' := Mods.cells hW; go_simp <;> with_reducible rfl)); simp only [Act.put, List.setIfInBounds_toArray, List.set_cons_zero, List.set_cons_succ])
  refine reg_done (qnp_normal ?_)
  go_wp2
  go_ret
  exact RAppPost.of happ.out (hC.out.keep (Mods.refl : Mods Nil w2 w2).drew).mods (hC.out.keep (Mods.refl : Mods Nil w2 w2).drew).img rfl
set_option maxRecDepth 100000 in
set_option maxHeartbeats 3200000 in
theorem rapply_other (w : World) (d : RAd) (nds : List Nd) (L : List Pt) (next count kind node part ep' ver' : Int) (xa : Option Addr) (xc : Nat) (l : List Int) (h : RImg w d nds L next count) (hs : Rd w 1 (.slice xa l.length xc) l.length (ints l)) (hxa : l ≠ [] → ∀ a, xa = some a → ¬ d.A a.block) (k1 : kind ≠ 1) (k2 : kind ≠ 2) (k3 : kind ≠ 3) (k4 : kind ≠ 4) (k5 : kind ≠ 5) :
    Calls Try.prog 23 #[.pointer (some ⟨d.b, 0, none⟩), .agg #[.int .i64 kind, .int .i64 node, .int .i64 part, .int .i64 ep', .int .i64 ver', .slice xa l.length xc]] w
      fun e w' => RAppPost w d ⟨nds, L.map Pt.pl, next, count⟩ ⟨kind, node, part, ep', ver', l⟩ e w' := by
  have happ := Lib.hid (app_other (S := ⟨nds, L.map Pt.pl, next, count⟩) (c := ⟨kind, node, part, ep', ver', l⟩) k1 k2 k3 k4 k5)
  have b1 : (kind == 1) = false := by simpa using k1
  have b2 : (kind == 2) = false := by simpa using k2
  have b3 : (kind == 3) = false := by simpa using k3
  have b4 : (kind == 4) = false := by simpa using k4
  have b5 : (kind == 5) = false := by simpa using k5
  clear k1 k2 k3 k4 k5
  have hC := Lib.hid (RApCtx.start (kind := kind) (node := node) (part := part) (ep' := ep') (ver' := ver') h hs hxa)
  have hm0 : Mods Nil w (w.alloc (.cells #[.int .i64 kind, .int .i64 node, .int .i64 part, .int .i64 ep', .int .i64 ver', .slice xa l.length xc] 61)) := Mods.refl.alloc _
  have cb := cellOf (h.keepNil hm0).box
  have lb := ltOf (h.keepNil hm0).box
  have fb := frzOf (h.keepNil hm0).box
  replace hs := Lib.hid hs
  replace hxa := Lib.hid hxa
  clear h hm0
  go_enter Try.func23, Try.ntmps23
  go_upto_region 2 with fail
  clear cb lb fb
  change Code.wp _ _ _ _ ((w.alloc (.cells #[.int .i64 kind, .int .i64 node, .int .i64 part, .int .i64 ep', .int .i64 ver', .slice xa l.length xc] 61)).setCell ⟨d.b, 5, none⟩ (.int .i64 (w64 (count + 1))))
  generalize (w.alloc (.cells #[.int .i64 kind, .int .i64 node, .int .i64 part, .int .i64 ep', .int .i64 ver', .slice xa l.length xc] 61)).setCell ⟨d.b, 5, none⟩ (.int .i64 (w64 (count + 1))) = w2 at *
  generalize w.heap.size = B at *
  have cb := cellOf hC.out.img.box
  have lb := ltOf hC.out.img.box
  have cx := cellOf hC.out.box
  have lx := ltOf hC.out.box
  go_wp2
  go_ret
  exact RAppPost.of happ.out hC.out.mods hC.out.img rfl

theorem rapply_walk (w : World) (d : RAd) (nds : List Nd) (L : List Pt) (next count kind node part ep' ver' : Int) (xa : Option Addr) (xc : Nat) (l : List Int) (h : RImg w d nds L next count) (hlen : l.length * 8 ≤ 140737488355328) (hs : Rd w 1 (.slice xa l.length xc) l.length (ints l)) (hxa : l ≠ [] → ∀ a, xa = some a → ¬ d.A a.block) :
    Calls Try.prog 23 #[.pointer (some ⟨d.b, 0, none⟩), .agg #[.int .i64 kind, .int .i64 node, .int .i64 part, .int .i64 ep', .int .i64 ver', .slice xa l.length xc]] w
      fun e w' => RAppPost w d ⟨nds, L.map Pt.pl, next, count⟩ ⟨kind, node, part, ep', ver', l⟩ e w' := by
  have nodeIn : ∀ x : Int, 0 ≤ x → x < nds.length → ∃ (n : Nat) (y : Nd), x = (n : Int) ∧ nds[n]? = some y := fun x h0 h1 => ⟨x.toNat, _, by omega, List.getElem?_eq_getElem (by omega)⟩
  have partIn : ∀ x : Int, 0 ≤ x → x < L.length → ∃ (n : Nat) (y : Pt), x = (n : Int) ∧ L[n]? = some y := fun x h0 h1 => ⟨x.toNat, _, by omega, List.getElem?_eq_getElem (by omega)⟩
  by_cases k1 : kind = 1
  · subst k1
    by_cases q0 : node < 0
    · exact rapply_node_1_lo w d nds L next count node part ep' ver' xa xc l h hs hxa q0
    by_cases q1 : (nds.length : Int) ≤ node
    · exact rapply_node_1_hi w d nds L next count node part ep' ver' xa xc l h hs hxa (by omega) q1
    obtain ⟨n, y, rfl, hn⟩ := nodeIn node (by omega) (by omega)
    exact rapply_join w d nds L next count n y part ep' ver' xa xc l h hs hxa hn
  by_cases k2 : kind = 2
  · subst k2
    by_cases q0 : node < 0
    · exact rapply_node_2_lo w d nds L next count node part ep' ver' xa xc l h hs hxa q0
    by_cases q1 : (nds.length : Int) ≤ node
    · exact rapply_node_2_hi w d nds L next count node part ep' ver' xa xc l h hs hxa (by omega) q1
    obtain ⟨n, y, rfl, hn⟩ := nodeIn node (by omega) (by omega)
    exact rapply_fence w d nds L next count n y part ep' ver' xa xc l h hs hxa hn
  by_cases k5 : kind = 5
  · subst k5
    by_cases q0 : node < 0
    · exact rapply_node_5_lo w d nds L next count node part ep' ver' xa xc l h hs hxa q0
    by_cases q1 : (nds.length : Int) ≤ node
    · exact rapply_node_5_hi w d nds L next count node part ep' ver' xa xc l h hs hxa (by omega) q1
    obtain ⟨n, y, rfl, hn⟩ := nodeIn node (by omega) (by omega)
    exact rapply_block w d nds L next count n y part ep' ver' xa xc l h hs hxa hn
  by_cases k3 : kind = 3
  · subst k3
    by_cases q0 : part < 0
    · exact rapply_part_3_lo w d nds L next count node part ep' ver' xa xc l h hs hxa q0
    by_cases q1 : (L.length : Int) ≤ part
    · exact rapply_part_3_hi w d nds L next count node part ep' ver' xa xc l h hs hxa (by omega) q1
    obtain ⟨n, y, rfl, hn⟩ := partIn part (by omega) (by omega)
    exact rapply_isr w d nds L next count n y node ep' ver' xa xc l h hlen hs hxa hn
  by_cases k4 : kind = 4
  · subst k4
    by_cases q0 : part < 0
    · exact rapply_part_4_lo w d nds L next count node part ep' ver' xa xc l h hs hxa q0
    by_cases q1 : (L.length : Int) ≤ part
    · exact rapply_part_4_hi w d nds L next count node part ep' ver' xa xc l h hs hxa (by omega) q1
    obtain ⟨n, y, rfl, hn⟩ := partIn part (by omega) (by omega)
    exact rapply_move w d nds L next count n y node ep' ver' xa xc l h hlen hs hxa hn
  exact rapply_other w d nds L next count kind node part ep' ver' xa xc l h hs hxa k1 k2 k3 k4 k5
end Go.Proofs.Ytnnoicacpcahfaa
