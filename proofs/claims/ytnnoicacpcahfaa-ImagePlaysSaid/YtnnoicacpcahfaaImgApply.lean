/- (*Image).Apply, walked. No condition. -/
import Derived.Test.YtnnoicacpcahfaaImgIsr
namespace Go.Proofs.Ytnnoicacpcahfaa
open Go.RowKit

/-- What a command does, in plain words. -/
def Im.app (S : Im) (c : Cm) : Im × Int :=
  let T : Im := { S with count := w64 (S.count + 1) }
  if c.kind = 1 then
    match S.nds[c.node.toNat]? with
    | some x => if c.node < 0 then (T, 1) else if c.ep ≤ x.comes then (T, 5) else
      ({ T with nds := S.nds.set c.node.toNat { x with alive := true, comes := c.ep }, pts := S.pts.map (joinP (S.nds.set c.node.toNat { x with alive := true, comes := c.ep }) c.node) }, 0)
    | none => (T, 1)
  else if c.kind = 2 then
    match S.nds[c.node.toNat]? with
    | some x => if c.node < 0 then (T, 1) else if x.alive = false then (T, 4) else
      ({ T with nds := S.nds.set c.node.toNat { x with alive := false }, pts := S.pts.map (goneP (S.nds.set c.node.toNat { x with alive := false }) c.node) }, 0)
    | none => (T, 1)
  else if c.kind = 5 then
    match S.nds[c.node.toNat]? with
    | some x => if c.node < 0 then (T, 1) else if S.next + 10 > 1001 then (T, 17) else
      ({ T with nds := S.nds.set c.node.toNat { x with block := S.next }, next := S.next + 10 }, 0)
    | none => (T, 1)
  else if c.kind = 3 then
    match S.pts[c.part.toNat]? with
    | some p => if c.part < 0 then (T, 1) else
      ({ T with pts := if isrE S.nds c.node c.ep c.ver c.list p = 0 then S.pts.set c.part.toNat (isrP S.nds c.list p) else S.pts }, isrE S.nds c.node c.ep c.ver c.list p)
    | none => (T, 1)
  else if c.kind = 4 then
    match S.pts[c.part.toNat]? with
    | some p => if c.part < 0 then (T, 1) else
      ({ T with pts := if moveE S.nds.length c.list p = 0 then S.pts.set c.part.toNat (moveP S.nds c.list p) else S.pts }, moveE S.nds.length c.list p)
    | none => (T, 1)
  else (T, 1)

theorem Img.setCount {w : World} {d : Ad} {nds : List Nd} {L : List Pt} {next count : Int} (h : Img w d nds L next count) (x : Int) : Img (w.setCell ⟨d.b, 3, none⟩ (.int .i64 x)) d nds L next x := by
  obtain ⟨h1, h2, h3, h4, h5, h6⟩ := h
  have hm : Mods (fun i => i = d.b) w (w.setCell ⟨d.b, 3, none⟩ (.int .i64 x)) := Mods.refl.setCell _ (fun _ => rfl)
  exact ⟨heap_setCell_same h1 3 _, slKeep h2 hm (fun b hb => by cases hb; exact h5.bn.symm), h3.keep hm (fun k hk => .inl (.inl hk)) h5.bp.symm, hm.keep h4 h5.bc.symm, h5, h6⟩

/-- What Apply leaves. -/
def AppPost (w : World) (d : Ad) (S : Im) (c : Cm) (e : Ending) (w' : World) : Prop :=
  e = .returned (.int .i64 (S.app c).2) ∧ Mods d.A w w' ∧ ∃ L', Img w' d (S.app c).1.nds L' (S.app c).1.next (S.app c).1.count ∧ L'.map Pt.pl = (S.app c).1.pts

theorem AppPost.of {w w' : World} {d : Ad} {S : Im} {c : Cm} {T : Im} {v : Int} {L' : List Pt} (h : S.app c = (T, v)) (hm : Mods d.A w w') (hI : Img w' d T.nds L' T.next T.count) (hp : L'.map Pt.pl = T.pts) : AppPost w d S c (.returned (.int .i64 v)) w' := by
  unfold AppPost
  rw [h]
  exact ⟨rfl, hm, L', hI, hp⟩
theorem app_nodeOut {S : Im} {c : Cm} (hk : c.kind = 1 ∨ c.kind = 2 ∨ c.kind = 5) (h : c.node < 0 ∨ (S.nds.length : Int) ≤ c.node) : S.app c = ({ S with count := w64 (S.count + 1) }, 1) := by
  unfold Im.app
  rcases h with h | h
  · rcases hk with hk | hk | hk <;> cases hx : S.nds[c.node.toNat]? <;> simp [hk, h]
  · have hx : S.nds[c.node.toNat]? = none := List.getElem?_eq_none (by omega)
    rcases hk with hk | hk | hk <;> simp [hk, hx]
theorem app_partOut {S : Im} {c : Cm} (hk : c.kind = 3 ∨ c.kind = 4) (h : c.part < 0 ∨ (S.pts.length : Int) ≤ c.part) : S.app c = ({ S with count := w64 (S.count + 1) }, 1) := by
  unfold Im.app
  rcases h with h | h
  · rcases hk with hk | hk <;> cases hx : S.pts[c.part.toNat]? <;> simp [hk, h]
  · have hx : S.pts[c.part.toNat]? = none := List.getElem?_eq_none (by omega)
    rcases hk with hk | hk <;> simp [hk, hx]
theorem app_other {S : Im} {c : Cm} (h1 : c.kind ≠ 1) (h2 : c.kind ≠ 2) (h3 : c.kind ≠ 3) (h4 : c.kind ≠ 4) (h5 : c.kind ≠ 5) : S.app c = ({ S with count := w64 (S.count + 1) }, 1) := by
  unfold Im.app
  simp [h1, h2, h3, h4, h5]

set_option maxRecDepth 100000 in
set_option maxHeartbeats 6400000 in
theorem apply_walk13 (w : World) (d : Ad) (nds : List Nd) (L : List Pt) (next count : Int) (kind node part ep' ver' : Int) (xa : Option Addr) (xc : Nat) (l : List Int) (h : Img w d nds L next count)
    (hlen : l.length * 8 ≤ 140737488355328) (hs : Sl w 3 1 (.slice xa l.length xc) l.length (ints l)) (hxa : ∀ a, xa = some a → ¬ d.A a.block) :
    Calls Try.prog 22 #[.pointer (some ⟨d.b, 0, none⟩), .agg #[.int .i64 kind, .int .i64 node, .int .i64 part, .int .i64 ep', .int .i64 ver', .slice xa l.length xc]] w
      fun e w' => AppPost w d ⟨nds, L.map Pt.pl, next, count⟩ ⟨kind, node, part, ep', ver', l⟩ e w' := by
  have hm0 : Mods Nil w (w.alloc (.cells #[.int .i64 kind, .int .i64 node, .int .i64 part, .int .i64 ep', .int .i64 ver', .slice xa l.length xc] 61)) := Mods.refl.alloc _
  have hbx := heap_new w (.cells #[.int .i64 kind, .int .i64 node, .int .i64 part, .int .i64 ep', .int .i64 ver', .slice xa l.length xc] 61)
  have hAl := h.lt
  have h1 := h.keepNil hm0
  have cb := cellOf h1.1
  have lb := ltOf h1.1
  have fb := frzOf h1.1
  have hI := h1.setCount (w64 (count + 1))
  have hm2 : Mods d.A w ((w.alloc (.cells #[.int .i64 kind, .int .i64 node, .int .i64 part, .int .i64 ep', .int .i64 ver', .slice xa l.length xc] 61)).setCell ⟨d.b, 3, none⟩ (.int .i64 (w64 (count + 1)))) :=
    (hm0.mono (S' := d.A) (fun _ h => h.elim)).setCell (a := ⟨d.b, 3, none⟩) _ (fun _ => .inl rfl)
  have hbx2 := (heap_setCell_ne (w := w.alloc (.cells #[.int .i64 kind, .int .i64 node, .int .i64 part, .int .i64 ep', .int .i64 ver', .slice xa l.length xc] 61)) (b := w.heap.size) (a := ⟨d.b, 3, none⟩) (fun e => by have := hAl d.b (.inl rfl); have e' : w.heap.size = d.b := e; omega) (.int .i64 (w64 (count + 1)))).trans hbx
  have hs2 : Sl ((w.alloc (.cells #[.int .i64 kind, .int .i64 node, .int .i64 part, .int .i64 ep', .int .i64 ver', .slice xa l.length xc] 61)).setCell ⟨d.b, 3, none⟩ (.int .i64 (w64 (count + 1)))) 3 1 (.slice xa l.length xc) l.length (ints l) :=
    slKeep (slKeep hs hm0 (fun _ _ => id)) (Mods.refl.setCell (S := fun i => i = d.b) _ (fun _ => rfl)) (fun a ha e => hxa a ha (.inl e))
  have hpcap := h.2.2.1.1.capAt.1
  have hncap := h.2.1.capAt.1
  replace hI := Lib.hid hI
  replace hm2 := Lib.hid hm2
  replace hbx2 := Lib.hid hbx2
  replace hs2 := Lib.hid hs2
  clear h h1 hbx hm0 hAl hs
  go_enter Try.func22, Try.ntmps22
  go_upto_region 4 with fail
  clear cb lb fb
  change Code.wp _ _ _ _ ((w.alloc (.cells #[.int .i64 kind, .int .i64 node, .int .i64 part, .int .i64 ep', .int .i64 ver', .slice xa l.length xc] 61)).setCell ⟨d.b, 3, none⟩ (.int .i64 (w64 (count + 1))))
  generalize (w.alloc (.cells #[.int .i64 kind, .int .i64 node, .int .i64 part, .int .i64 ep', .int .i64 ver', .slice xa l.length xc] 61)).setCell ⟨d.b, 3, none⟩ (.int .i64 (w64 (count + 1))) = w2 at *
  generalize w.heap.size = B at *
  have cb := cellOf hI.out.1
  have lb := ltOf hI.out.1
  have cx := cellOf hbx2.out
  have lx := ltOf hbx2.out
  by_cases k1 : kind = 1
  · subst k1
    by_cases q0 : node < 0
    · have happ := Lib.hid (app_nodeOut (S := ⟨nds, L.map Pt.pl, next, count⟩) (c := ⟨1, node, part, ep', ver', l⟩) (by simp) (.inl q0))
      go_upto_region 8 with fail
      refine wp_region_plan [(.pure, 0), (.read, 1), (.pure, 2), (.pure, 3), (.pure, 4), (.read, 5), (.pure, 6), (.pure, 7), (.pure, 8), (.read, 9), (.pure, 10), (.pure, 11), (.pure, 12)] 13 (fun W => Mods Nil _ W) mixed (by kernel_rfl) (by kernel_rfl) Mods.refl.drew ?_
      repeat first
         | (refine reg_pure (v := ?_) rfl rfl ?_ ?_; rotate_left 1; (· (intro W; go_simp <;> with_reducible rfl)); simp only [Act.put, List.setIfInBounds_toArray, List.set_cons_zero, List.set_cons_succ])
         | (refine reg_read (v := ?_) rfl rfl ?_ ?_; rotate_left 1; (· (intro W hW; have hW' := Mods.cells hW; go_simp <;> with_reducible rfl)); simp only [Act.put, List.setIfInBounds_toArray, List.set_cons_zero, List.set_cons_succ])
         | (refine reg_off (by rfl) (by rfl) ?_; simp only [Act.put, List.setIfInBounds_toArray, List.set_cons_zero, List.set_cons_succ])
         | (refine reg_pure_on (v := ?_) rfl (by rfl) ?_ ?_; rotate_left 1; (· (intro W; go_simp <;> with_reducible rfl)); simp only [Act.put, List.setIfInBounds_toArray, List.set_cons_zero, List.set_cons_succ])
         | (refine reg_read_on (v := ?_) rfl (by rfl) ?_ ?_; rotate_left 1; (· (intro W hW; have hW' := Mods.cells hW; go_simp <;> with_reducible rfl)); simp only [Act.put, List.setIfInBounds_toArray, List.set_cons_zero, List.set_cons_succ])
      refine reg_done (qnp_normal ?_)
      go_wp2
      go_ret
      exact AppPost.of happ.out hm2.out.drew hI.out rfl
    by_cases q1 : (nds.length : Int) ≤ node
    · have happ := Lib.hid (app_nodeOut (S := ⟨nds, L.map Pt.pl, next, count⟩) (c := ⟨1, node, part, ep', ver', l⟩) (by simp) (.inr q1))
      go_upto_region 8 with fail
      refine wp_region_plan [(.pure, 0), (.read, 1), (.pure, 2), (.pure, 3), (.pure, 4), (.read, 5), (.pure, 6), (.pure, 7), (.pure, 8), (.read, 9), (.pure, 10), (.pure, 11), (.pure, 12)] 13 (fun W => Mods Nil _ W) mixed (by kernel_rfl) (by kernel_rfl) Mods.refl.drew ?_
      repeat first
         | (refine reg_pure (v := ?_) rfl rfl ?_ ?_; rotate_left 1; (· (intro W; go_simp <;> with_reducible rfl)); simp only [Act.put, List.setIfInBounds_toArray, List.set_cons_zero, List.set_cons_succ])
         | (refine reg_read (v := ?_) rfl rfl ?_ ?_; rotate_left 1; (· (intro W hW; have hW' := Mods.cells hW; go_simp <;> with_reducible rfl)); simp only [Act.put, List.setIfInBounds_toArray, List.set_cons_zero, List.set_cons_succ])
         | (refine reg_off (by rfl) (by rfl) ?_; simp only [Act.put, List.setIfInBounds_toArray, List.set_cons_zero, List.set_cons_succ])
         | (refine reg_pure_on (v := ?_) rfl (by rfl) ?_ ?_; rotate_left 1; (· (intro W; go_simp <;> with_reducible rfl)); simp only [Act.put, List.setIfInBounds_toArray, List.set_cons_zero, List.set_cons_succ])
         | (refine reg_read_on (v := ?_) rfl (by rfl) ?_ ?_; rotate_left 1; (· (intro W hW; have hW' := Mods.cells hW; go_simp <;> with_reducible rfl)); simp only [Act.put, List.setIfInBounds_toArray, List.set_cons_zero, List.set_cons_succ])
      refine reg_done (qnp_normal ?_)
      go_wp2
      go_ret
      exact AppPost.of happ.out hm2.out.drew hI.out rfl
    obtain ⟨n, rfl⟩ : ∃ n : Nat, node = (n : Int) := ⟨node.toNat, by omega⟩
    obtain ⟨x, hx⟩ : ∃ x, nds[n]? = some x := ⟨_, List.getElem?_eq_getElem (by omega)⟩
    have hj := join_walk w2.drew d nds L next (w64 (count + 1)) n x ep' hI.out hx
    have happ : Hid (Im.app ⟨nds, L.map Pt.pl, next, count⟩ ⟨1, n, part, ep', ver', l⟩ = if ep' ≤ x.comes then (⟨nds, L.map Pt.pl, next, w64 (count + 1)⟩, 5) else (⟨nds.set n { x with alive := true, comes := ep' }, (L.map Pt.pl).map (joinP (nds.set n { x with alive := true, comes := ep' }) n), next, w64 (count + 1)⟩, 0)) := Lib.hid (by
      unfold Im.app
      simp only [if_true, Int.toNat_natCast, hx, if_neg q0])
    by_cases ht : ep' ≤ x.comes
    · rw [if_pos ht] at happ
      simp only [if_pos ht] at hj
      clear ht hx
      go_upto_region 8 with fail
      refine wp_region_plan [(.pure, 0), (.read, 1), (.pure, 2), (.pure, 3), (.pure, 4), (.read, 5), (.pure, 6), (.pure, 7), (.pure, 8), (.read, 9), (.pure, 10), (.pure, 11), (.pure, 12)] 13 (fun W => Mods Nil _ W) mixed (by kernel_rfl) (by kernel_rfl) Mods.refl.drew ?_
      repeat first
         | (refine reg_pure (v := ?_) rfl rfl ?_ ?_; rotate_left 1; (· (intro W; go_simp <;> with_reducible rfl)); simp only [Act.put, List.setIfInBounds_toArray, List.set_cons_zero, List.set_cons_succ])
         | (refine reg_read (v := ?_) rfl rfl ?_ ?_; rotate_left 1; (· (intro W hW; have hW' := Mods.cells hW; go_simp <;> with_reducible rfl)); simp only [Act.put, List.setIfInBounds_toArray, List.set_cons_zero, List.set_cons_succ])
         | (refine reg_off (by rfl) (by rfl) ?_; simp only [Act.put, List.setIfInBounds_toArray, List.set_cons_zero, List.set_cons_succ])
         | (refine reg_pure_on (v := ?_) rfl (by rfl) ?_ ?_; rotate_left 1; (· (intro W; go_simp <;> with_reducible rfl)); simp only [Act.put, List.setIfInBounds_toArray, List.set_cons_zero, List.set_cons_succ])
         | (refine reg_read_on (v := ?_) rfl (by rfl) ?_ ?_; rotate_left 1; (· (intro W hW; have hW' := Mods.cells hW; go_simp <;> with_reducible rfl)); simp only [Act.put, List.setIfInBounds_toArray, List.set_cons_zero, List.set_cons_succ])
      refine reg_done (qnp_normal ?_)
      go_wp2_with (go_at_call 41; refine hj.mono ?_; rintro e w3 ⟨hm3, rfl, hI3⟩)
      go_ret
      exact AppPost.of happ.out (hm2.out.trans (Mods.drew_left hm3) (fun _ _ h => h)) hI3 rfl
    · rw [if_neg ht] at happ
      simp only [if_neg ht] at hj
      clear ht hx
      go_upto_region 8 with fail
      refine wp_region_plan [(.pure, 0), (.read, 1), (.pure, 2), (.pure, 3), (.pure, 4), (.read, 5), (.pure, 6), (.pure, 7), (.pure, 8), (.read, 9), (.pure, 10), (.pure, 11), (.pure, 12)] 13 (fun W => Mods Nil _ W) mixed (by kernel_rfl) (by kernel_rfl) Mods.refl.drew ?_
      repeat first
         | (refine reg_pure (v := ?_) rfl rfl ?_ ?_; rotate_left 1; (· (intro W; go_simp <;> with_reducible rfl)); simp only [Act.put, List.setIfInBounds_toArray, List.set_cons_zero, List.set_cons_succ])
         | (refine reg_read (v := ?_) rfl rfl ?_ ?_; rotate_left 1; (· (intro W hW; have hW' := Mods.cells hW; go_simp <;> with_reducible rfl)); simp only [Act.put, List.setIfInBounds_toArray, List.set_cons_zero, List.set_cons_succ])
         | (refine reg_off (by rfl) (by rfl) ?_; simp only [Act.put, List.setIfInBounds_toArray, List.set_cons_zero, List.set_cons_succ])
         | (refine reg_pure_on (v := ?_) rfl (by rfl) ?_ ?_; rotate_left 1; (· (intro W; go_simp <;> with_reducible rfl)); simp only [Act.put, List.setIfInBounds_toArray, List.set_cons_zero, List.set_cons_succ])
         | (refine reg_read_on (v := ?_) rfl (by rfl) ?_ ?_; rotate_left 1; (· (intro W hW; have hW' := Mods.cells hW; go_simp <;> with_reducible rfl)); simp only [Act.put, List.setIfInBounds_toArray, List.set_cons_zero, List.set_cons_succ])
      refine reg_done (qnp_normal ?_)
      go_wp2_with (go_at_call 41; refine hj.mono ?_; rintro e w3 ⟨hm3, rfl, L3, hI3, hp3⟩)
      go_ret
      exact AppPost.of happ.out (hm2.out.trans (Mods.drew_left hm3) (fun _ _ h => h)) hI3 hp3
  have b1 : (kind == 1) = false := by simpa using k1
  by_cases k2 : kind = 2
  · subst k2
    clear b1 k1
    by_cases q0 : node < 0
    · have happ := Lib.hid (app_nodeOut (S := ⟨nds, L.map Pt.pl, next, count⟩) (c := ⟨2, node, part, ep', ver', l⟩) (by simp) (.inl q0))
      go_upto_region 8 with fail
      refine wp_region_plan [(.pure, 0), (.read, 1), (.pure, 2), (.pure, 3), (.pure, 4), (.read, 5), (.pure, 6), (.pure, 7), (.pure, 8), (.read, 9), (.pure, 10), (.pure, 11), (.pure, 12)] 13 (fun W => Mods Nil _ W) mixed (by kernel_rfl) (by kernel_rfl) Mods.refl.drew ?_
      repeat first
         | (refine reg_pure (v := ?_) rfl rfl ?_ ?_; rotate_left 1; (· (intro W; go_simp <;> with_reducible rfl)); simp only [Act.put, List.setIfInBounds_toArray, List.set_cons_zero, List.set_cons_succ])
         | (refine reg_read (v := ?_) rfl rfl ?_ ?_; rotate_left 1; (· (intro W hW; have hW' := Mods.cells hW; go_simp <;> with_reducible rfl)); simp only [Act.put, List.setIfInBounds_toArray, List.set_cons_zero, List.set_cons_succ])
         | (refine reg_off (by rfl) (by rfl) ?_; simp only [Act.put, List.setIfInBounds_toArray, List.set_cons_zero, List.set_cons_succ])
         | (refine reg_pure_on (v := ?_) rfl (by rfl) ?_ ?_; rotate_left 1; (· (intro W; go_simp <;> with_reducible rfl)); simp only [Act.put, List.setIfInBounds_toArray, List.set_cons_zero, List.set_cons_succ])
         | (refine reg_read_on (v := ?_) rfl (by rfl) ?_ ?_; rotate_left 1; (· (intro W hW; have hW' := Mods.cells hW; go_simp <;> with_reducible rfl)); simp only [Act.put, List.setIfInBounds_toArray, List.set_cons_zero, List.set_cons_succ])
      refine reg_done (qnp_normal ?_)
      go_wp2
      go_ret
      exact AppPost.of happ.out hm2.out.drew hI.out rfl
    by_cases q1 : (nds.length : Int) ≤ node
    · have happ := Lib.hid (app_nodeOut (S := ⟨nds, L.map Pt.pl, next, count⟩) (c := ⟨2, node, part, ep', ver', l⟩) (by simp) (.inr q1))
      go_upto_region 8 with fail
      refine wp_region_plan [(.pure, 0), (.read, 1), (.pure, 2), (.pure, 3), (.pure, 4), (.read, 5), (.pure, 6), (.pure, 7), (.pure, 8), (.read, 9), (.pure, 10), (.pure, 11), (.pure, 12)] 13 (fun W => Mods Nil _ W) mixed (by kernel_rfl) (by kernel_rfl) Mods.refl.drew ?_
      repeat first
         | (refine reg_pure (v := ?_) rfl rfl ?_ ?_; rotate_left 1; (· (intro W; go_simp <;> with_reducible rfl)); simp only [Act.put, List.setIfInBounds_toArray, List.set_cons_zero, List.set_cons_succ])
         | (refine reg_read (v := ?_) rfl rfl ?_ ?_; rotate_left 1; (· (intro W hW; have hW' := Mods.cells hW; go_simp <;> with_reducible rfl)); simp only [Act.put, List.setIfInBounds_toArray, List.set_cons_zero, List.set_cons_succ])
         | (refine reg_off (by rfl) (by rfl) ?_; simp only [Act.put, List.setIfInBounds_toArray, List.set_cons_zero, List.set_cons_succ])
         | (refine reg_pure_on (v := ?_) rfl (by rfl) ?_ ?_; rotate_left 1; (· (intro W; go_simp <;> with_reducible rfl)); simp only [Act.put, List.setIfInBounds_toArray, List.set_cons_zero, List.set_cons_succ])
         | (refine reg_read_on (v := ?_) rfl (by rfl) ?_ ?_; rotate_left 1; (· (intro W hW; have hW' := Mods.cells hW; go_simp <;> with_reducible rfl)); simp only [Act.put, List.setIfInBounds_toArray, List.set_cons_zero, List.set_cons_succ])
      refine reg_done (qnp_normal ?_)
      go_wp2
      go_ret
      exact AppPost.of happ.out hm2.out.drew hI.out rfl
    obtain ⟨n, rfl⟩ : ∃ n : Nat, node = (n : Int) := ⟨node.toNat, by omega⟩
    obtain ⟨x, hx⟩ : ∃ x, nds[n]? = some x := ⟨_, List.getElem?_eq_getElem (by omega)⟩
    have hj := fence_walk w2.drew d nds L next (w64 (count + 1)) n x hI.out hx
    have happ : Hid (Im.app ⟨nds, L.map Pt.pl, next, count⟩ ⟨2, n, part, ep', ver', l⟩ = if x.alive = false then (⟨nds, L.map Pt.pl, next, w64 (count + 1)⟩, 4) else (⟨nds.set n { x with alive := false }, (L.map Pt.pl).map (goneP (nds.set n { x with alive := false }) n), next, w64 (count + 1)⟩, 0)) := Lib.hid (by
      unfold Im.app
      simp only [show ¬ (2 : Int) = 1 by omega, if_false, if_true, Int.toNat_natCast, hx, if_neg q0])
    by_cases ht : x.alive = false
    · rw [if_pos ht] at happ
      simp only [if_pos ht] at hj
      clear ht hx
      go_upto_region 8 with fail
      refine wp_region_plan [(.pure, 0), (.read, 1), (.pure, 2), (.pure, 3), (.pure, 4), (.read, 5), (.pure, 6), (.pure, 7), (.pure, 8), (.read, 9), (.pure, 10), (.pure, 11), (.pure, 12)] 13 (fun W => Mods Nil _ W) mixed (by kernel_rfl) (by kernel_rfl) Mods.refl.drew ?_
      repeat first
         | (refine reg_pure (v := ?_) rfl rfl ?_ ?_; rotate_left 1; (· (intro W; go_simp <;> with_reducible rfl)); simp only [Act.put, List.setIfInBounds_toArray, List.set_cons_zero, List.set_cons_succ])
         | (refine reg_read (v := ?_) rfl rfl ?_ ?_; rotate_left 1; (· (intro W hW; have hW' := Mods.cells hW; go_simp <;> with_reducible rfl)); simp only [Act.put, List.setIfInBounds_toArray, List.set_cons_zero, List.set_cons_succ])
         | (refine reg_off (by rfl) (by rfl) ?_; simp only [Act.put, List.setIfInBounds_toArray, List.set_cons_zero, List.set_cons_succ])
         | (refine reg_pure_on (v := ?_) rfl (by rfl) ?_ ?_; rotate_left 1; (· (intro W; go_simp <;> with_reducible rfl)); simp only [Act.put, List.setIfInBounds_toArray, List.set_cons_zero, List.set_cons_succ])
         | (refine reg_read_on (v := ?_) rfl (by rfl) ?_ ?_; rotate_left 1; (· (intro W hW; have hW' := Mods.cells hW; go_simp <;> with_reducible rfl)); simp only [Act.put, List.setIfInBounds_toArray, List.set_cons_zero, List.set_cons_succ])
      refine reg_done (qnp_normal ?_)
      go_wp2_with (go_at_call 42; refine hj.mono ?_; rintro e w3 ⟨hm3, rfl, hI3⟩)
      go_ret
      exact AppPost.of happ.out (hm2.out.trans (Mods.drew_left hm3) (fun _ _ h => h)) hI3 rfl
    · rw [if_neg ht] at happ
      simp only [if_neg ht] at hj
      clear ht hx
      go_upto_region 8 with fail
      refine wp_region_plan [(.pure, 0), (.read, 1), (.pure, 2), (.pure, 3), (.pure, 4), (.read, 5), (.pure, 6), (.pure, 7), (.pure, 8), (.read, 9), (.pure, 10), (.pure, 11), (.pure, 12)] 13 (fun W => Mods Nil _ W) mixed (by kernel_rfl) (by kernel_rfl) Mods.refl.drew ?_
      repeat first
         | (refine reg_pure (v := ?_) rfl rfl ?_ ?_; rotate_left 1; (· (intro W; go_simp <;> with_reducible rfl)); simp only [Act.put, List.setIfInBounds_toArray, List.set_cons_zero, List.set_cons_succ])
         | (refine reg_read (v := ?_) rfl rfl ?_ ?_; rotate_left 1; (· (intro W hW; have hW' := Mods.cells hW; go_simp <;> with_reducible rfl)); simp only [Act.put, List.setIfInBounds_toArray, List.set_cons_zero, List.set_cons_succ])
         | (refine reg_off (by rfl) (by rfl) ?_; simp only [Act.put, List.setIfInBounds_toArray, List.set_cons_zero, List.set_cons_succ])
         | (refine reg_pure_on (v := ?_) rfl (by rfl) ?_ ?_; rotate_left 1; (· (intro W; go_simp <;> with_reducible rfl)); simp only [Act.put, List.setIfInBounds_toArray, List.set_cons_zero, List.set_cons_succ])
         | (refine reg_read_on (v := ?_) rfl (by rfl) ?_ ?_; rotate_left 1; (· (intro W hW; have hW' := Mods.cells hW; go_simp <;> with_reducible rfl)); simp only [Act.put, List.setIfInBounds_toArray, List.set_cons_zero, List.set_cons_succ])
      refine reg_done (qnp_normal ?_)
      go_wp2_with (go_at_call 42; refine hj.mono ?_; rintro e w3 ⟨hm3, rfl, L3, hI3, hp3⟩)
      go_ret
      exact AppPost.of happ.out (hm2.out.trans (Mods.drew_left hm3) (fun _ _ h => h)) hI3 hp3
  have b2 : (kind == 2) = false := by simpa using k2
  by_cases k5 : kind = 5
  · subst k5
    clear b1 k1 b2 k2
    by_cases q0 : node < 0
    · have happ := Lib.hid (app_nodeOut (S := ⟨nds, L.map Pt.pl, next, count⟩) (c := ⟨5, node, part, ep', ver', l⟩) (by simp) (.inl q0))
      go_upto_region 8 with fail
      refine wp_region_plan [(.pure, 0), (.read, 1), (.pure, 2), (.pure, 3), (.pure, 4), (.read, 5), (.pure, 6), (.pure, 7), (.pure, 8), (.read, 9), (.pure, 10), (.pure, 11), (.pure, 12)] 13 (fun W => Mods Nil _ W) mixed (by kernel_rfl) (by kernel_rfl) Mods.refl.drew ?_
      repeat first
         | (refine reg_pure (v := ?_) rfl rfl ?_ ?_; rotate_left 1; (· (intro W; go_simp <;> with_reducible rfl)); simp only [Act.put, List.setIfInBounds_toArray, List.set_cons_zero, List.set_cons_succ])
         | (refine reg_read (v := ?_) rfl rfl ?_ ?_; rotate_left 1; (· (intro W hW; have hW' := Mods.cells hW; go_simp <;> with_reducible rfl)); simp only [Act.put, List.setIfInBounds_toArray, List.set_cons_zero, List.set_cons_succ])
         | (refine reg_off (by rfl) (by rfl) ?_; simp only [Act.put, List.setIfInBounds_toArray, List.set_cons_zero, List.set_cons_succ])
         | (refine reg_pure_on (v := ?_) rfl (by rfl) ?_ ?_; rotate_left 1; (· (intro W; go_simp <;> with_reducible rfl)); simp only [Act.put, List.setIfInBounds_toArray, List.set_cons_zero, List.set_cons_succ])
         | (refine reg_read_on (v := ?_) rfl (by rfl) ?_ ?_; rotate_left 1; (· (intro W hW; have hW' := Mods.cells hW; go_simp <;> with_reducible rfl)); simp only [Act.put, List.setIfInBounds_toArray, List.set_cons_zero, List.set_cons_succ])
      refine reg_done (qnp_normal ?_)
      go_wp2
      go_ret
      exact AppPost.of happ.out hm2.out.drew hI.out rfl
    by_cases q1 : (nds.length : Int) ≤ node
    · have happ := Lib.hid (app_nodeOut (S := ⟨nds, L.map Pt.pl, next, count⟩) (c := ⟨5, node, part, ep', ver', l⟩) (by simp) (.inr q1))
      go_upto_region 8 with fail
      refine wp_region_plan [(.pure, 0), (.read, 1), (.pure, 2), (.pure, 3), (.pure, 4), (.read, 5), (.pure, 6), (.pure, 7), (.pure, 8), (.read, 9), (.pure, 10), (.pure, 11), (.pure, 12)] 13 (fun W => Mods Nil _ W) mixed (by kernel_rfl) (by kernel_rfl) Mods.refl.drew ?_
      repeat first
         | (refine reg_pure (v := ?_) rfl rfl ?_ ?_; rotate_left 1; (· (intro W; go_simp <;> with_reducible rfl)); simp only [Act.put, List.setIfInBounds_toArray, List.set_cons_zero, List.set_cons_succ])
         | (refine reg_read (v := ?_) rfl rfl ?_ ?_; rotate_left 1; (· (intro W hW; have hW' := Mods.cells hW; go_simp <;> with_reducible rfl)); simp only [Act.put, List.setIfInBounds_toArray, List.set_cons_zero, List.set_cons_succ])
         | (refine reg_off (by rfl) (by rfl) ?_; simp only [Act.put, List.setIfInBounds_toArray, List.set_cons_zero, List.set_cons_succ])
         | (refine reg_pure_on (v := ?_) rfl (by rfl) ?_ ?_; rotate_left 1; (· (intro W; go_simp <;> with_reducible rfl)); simp only [Act.put, List.setIfInBounds_toArray, List.set_cons_zero, List.set_cons_succ])
         | (refine reg_read_on (v := ?_) rfl (by rfl) ?_ ?_; rotate_left 1; (· (intro W hW; have hW' := Mods.cells hW; go_simp <;> with_reducible rfl)); simp only [Act.put, List.setIfInBounds_toArray, List.set_cons_zero, List.set_cons_succ])
      refine reg_done (qnp_normal ?_)
      go_wp2
      go_ret
      exact AppPost.of happ.out hm2.out.drew hI.out rfl
    obtain ⟨n, rfl⟩ : ∃ n : Nat, node = (n : Int) := ⟨node.toNat, by omega⟩
    obtain ⟨x, hx⟩ : ∃ x, nds[n]? = some x := ⟨_, List.getElem?_eq_getElem (by omega)⟩
    have hj := grant_walk w2.drew d nds L next (w64 (count + 1)) n x hI.out hx
    have happ : Hid (Im.app ⟨nds, L.map Pt.pl, next, count⟩ ⟨5, n, part, ep', ver', l⟩ = if next + 10 > 1001 then (⟨nds, L.map Pt.pl, next, w64 (count + 1)⟩, 17) else (⟨nds.set n { x with block := next }, L.map Pt.pl, next + 10, w64 (count + 1)⟩, 0)) := Lib.hid (by
      unfold Im.app
      simp only [show ¬ (5 : Int) = 1 by omega, show ¬ (5 : Int) = 2 by omega, if_false, if_true, Int.toNat_natCast, hx, if_neg q0])
    by_cases ht : next + 10 > 1001
    · rw [if_pos ht] at happ
      simp only [if_pos ht] at hj
      clear ht hx
      go_upto_region 8 with fail
      refine wp_region_plan [(.pure, 0), (.read, 1), (.pure, 2), (.pure, 3), (.pure, 4), (.read, 5), (.pure, 6), (.pure, 7), (.pure, 8), (.read, 9), (.pure, 10), (.pure, 11), (.pure, 12)] 13 (fun W => Mods Nil _ W) mixed (by kernel_rfl) (by kernel_rfl) Mods.refl.drew ?_
      repeat first
         | (refine reg_pure (v := ?_) rfl rfl ?_ ?_; rotate_left 1; (· (intro W; go_simp <;> with_reducible rfl)); simp only [Act.put, List.setIfInBounds_toArray, List.set_cons_zero, List.set_cons_succ])
         | (refine reg_read (v := ?_) rfl rfl ?_ ?_; rotate_left 1; (· (intro W hW; have hW' := Mods.cells hW; go_simp <;> with_reducible rfl)); simp only [Act.put, List.setIfInBounds_toArray, List.set_cons_zero, List.set_cons_succ])
         | (refine reg_off (by rfl) (by rfl) ?_; simp only [Act.put, List.setIfInBounds_toArray, List.set_cons_zero, List.set_cons_succ])
         | (refine reg_pure_on (v := ?_) rfl (by rfl) ?_ ?_; rotate_left 1; (· (intro W; go_simp <;> with_reducible rfl)); simp only [Act.put, List.setIfInBounds_toArray, List.set_cons_zero, List.set_cons_succ])
         | (refine reg_read_on (v := ?_) rfl (by rfl) ?_ ?_; rotate_left 1; (· (intro W hW; have hW' := Mods.cells hW; go_simp <;> with_reducible rfl)); simp only [Act.put, List.setIfInBounds_toArray, List.set_cons_zero, List.set_cons_succ])
      refine reg_done (qnp_normal ?_)
      go_wp2_with (go_at_call 45; refine hj.mono ?_; rintro e w3 ⟨hm3, rfl, hI3⟩)
      go_ret
      exact AppPost.of happ.out (hm2.out.trans (Mods.drew_left hm3) (fun _ _ h => h)) hI3 rfl
    · rw [if_neg ht] at happ
      simp only [if_neg ht] at hj
      clear ht hx
      go_upto_region 8 with fail
      refine wp_region_plan [(.pure, 0), (.read, 1), (.pure, 2), (.pure, 3), (.pure, 4), (.read, 5), (.pure, 6), (.pure, 7), (.pure, 8), (.read, 9), (.pure, 10), (.pure, 11), (.pure, 12)] 13 (fun W => Mods Nil _ W) mixed (by kernel_rfl) (by kernel_rfl) Mods.refl.drew ?_
      repeat first
         | (refine reg_pure (v := ?_) rfl rfl ?_ ?_; rotate_left 1; (· (intro W; go_simp <;> with_reducible rfl)); simp only [Act.put, List.setIfInBounds_toArray, List.set_cons_zero, List.set_cons_succ])
         | (refine reg_read (v := ?_) rfl rfl ?_ ?_; rotate_left 1; (· (intro W hW; have hW' := Mods.cells hW; go_simp <;> with_reducible rfl)); simp only [Act.put, List.setIfInBounds_toArray, List.set_cons_zero, List.set_cons_succ])
         | (refine reg_off (by rfl) (by rfl) ?_; simp only [Act.put, List.setIfInBounds_toArray, List.set_cons_zero, List.set_cons_succ])
         | (refine reg_pure_on (v := ?_) rfl (by rfl) ?_ ?_; rotate_left 1; (· (intro W; go_simp <;> with_reducible rfl)); simp only [Act.put, List.setIfInBounds_toArray, List.set_cons_zero, List.set_cons_succ])
         | (refine reg_read_on (v := ?_) rfl (by rfl) ?_ ?_; rotate_left 1; (· (intro W hW; have hW' := Mods.cells hW; go_simp <;> with_reducible rfl)); simp only [Act.put, List.setIfInBounds_toArray, List.set_cons_zero, List.set_cons_succ])
      refine reg_done (qnp_normal ?_)
      go_wp2_with (go_at_call 45; refine hj.mono ?_; rintro e w3 ⟨hm3, rfl, hI3⟩)
      go_ret
      exact AppPost.of happ.out (hm2.out.trans (Mods.drew_left hm3) (fun _ _ h => h)) hI3 rfl
  have b5 : (kind == 5) = false := by simpa using k5
  by_cases k3 : kind = 3
  · subst k3
    clear b1 k1 b2 k2 b5 k5
    by_cases q0 : part < 0
    · have happ := Lib.hid (app_partOut (S := ⟨nds, L.map Pt.pl, next, count⟩) (c := ⟨3, node, part, ep', ver', l⟩) (by simp) (.inl q0))
      go_upto_region 12 with fail
      refine wp_region_plan [(.pure, 0), (.read, 1), (.pure, 2), (.pure, 3), (.pure, 4), (.read, 5), (.pure, 6), (.pure, 7), (.pure, 8), (.read, 9), (.pure, 10), (.pure, 11), (.pure, 12)] 13 (fun W => Mods Nil _ W) mixed (by kernel_rfl) (by kernel_rfl) Mods.refl.drew ?_
      repeat first
         | (refine reg_pure (v := ?_) rfl rfl ?_ ?_; rotate_left 1; (· (intro W; go_simp <;> with_reducible rfl)); simp only [Act.put, List.setIfInBounds_toArray, List.set_cons_zero, List.set_cons_succ])
         | (refine reg_read (v := ?_) rfl rfl ?_ ?_; rotate_left 1; (· (intro W hW; have hW' := Mods.cells hW; go_simp <;> with_reducible rfl)); simp only [Act.put, List.setIfInBounds_toArray, List.set_cons_zero, List.set_cons_succ])
         | (refine reg_off (by rfl) (by rfl) ?_; simp only [Act.put, List.setIfInBounds_toArray, List.set_cons_zero, List.set_cons_succ])
         | (refine reg_pure_on (v := ?_) rfl (by rfl) ?_ ?_; rotate_left 1; (· (intro W; go_simp <;> with_reducible rfl)); simp only [Act.put, List.setIfInBounds_toArray, List.set_cons_zero, List.set_cons_succ])
         | (refine reg_read_on (v := ?_) rfl (by rfl) ?_ ?_; rotate_left 1; (· (intro W hW; have hW' := Mods.cells hW; go_simp <;> with_reducible rfl)); simp only [Act.put, List.setIfInBounds_toArray, List.set_cons_zero, List.set_cons_succ])
      refine reg_done (qnp_normal ?_)
      go_wp2
      go_ret
      exact AppPost.of happ.out hm2.out.drew hI.out rfl
    by_cases q1 : (L.length : Int) ≤ part
    · have happ := Lib.hid (app_partOut (S := ⟨nds, L.map Pt.pl, next, count⟩) (c := ⟨3, node, part, ep', ver', l⟩) (by simp) (.inr (by simpa using q1)))
      go_upto_region 12 with fail
      refine wp_region_plan [(.pure, 0), (.read, 1), (.pure, 2), (.pure, 3), (.pure, 4), (.read, 5), (.pure, 6), (.pure, 7), (.pure, 8), (.read, 9), (.pure, 10), (.pure, 11), (.pure, 12)] 13 (fun W => Mods Nil _ W) mixed (by kernel_rfl) (by kernel_rfl) Mods.refl.drew ?_
      repeat first
         | (refine reg_pure (v := ?_) rfl rfl ?_ ?_; rotate_left 1; (· (intro W; go_simp <;> with_reducible rfl)); simp only [Act.put, List.setIfInBounds_toArray, List.set_cons_zero, List.set_cons_succ])
         | (refine reg_read (v := ?_) rfl rfl ?_ ?_; rotate_left 1; (· (intro W hW; have hW' := Mods.cells hW; go_simp <;> with_reducible rfl)); simp only [Act.put, List.setIfInBounds_toArray, List.set_cons_zero, List.set_cons_succ])
         | (refine reg_off (by rfl) (by rfl) ?_; simp only [Act.put, List.setIfInBounds_toArray, List.set_cons_zero, List.set_cons_succ])
         | (refine reg_pure_on (v := ?_) rfl (by rfl) ?_ ?_; rotate_left 1; (· (intro W; go_simp <;> with_reducible rfl)); simp only [Act.put, List.setIfInBounds_toArray, List.set_cons_zero, List.set_cons_succ])
         | (refine reg_read_on (v := ?_) rfl (by rfl) ?_ ?_; rotate_left 1; (· (intro W hW; have hW' := Mods.cells hW; go_simp <;> with_reducible rfl)); simp only [Act.put, List.setIfInBounds_toArray, List.set_cons_zero, List.set_cons_succ])
      refine reg_done (qnp_normal ?_)
      go_wp2
      go_ret
      exact AppPost.of happ.out hm2.out.drew hI.out rfl
    obtain ⟨n, rfl⟩ : ∃ n : Nat, part = (n : Int) := ⟨part.toNat, by omega⟩
    obtain ⟨p, hx⟩ : ∃ p, L[n]? = some p := ⟨_, List.getElem?_eq_getElem (by omega)⟩
    have hj := isr_walk w2.drew d nds L next (w64 (count + 1)) n p 3 node ep' ver' xa xc l hI.out hx hlen hs2.out
    have happ : Hid (Im.app ⟨nds, L.map Pt.pl, next, count⟩ ⟨3, node, n, ep', ver', l⟩ = (⟨nds, if isrE nds node ep' ver' l p.pl = 0 then (L.map Pt.pl).set n (isrP nds l p.pl) else L.map Pt.pl, next, w64 (count + 1)⟩, isrE nds node ep' ver' l p.pl)) := Lib.hid (by
      unfold Im.app
      have hx' : (L.map Pt.pl)[n]? = some p.pl := by rw [List.getElem?_map, hx]; rfl
      simp only [show ¬ (3 : Int) = 1 by omega, show ¬ (3 : Int) = 2 by omega, show ¬ (3 : Int) = 5 by omega, if_false, if_true, Int.toNat_natCast, hx', if_neg q0])
    clear hx
    go_upto_region 12 with fail
    refine wp_region_plan [(.pure, 0), (.read, 1), (.pure, 2), (.pure, 3), (.pure, 4), (.read, 5), (.pure, 6), (.pure, 7), (.pure, 8), (.read, 9), (.pure, 10), (.pure, 11), (.pure, 12)] 13 (fun W => Mods Nil _ W) mixed (by kernel_rfl) (by kernel_rfl) Mods.refl.drew ?_
    repeat first
       | (refine reg_pure (v := ?_) rfl rfl ?_ ?_; rotate_left 1; (· (intro W; go_simp <;> with_reducible rfl)); simp only [Act.put, List.setIfInBounds_toArray, List.set_cons_zero, List.set_cons_succ])
       | (refine reg_read (v := ?_) rfl rfl ?_ ?_; rotate_left 1; (· (intro W hW; have hW' := Mods.cells hW; go_simp <;> with_reducible rfl)); simp only [Act.put, List.setIfInBounds_toArray, List.set_cons_zero, List.set_cons_succ])
       | (refine reg_off (by rfl) (by rfl) ?_; simp only [Act.put, List.setIfInBounds_toArray, List.set_cons_zero, List.set_cons_succ])
       | (refine reg_pure_on (v := ?_) rfl (by rfl) ?_ ?_; rotate_left 1; (· (intro W; go_simp <;> with_reducible rfl)); simp only [Act.put, List.setIfInBounds_toArray, List.set_cons_zero, List.set_cons_succ])
       | (refine reg_read_on (v := ?_) rfl (by rfl) ?_ ?_; rotate_left 1; (· (intro W hW; have hW' := Mods.cells hW; go_simp <;> with_reducible rfl)); simp only [Act.put, List.setIfInBounds_toArray, List.set_cons_zero, List.set_cons_succ])
    refine reg_done (qnp_normal ?_)
    go_wp2_with (go_at_call 43; refine hj.mono ?_; rintro e w3 ⟨rfl, hm3, L3, hI3, hp3⟩)
    go_ret
    exact AppPost.of happ.out (hm2.out.trans (Mods.drew_left hm3) (fun _ _ h => h)) hI3 hp3
  have b3 : (kind == 3) = false := by simpa using k3
  by_cases k4 : kind = 4
  · subst k4
    clear b1 k1 b2 k2 b5 k5 b3 k3
    by_cases q0 : part < 0
    · have happ := Lib.hid (app_partOut (S := ⟨nds, L.map Pt.pl, next, count⟩) (c := ⟨4, node, part, ep', ver', l⟩) (by simp) (.inl q0))
      go_upto_region 12 with fail
      refine wp_region_plan [(.pure, 0), (.read, 1), (.pure, 2), (.pure, 3), (.pure, 4), (.read, 5), (.pure, 6), (.pure, 7), (.pure, 8), (.read, 9), (.pure, 10), (.pure, 11), (.pure, 12)] 13 (fun W => Mods Nil _ W) mixed (by kernel_rfl) (by kernel_rfl) Mods.refl.drew ?_
      repeat first
         | (refine reg_pure (v := ?_) rfl rfl ?_ ?_; rotate_left 1; (· (intro W; go_simp <;> with_reducible rfl)); simp only [Act.put, List.setIfInBounds_toArray, List.set_cons_zero, List.set_cons_succ])
         | (refine reg_read (v := ?_) rfl rfl ?_ ?_; rotate_left 1; (· (intro W hW; have hW' := Mods.cells hW; go_simp <;> with_reducible rfl)); simp only [Act.put, List.setIfInBounds_toArray, List.set_cons_zero, List.set_cons_succ])
         | (refine reg_off (by rfl) (by rfl) ?_; simp only [Act.put, List.setIfInBounds_toArray, List.set_cons_zero, List.set_cons_succ])
         | (refine reg_pure_on (v := ?_) rfl (by rfl) ?_ ?_; rotate_left 1; (· (intro W; go_simp <;> with_reducible rfl)); simp only [Act.put, List.setIfInBounds_toArray, List.set_cons_zero, List.set_cons_succ])
         | (refine reg_read_on (v := ?_) rfl (by rfl) ?_ ?_; rotate_left 1; (· (intro W hW; have hW' := Mods.cells hW; go_simp <;> with_reducible rfl)); simp only [Act.put, List.setIfInBounds_toArray, List.set_cons_zero, List.set_cons_succ])
      refine reg_done (qnp_normal ?_)
      go_wp2
      go_ret
      exact AppPost.of happ.out hm2.out.drew hI.out rfl
    by_cases q1 : (L.length : Int) ≤ part
    · have happ := Lib.hid (app_partOut (S := ⟨nds, L.map Pt.pl, next, count⟩) (c := ⟨4, node, part, ep', ver', l⟩) (by simp) (.inr (by simpa using q1)))
      go_upto_region 12 with fail
      refine wp_region_plan [(.pure, 0), (.read, 1), (.pure, 2), (.pure, 3), (.pure, 4), (.read, 5), (.pure, 6), (.pure, 7), (.pure, 8), (.read, 9), (.pure, 10), (.pure, 11), (.pure, 12)] 13 (fun W => Mods Nil _ W) mixed (by kernel_rfl) (by kernel_rfl) Mods.refl.drew ?_
      repeat first
         | (refine reg_pure (v := ?_) rfl rfl ?_ ?_; rotate_left 1; (· (intro W; go_simp <;> with_reducible rfl)); simp only [Act.put, List.setIfInBounds_toArray, List.set_cons_zero, List.set_cons_succ])
         | (refine reg_read (v := ?_) rfl rfl ?_ ?_; rotate_left 1; (· (intro W hW; have hW' := Mods.cells hW; go_simp <;> with_reducible rfl)); simp only [Act.put, List.setIfInBounds_toArray, List.set_cons_zero, List.set_cons_succ])
         | (refine reg_off (by rfl) (by rfl) ?_; simp only [Act.put, List.setIfInBounds_toArray, List.set_cons_zero, List.set_cons_succ])
         | (refine reg_pure_on (v := ?_) rfl (by rfl) ?_ ?_; rotate_left 1; (· (intro W; go_simp <;> with_reducible rfl)); simp only [Act.put, List.setIfInBounds_toArray, List.set_cons_zero, List.set_cons_succ])
         | (refine reg_read_on (v := ?_) rfl (by rfl) ?_ ?_; rotate_left 1; (· (intro W hW; have hW' := Mods.cells hW; go_simp <;> with_reducible rfl)); simp only [Act.put, List.setIfInBounds_toArray, List.set_cons_zero, List.set_cons_succ])
      refine reg_done (qnp_normal ?_)
      go_wp2
      go_ret
      exact AppPost.of happ.out hm2.out.drew hI.out rfl
    obtain ⟨n, rfl⟩ : ∃ n : Nat, part = (n : Int) := ⟨part.toNat, by omega⟩
    obtain ⟨p, hx⟩ : ∃ p, L[n]? = some p := ⟨_, List.getElem?_eq_getElem (by omega)⟩
    have hj := move_walk w2.drew d nds L next (w64 (count + 1)) n p 4 node ep' ver' xa xc l hI.out hx hlen hs2.out
    have happ : Hid (Im.app ⟨nds, L.map Pt.pl, next, count⟩ ⟨4, node, n, ep', ver', l⟩ = (⟨nds, if moveE nds.length l p.pl = 0 then (L.map Pt.pl).set n (moveP nds l p.pl) else L.map Pt.pl, next, w64 (count + 1)⟩, moveE nds.length l p.pl)) := Lib.hid (by
      unfold Im.app
      have hx' : (L.map Pt.pl)[n]? = some p.pl := by rw [List.getElem?_map, hx]; rfl
      simp only [show ¬ (4 : Int) = 1 by omega, show ¬ (4 : Int) = 2 by omega, show ¬ (4 : Int) = 5 by omega, show ¬ (4 : Int) = 3 by omega, if_false, if_true, Int.toNat_natCast, hx', if_neg q0])
    clear hx
    go_upto_region 12 with fail
    refine wp_region_plan [(.pure, 0), (.read, 1), (.pure, 2), (.pure, 3), (.pure, 4), (.read, 5), (.pure, 6), (.pure, 7), (.pure, 8), (.read, 9), (.pure, 10), (.pure, 11), (.pure, 12)] 13 (fun W => Mods Nil _ W) mixed (by kernel_rfl) (by kernel_rfl) Mods.refl.drew ?_
    repeat first
       | (refine reg_pure (v := ?_) rfl rfl ?_ ?_; rotate_left 1; (· (intro W; go_simp <;> with_reducible rfl)); simp only [Act.put, List.setIfInBounds_toArray, List.set_cons_zero, List.set_cons_succ])
       | (refine reg_read (v := ?_) rfl rfl ?_ ?_; rotate_left 1; (· (intro W hW; have hW' := Mods.cells hW; go_simp <;> with_reducible rfl)); simp only [Act.put, List.setIfInBounds_toArray, List.set_cons_zero, List.set_cons_succ])
       | (refine reg_off (by rfl) (by rfl) ?_; simp only [Act.put, List.setIfInBounds_toArray, List.set_cons_zero, List.set_cons_succ])
       | (refine reg_pure_on (v := ?_) rfl (by rfl) ?_ ?_; rotate_left 1; (· (intro W; go_simp <;> with_reducible rfl)); simp only [Act.put, List.setIfInBounds_toArray, List.set_cons_zero, List.set_cons_succ])
       | (refine reg_read_on (v := ?_) rfl (by rfl) ?_ ?_; rotate_left 1; (· (intro W hW; have hW' := Mods.cells hW; go_simp <;> with_reducible rfl)); simp only [Act.put, List.setIfInBounds_toArray, List.set_cons_zero, List.set_cons_succ])
    refine reg_done (qnp_normal ?_)
    go_wp2_with (go_at_call 44; refine hj.mono ?_; rintro e w3 ⟨rfl, hm3, L3, hI3, hp3⟩)
    go_ret
    exact AppPost.of happ.out (hm2.out.trans (Mods.drew_left hm3) (fun _ _ h => h)) hI3 hp3
  have b4 : (kind == 4) = false := by simpa using k4
  have happ := Lib.hid (app_other (S := ⟨nds, L.map Pt.pl, next, count⟩) (c := ⟨kind, node, part, ep', ver', l⟩) k1 k2 k3 k4 k5)
  clear k1 k2 k3 k4 k5
  go_wp2
  go_ret
  exact AppPost.of happ.out hm2.out hI.out rfl
end Go.Proofs.Ytnnoicacpcahfaa
