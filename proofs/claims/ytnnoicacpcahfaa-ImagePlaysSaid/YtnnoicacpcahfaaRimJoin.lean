/- The reference's image: Apply of a join and a fence, walked. No condition. -/
import Derived.Test.YtnnoicacpcahfaaRimSync
import Derived.Test.YtnnoicacpcahfaaImgApply
namespace Go.Proofs.Ytnnoicacpcahfaa
open Go.RowKit

/-- What Apply leaves. -/
def RAppPost (w : World) (d : RAd) (S : Im) (c : Cm) (e : Ending) (w' : World) : Prop :=
  e = .returned (.int .i64 (S.app c).2) ∧ Mods d.A w w' ∧ ∃ L', RImg w' d (S.app c).1.nds L' (S.app c).1.next (S.app c).1.count ∧ L'.map Pt.pl = (S.app c).1.pts
theorem RAppPost.of {w w' : World} {d : RAd} {S : Im} {c : Cm} {T : Im} {v : Int} {L' : List Pt} (h : S.app c = (T, v)) (hm : Mods d.A w w') (hI : RImg w' d T.nds L' T.next T.count) (hp : L'.map Pt.pl = T.pts) : RAppPost w d S c (.returned (.int .i64 v)) w' := by
  unfold RAppPost
  rw [h]
  exact ⟨rfl, hm, L', hI, hp⟩

theorem rdKeepL {w w' : World} {S : Nat → Prop} {xa : Option Addr} {xc : Nat} {l : List Int} (h : Rd w 1 (.slice xa l.length xc) l.length (ints l)) (hm : Mods S w w') (hs : l ≠ [] → ∀ a, xa = some a → ¬ S a.block) : Rd w' 1 (.slice xa l.length xc) l.length (ints l) := by
  by_cases h0 : l = []
  · subst h0
    refine ⟨rfl, ?_⟩
    rcases h.2 with h' | ⟨ad, c, hv, _⟩
    · exact .inl h'
    · exact .inr ⟨ad, c, hv, fun j u hu => by simp [ints] at hu⟩
  · exact rdKeep h hm (hs h0)

structure RApCtx (w w2 : World) (B : Nat) (d : RAd) (nds : List Nd) (L : List Pt) (next count : Int) (kind node part ep' ver' : Int) (xa : Option Addr) (xc : Nat) (l : List Int) : Prop where
  img : RImg w2 d nds L next count
  sl : Rd w2 1 (.slice xa l.length xc) l.length (ints l)
  box : w2.heap[B]? = some (.cells #[.int .i64 kind, .int .i64 node, .int .i64 part, .int .i64 ep', .int .i64 ver', .slice xa l.length xc] 61 (0, 0))
  bA : ¬ d.A B
  mods : Mods d.A w w2
section
variable {w w2 w3 : World} {B : Nat} {d : RAd} {nds : List Nd} {L L' : List Pt} {next count : Int} {kind node part ep' ver' : Int} {xa : Option Addr} {xc : Nat} {l : List Int}
theorem RApCtx.keep (h : RApCtx w w2 B d nds L next count kind node part ep' ver' xa xc l) (hm : Mods Nil w2 w3) : RApCtx w w3 B d nds L next count kind node part ep' ver' xa xc l :=
  ⟨h.img.keepNil hm, rdKeep h.sl hm (fun _ _ => id), hm.keep h.box id, h.bA, h.mods.trans hm (fun _ _ h => h.elim)⟩
/-- The image has turned. -/
theorem RApCtx.turn {nds' : List Nd} {next' count' : Int} (h : RApCtx w w2 B d nds L next count kind node part ep' ver' xa xc l) (hm : Mods d.A w2 w3) (hI : RImg w3 d nds' L' next' count') (hs : l ≠ [] → ∀ a, xa = some a → ¬ d.A a.block) : RApCtx w w3 B d nds' L' next' count' kind node part ep' ver' xa xc l :=
  ⟨hI, rdKeepL h.sl hm hs, hm.keep h.box h.bA, h.bA, h.mods.trans hm (fun _ _ h => h)⟩
theorem RApCtx.start (h : RImg w d nds L next count) (hs : Rd w 1 (.slice xa l.length xc) l.length (ints l)) (hxa : l ≠ [] → ∀ a, xa = some a → ¬ d.A a.block) :
    RApCtx w ((w.alloc (.cells #[.int .i64 kind, .int .i64 node, .int .i64 part, .int .i64 ep', .int .i64 ver', .slice xa l.length xc] 61)).setCell ⟨d.b, 5, none⟩ (.int .i64 (w64 (count + 1)))) w.heap.size d nds L next (w64 (count + 1)) kind node part ep' ver' xa xc l := by
  have hm0 : Mods Nil w (w.alloc (.cells #[.int .i64 kind, .int .i64 node, .int .i64 part, .int .i64 ep', .int .i64 ver', .slice xa l.length xc] 61)) := Mods.refl.alloc _
  have hbx := heap_new w (.cells #[.int .i64 kind, .int .i64 node, .int .i64 part, .int .i64 ep', .int .i64 ver', .slice xa l.length xc] 61)
  have h1 := h.keepNil hm0
  have hm1 : Mods (fun i => i = d.b) (w.alloc (.cells #[.int .i64 kind, .int .i64 node, .int .i64 part, .int .i64 ep', .int .i64 ver', .slice xa l.length xc] 61)) ((w.alloc (.cells #[.int .i64 kind, .int .i64 node, .int .i64 part, .int .i64 ep', .int .i64 ver', .slice xa l.length xc] 61)).setCell ⟨d.b, 5, none⟩ (.int .i64 (w64 (count + 1)))) := Mods.refl.setCell _ (fun _ => rfl)
  have hbA : ¬ d.A w.heap.size := fun hA => by have := h.lt _ hA; omega
  refine ⟨h1.setCount _, rdKeepL (rdKeep hs hm0 (fun _ _ => id)) hm1 (fun h0 a ha e => hxa h0 a ha (.inl e)), hm1.keep hbx (fun e => hbA (.inl e)), hbA, (hm0.mono (fun _ h => h.elim)).trans hm1 (fun _ _ e => .inl e)⟩
end

set_option maxRecDepth 100000 in
set_option maxHeartbeats 6400000 in
theorem rapply_join (w : World) (d : RAd) (nds : List Nd) (L : List Pt) (next count : Int) (n : Nat) (x : Nd) (part ep' ver' : Int) (xa : Option Addr) (xc : Nat) (l : List Int) (h : RImg w d nds L next count) (hs : Rd w 1 (.slice xa l.length xc) l.length (ints l)) (hxa : l ≠ [] → ∀ a, xa = some a → ¬ d.A a.block) (hn : nds[n]? = some x) :
    Calls Try.prog 23 #[.pointer (some ⟨d.b, 0, none⟩), .agg #[.int .i64 1, .int .i64 n, .int .i64 part, .int .i64 ep', .int .i64 ver', .slice xa l.length xc]] w
      fun e w' => RAppPost w d ⟨nds, L.map Pt.pl, next, count⟩ ⟨1, n, part, ep', ver', l⟩ e w' := by
  have hnl : n < nds.length := (List.getElem?_eq_some_iff.1 hn).1
  have i0 : (0 : Int) ≤ (n : Int) := by omega
  have i1 : (n : Int) < (nds.length : Int) := by omega
  have happ : Hid (Im.app ⟨nds, L.map Pt.pl, next, count⟩ ⟨1, n, part, ep', ver', l⟩ = if ep' ≤ x.comes then (⟨nds, L.map Pt.pl, next, w64 (count + 1)⟩, 5) else (⟨nds.set n { x with alive := true, comes := ep' }, (L.map Pt.pl).map (joinP (nds.set n { x with alive := true, comes := ep' }) n), next, w64 (count + 1)⟩, 0)) := Lib.hid (by
    unfold Im.app
    simp only [if_true, Int.toNat_natCast, hn, show ¬ (n : Int) < 0 by omega, if_false])
  have hC := Lib.hid (RApCtx.start (kind := 1) (node := n) (part := part) (ep' := ep') (ver' := ver') h hs hxa)
  have hm0 : Mods Nil w (w.alloc (.cells #[.int .i64 1, .int .i64 n, .int .i64 part, .int .i64 ep', .int .i64 ver', .slice xa l.length xc] 61)) := Mods.refl.alloc _
  have cb := cellOf (h.keepNil hm0).box
  have lb := ltOf (h.keepNil hm0).box
  have fb := frzOf (h.keepNil hm0).box
  replace hs := Lib.hid hs
  replace hxa := Lib.hid hxa
  clear h hm0
  go_enter Try.func23, Try.ntmps23
  go_upto_region 2 with fail
  clear cb lb fb
  change Code.wp _ _ _ _ ((w.alloc (.cells #[.int .i64 1, .int .i64 n, .int .i64 part, .int .i64 ep', .int .i64 ver', .slice xa l.length xc] 61)).setCell ⟨d.b, 5, none⟩ (.int .i64 (w64 (count + 1))))
  generalize (w.alloc (.cells #[.int .i64 1, .int .i64 n, .int .i64 part, .int .i64 ep', .int .i64 ver', .slice xa l.length xc] 61)).setCell ⟨d.b, 5, none⟩ (.int .i64 (w64 (count + 1))) = w2 at *
  generalize w.heap.size = B at *
  have cb := cellOf hC.out.img.box
  have lb := ltOf hC.out.img.box
  have cx := cellOf hC.out.box
  have lx := ltOf hC.out.box
  obtain ⟨-, c1, -⟩ := hC.out.img.nodeCells hn
  have lm := hC.out.img.co.ltAt
  by_cases ht : ep' ≤ x.comes
  · rw [if_pos ht] at happ
    go_upto_region 7 with fail
    refine wp_region_plan [(.pure, 0), (.read, 1), (.pure, 2), (.pure, 3), (.pure, 4), (.read, 5), (.pure, 6), (.pure, 7), (.pure, 8), (.read, 9), (.pure, 10), (.pure, 11), (.pure, 12)] 13 (fun W => Mods Nil (w2) W) mixed (by kernel_rfl) (by kernel_rfl) (by repeat (first | exact Mods.refl | apply Mods.drew)) ?_
    repeat first
       | (refine reg_pure (v := ?_) rfl rfl ?_ ?_; rotate_left 1; (· (intro W; go_simp <;> with_reducible rfl)); simp only [Act.put, List.setIfInBounds_toArray, List.set_cons_zero, List.set_cons_succ])
       | (refine reg_read (v := ?_) rfl rfl ?_ ?_; rotate_left 1; (· (intro W hW; have hW' := Mods.cells hW; go_simp <;> with_reducible rfl)); simp only [Act.put, List.setIfInBounds_toArray, List.set_cons_zero, List.set_cons_succ])
       | (refine reg_off (by rfl) (by rfl) ?_; simp only [Act.put, List.setIfInBounds_toArray, List.set_cons_zero, List.set_cons_succ])
       | (refine reg_pure_on (v := ?_) rfl (by rfl) ?_ ?_; rotate_left 1; (· (intro W; go_simp <;> with_reducible rfl)); simp only [Act.put, List.setIfInBounds_toArray, List.set_cons_zero, List.set_cons_succ])
       | (refine reg_read_on (v := ?_) rfl (by rfl) ?_ ?_; rotate_left 1; (· (intro W hW; have hW' := Mods.cells hW; go_simp <;> with_reducible rfl)); simp only [Act.put, List.setIfInBounds_toArray, List.set_cons_zero, List.set_cons_succ])
    refine reg_done (qnp_normal ?_)
    go_upto_region 15 with fail
    refine wp_region_plan [(.pure, 0), (.read, 1), (.pure, 2), (.pure, 3), (.pure, 4), (.read, 5), (.pure, 6), (.read, 7), (.pure, 8), (.read, 9), (.pure, 10)] 11 (fun W => Mods Nil (w2) W) mixed (by kernel_rfl) (by kernel_rfl) (by repeat (first | exact Mods.refl | apply Mods.drew)) ?_
    repeat first
       | (refine reg_pure (v := ?_) rfl rfl ?_ ?_; rotate_left 1; (· (intro W; go_simp <;> with_reducible rfl)); simp only [Act.put, List.setIfInBounds_toArray, List.set_cons_zero, List.set_cons_succ])
       | (refine reg_read (v := ?_) rfl rfl ?_ ?_; rotate_left 1; (· (intro W hW; have hW' := Mods.cells hW; go_simp <;> with_reducible rfl)); simp only [Act.put, List.setIfInBounds_toArray, List.set_cons_zero, List.set_cons_succ])
       | (refine reg_off (by rfl) (by rfl) ?_; simp only [Act.put, List.setIfInBounds_toArray, List.set_cons_zero, List.set_cons_succ])
       | (refine reg_pure_on (v := ?_) rfl (by rfl) ?_ ?_; rotate_left 1; (· (intro W; go_simp <;> with_reducible rfl)); simp only [Act.put, List.setIfInBounds_toArray, List.set_cons_zero, List.set_cons_succ])
       | (refine reg_read_on (v := ?_) rfl (by rfl) ?_ ?_; rotate_left 1; (· (intro W hW; have hW' := Mods.cells hW; go_simp <;> with_reducible rfl)); simp only [Act.put, List.setIfInBounds_toArray, List.set_cons_zero, List.set_cons_succ])
    refine reg_done (qnp_normal ?_)
    go_wp2
    go_ret
    exact RAppPost.of happ.out (hC.out.keep ((Mods.refl : Mods Nil w2 w2).drew.drew)).mods (hC.out.keep ((Mods.refl : Mods Nil w2 w2).drew.drew)).img rfl
  · rw [if_neg ht] at happ
    have hd : decide (ep' ≤ x.comes) = false := decide_eq_false ht
    clear ht
    go_upto_region 7 with fail
    refine wp_region_plan [(.pure, 0), (.read, 1), (.pure, 2), (.pure, 3), (.pure, 4), (.read, 5), (.pure, 6), (.pure, 7), (.pure, 8), (.read, 9), (.pure, 10), (.pure, 11), (.pure, 12)] 13 (fun W => Mods Nil (w2) W) mixed (by kernel_rfl) (by kernel_rfl) (by repeat (first | exact Mods.refl | apply Mods.drew)) ?_
    repeat first
       | (refine reg_pure (v := ?_) rfl rfl ?_ ?_; rotate_left 1; (· (intro W; go_simp <;> with_reducible rfl)); simp only [Act.put, List.setIfInBounds_toArray, List.set_cons_zero, List.set_cons_succ])
       | (refine reg_read (v := ?_) rfl rfl ?_ ?_; rotate_left 1; (· (intro W hW; have hW' := Mods.cells hW; go_simp <;> with_reducible rfl)); simp only [Act.put, List.setIfInBounds_toArray, List.set_cons_zero, List.set_cons_succ])
       | (refine reg_off (by rfl) (by rfl) ?_; simp only [Act.put, List.setIfInBounds_toArray, List.set_cons_zero, List.set_cons_succ])
       | (refine reg_pure_on (v := ?_) rfl (by rfl) ?_ ?_; rotate_left 1; (· (intro W; go_simp <;> with_reducible rfl)); simp only [Act.put, List.setIfInBounds_toArray, List.set_cons_zero, List.set_cons_succ])
       | (refine reg_read_on (v := ?_) rfl (by rfl) ?_ ?_; rotate_left 1; (· (intro W hW; have hW' := Mods.cells hW; go_simp <;> with_reducible rfl)); simp only [Act.put, List.setIfInBounds_toArray, List.set_cons_zero, List.set_cons_succ])
    refine reg_done (qnp_normal ?_)
    go_upto_region 15 with fail
    refine wp_region_plan [(.pure, 0), (.read, 1), (.pure, 2), (.pure, 3), (.pure, 4), (.read, 5), (.pure, 6), (.read, 7), (.pure, 8), (.read, 9), (.pure, 10)] 11 (fun W => Mods Nil (w2) W) mixed (by kernel_rfl) (by kernel_rfl) (by repeat (first | exact Mods.refl | apply Mods.drew)) ?_
    repeat first
       | (refine reg_pure (v := ?_) rfl rfl ?_ ?_; rotate_left 1; (· (intro W; go_simp <;> with_reducible rfl)); simp only [Act.put, List.setIfInBounds_toArray, List.set_cons_zero, List.set_cons_succ])
       | (refine reg_read (v := ?_) rfl rfl ?_ ?_; rotate_left 1; (· (intro W hW; have hW' := Mods.cells hW; go_simp <;> with_reducible rfl)); simp only [Act.put, List.setIfInBounds_toArray, List.set_cons_zero, List.set_cons_succ])
       | (refine reg_off (by rfl) (by rfl) ?_; simp only [Act.put, List.setIfInBounds_toArray, List.set_cons_zero, List.set_cons_succ])
       | (refine reg_pure_on (v := ?_) rfl (by rfl) ?_ ?_; rotate_left 1; (· (intro W; go_simp <;> with_reducible rfl)); simp only [Act.put, List.setIfInBounds_toArray, List.set_cons_zero, List.set_cons_succ])
       | (refine reg_read_on (v := ?_) rfl (by rfl) ?_ ?_; rotate_left 1; (· (intro W hW; have hW' := Mods.cells hW; go_simp <;> with_reducible rfl)); simp only [Act.put, List.setIfInBounds_toArray, List.set_cons_zero, List.set_cons_succ])
    refine reg_done (qnp_normal ?_)
    clear c1 lm hd
    have hIa := hC.out.img.setAl hn true
    have hna := get_set_same (a := ({ x with alive := true } : Nd)) hn
    have hma : Mods d.A w2 (w2.setCell ⟨d.ga, n, none⟩ (.bool true)) := Mods.refl.setCell (a := ⟨d.ga, n, none⟩) _ (fun _ => .inr (.inl rfl))
    have hCa := Lib.hid (hC.out.turn hma hIa hxa.out)
    obtain ⟨c0, -, -⟩ := hC.out.img.nodeCells hn
    have fa := hC.out.img.al.frzAt
    have la := hC.out.img.al.ltAt
    clear hIa hma
    go_upto_region 17 with fail
    refine wp_region_plan [(.pure, 0), (.pure, 1), (.pure, 2), (.read, 3), (.pure, 4), (.read, 5), (.pure, 6), (.eff, 7)] 7 (fun W => Mods Nil (w2) W) mixed (by kernel_rfl) (by kernel_rfl) (by repeat (first | exact Mods.refl | apply Mods.drew)) ?_
    repeat first
       | (refine reg_pure (v := ?_) rfl rfl ?_ ?_; rotate_left 1; (· (intro W; go_simp <;> with_reducible rfl)); simp only [Act.put, List.setIfInBounds_toArray, List.set_cons_zero, List.set_cons_succ])
       | (refine reg_read (v := ?_) rfl rfl ?_ ?_; rotate_left 1; (· (intro W hW; have hW' := Mods.cells hW; go_simp <;> with_reducible rfl)); simp only [Act.put, List.setIfInBounds_toArray, List.set_cons_zero, List.set_cons_succ])
       | (refine reg_off (by rfl) (by rfl) ?_; simp only [Act.put, List.setIfInBounds_toArray, List.set_cons_zero, List.set_cons_succ])
       | (refine reg_pure_on (v := ?_) rfl (by rfl) ?_ ?_; rotate_left 1; (· (intro W; go_simp <;> with_reducible rfl)); simp only [Act.put, List.setIfInBounds_toArray, List.set_cons_zero, List.set_cons_succ])
       | (refine reg_read_on (v := ?_) rfl (by rfl) ?_ ?_; rotate_left 1; (· (intro W hW; have hW' := Mods.cells hW; go_simp <;> with_reducible rfl)); simp only [Act.put, List.setIfInBounds_toArray, List.set_cons_zero, List.set_cons_succ])
    refine reg_eff (by rfl) (by rfl) (fun K hK => ?_)
    go_simp
    refine hK _ _ ?_
    clear hK K
    refine reg_done (qnp_normal ?_)
    clear c0 fa la cb lb cx lx hC
    generalize w2.setCell ⟨d.ga, n, none⟩ (.bool true) = w3 at *
    have hIb := hCa.out.img.setCo hna ep'
    rw [set_set_same] at hIb
    have hmb : Mods d.A w3 (w3.setCell ⟨d.gm, n, none⟩ (.int .i64 ep')) := Mods.refl.setCell (a := ⟨d.gm, n, none⟩) _ (fun _ => .inr (.inr (.inl rfl)))
    have hCb := Lib.hid (hCa.out.turn hmb hIb hxa.out)
    obtain ⟨-, c1, -⟩ := hCa.out.img.nodeCells hna
    have fm := hCa.out.img.co.frzAt
    have lm := hCa.out.img.co.ltAt
    have cb := cellOf hCa.out.img.box
    have lb := ltOf hCa.out.img.box
    have cx := cellOf hCa.out.box
    have lx := ltOf hCa.out.box
    rw [List.length_set] at cb
    clear hIb hmb
    go_upto_region 18 with fail
    refine wp_region_plan [(.pure, 0), (.pure, 1), (.pure, 2), (.read, 3), (.pure, 4), (.read, 5), (.pure, 6), (.read, 7), (.pure, 8), (.eff, 9)] 9 (fun W => Mods Nil (w3) W) mixed (by kernel_rfl) (by kernel_rfl) (by repeat (first | exact Mods.refl | apply Mods.drew)) ?_
    repeat first
       | (refine reg_pure (v := ?_) rfl rfl ?_ ?_; rotate_left 1; (· (intro W; go_simp <;> with_reducible rfl)); simp only [Act.put, List.setIfInBounds_toArray, List.set_cons_zero, List.set_cons_succ])
       | (refine reg_read (v := ?_) rfl rfl ?_ ?_; rotate_left 1; (· (intro W hW; have hW' := Mods.cells hW; go_simp <;> with_reducible rfl)); simp only [Act.put, List.setIfInBounds_toArray, List.set_cons_zero, List.set_cons_succ])
       | (refine reg_off (by rfl) (by rfl) ?_; simp only [Act.put, List.setIfInBounds_toArray, List.set_cons_zero, List.set_cons_succ])
       | (refine reg_pure_on (v := ?_) rfl (by rfl) ?_ ?_; rotate_left 1; (· (intro W; go_simp <;> with_reducible rfl)); simp only [Act.put, List.setIfInBounds_toArray, List.set_cons_zero, List.set_cons_succ])
       | (refine reg_read_on (v := ?_) rfl (by rfl) ?_ ?_; rotate_left 1; (· (intro W hW; have hW' := Mods.cells hW; go_simp <;> with_reducible rfl)); simp only [Act.put, List.setIfInBounds_toArray, List.set_cons_zero, List.set_cons_succ])
    refine reg_eff (by rfl) (by rfl) (fun K hK => ?_)
    go_simp
    refine hK _ _ ?_
    clear hK K
    refine reg_done (qnp_normal ?_)
    clear c1 fm lm cb lb cx lx hCa hna
    generalize w3.setCell ⟨d.gm, n, none⟩ (.int .i64 ep') = w4 at *
    have hCb' := hCb.out
    generalize hnds : nds.set n { x with alive := true, comes := ep' } = nds2 at *
    have hCd := Lib.hid (hCb'.keep ((by repeat (first | exact Mods.refl | apply Mods.drew)) : Mods Nil w4 w4.drew.drew.drew.drew))
    clear hCb hCb'
    generalize w4.drew.drew.drew.drew = w5 at *
    obtain ⟨P, hP⟩ : ∃ P, P = L.map Pt.pl := ⟨_, rfl⟩
    have hPl : L.length = P.length := by rw [hP]; simp
    have hU0 : Upto (joinP nds2 n) P 0 L := by rw [hP]; exact Upto.zero _ _
    have hPb : P.length ≤ 9223372036854775807 := by have := hCd.out.img.pts.1.capAt; unfold maxLen at this; omega
    replace hP := Lib.hid hP
    replace hPl := Lib.hid hPl
    replace hU0 := Lib.hid hU0
    have cb := cellOf hCd.out.img.box
    have lb := ltOf hCd.out.img.box
    rw [hPl.out] at cb
    go_wp2_with fail
    go_loopw [5] (fun s5 wr => ∃ (k : Nat) (Lr : List Pt), k ≤ P.length ∧ s5 = .int .i64 k ∧ Hid (Upto (joinP nds2 n) P k Lr) ∧ Hid (RApCtx w wr B d nds2 Lr next (w64 (count + 1)) 1 n part ep' ver' xa xc l)) (fun s5 _ => P.length - (intOf s5).toNat)
    case atStart => exact ⟨0, L, by omega, rfl, hU0, hCd⟩
    case round =>
      clear cb lb hCd hU0
      obtain ⟨k, Lr, hk, rfl, hU, hC⟩ := hrel
      have hLl := hU.out.len hk
      have cb := cellOf hC.out.img.box
      have lb := ltOf hC.out.img.box
      rw [hLl] at cb
      have cx := cellOf hC.out.box
      have lx := ltOf hC.out.box
      by_cases hlt : k < P.length
      · obtain ⟨p, hp⟩ : ∃ p, Lr[k]? = some p := ⟨_, List.getElem?_eq_getElem (by omega)⟩
        have hpt := (hC.out.img.pts.2.1 p (List.mem_of_getElem? hp)).1
        have hok := hC.out.img.pts.2.2.1 p (List.mem_of_getElem? hp)
        obtain ⟨p0, -, -, p3, -, -⟩ := hC.out.img.pts.cells hp
        have lp := hC.out.img.pts.1.ltAt
        have k0 : (0 : Int) ≤ (k : Int) := by omega
        have k1 : (k : Int) < (P.length : Int) := by omega
        have hskip : Hid (p.pl = joinP nds2 n p.pl → Upto (joinP nds2 n) P (k + 1) Lr) := Lib.hid (fun hq => hU.out.skip hp hlt hq)
        have hstep : Hid (elP nds2 p.pl = joinP nds2 n p.pl → Upto (joinP nds2 n) P (k + 1) (Lr.set k { p with pl := elP nds2 p.pl })) := Lib.hid (fun hq => hU.out.step hp hlt hq)
        have hel : Hid (∀ W, Mods Nil wr W → Calls Try.prog 48 #[.pointer (some ⟨d.b, 0, none⟩), .int .i64 k] W
          fun e w' => e = .returned (.tuple #[]) ∧ RImg w' d nds2 (Lr.set k { p with pl := elP nds2 p.pl }) next (w64 (count + 1)) ∧ Mods (fun i => i = d.gp) W w') := Lib.hid (fun W hW => rlead_walk W d nds2 Lr next _ k p (hC.out.img.keepNil hW) hp)
        have hli : p.pl.isr.length * 8 ≤ 140737488355328 := hok.li
        have hl1 : -1 ≤ p.pl.lead := hok.lead
        have hcon : Hid (∀ W, Mods Nil wr W → Calls Try.prog 47 #[.slice p.ai.1 p.pl.isr.length p.ai.2, .int .i64 n] W fun e w' => e = .returned (.bool (p.pl.isr.contains (n : Int))) ∧ w' = W) := Lib.hid (fun W hW => has_same W p.ai.1 p.ai.2 p.pl.isr n (by omega) (hpt.keep hW (fun _ h => h.elim)).1.rd)
        obtain ⟨⟨lead, ep, ver, isr, rep, tar⟩, ⟨la, lc⟩, ⟨ra, rc⟩, ⟨ta, tc⟩⟩ := p
        unfold Pt.vi at p3
        dsimp only at *
        clear hpt hok hU
        replace hp := Lib.hid hp
        replace hLl := Lib.hid hLl
        have hltH := Lib.hid hlt
        go_upto_region 22 with fail
        by_cases hl : lead = (n : Int)
        · have hb : (lead == (n : Int)) = true := by simpa using hl
          have hj : Hid (elP nds2 ⟨lead, ep, ver, isr, rep, tar⟩ = joinP nds2 n ⟨lead, ep, ver, isr, rep, tar⟩) := Lib.hid (by rw [joinP, if_pos (.inl hl)])
          replace hl := Lib.hid hl
          refine wp_region_plan [(.pure, 0), (.pure, 1), (.pure, 2), (.read, 3), (.pure, 4), (.pure, 5), (.pure, 6), (.read, 7), (.pure, 8), (.read, 9), (.pure, 10), (.pure, 11), (.pure, 12), (.pure, 13), (.pure, 14), (.read, 15), (.pure, 16), (.pure, 17), (.pure, 18), (.read, 19), (.pure, 20), (.pure, 21), (.pure, 22), (.pure, 23), (.pure, 24), (.read, 25), (.pure, 26), (.pure, 27), (.pure, 28), (.read, 29), (.pure, 30), (.read, 31), (.ben, 32), (.pure, 33), (.pure, 34)] 35 (fun W => Mods Nil (wr) W) mixed (by kernel_rfl) (by kernel_rfl) (by repeat (first | exact Mods.refl | apply Mods.drew)) ?_
          repeat first
             | (refine reg_pure (v := ?_) rfl rfl ?_ ?_; rotate_left 1; (· (intro W; go_simp <;> with_reducible rfl)); simp only [Act.put, List.setIfInBounds_toArray, List.set_cons_zero, List.set_cons_succ])
             | (refine reg_read (v := ?_) rfl rfl ?_ ?_; rotate_left 1; (· (intro W hW; have hW' := Mods.cells hW; go_simp <;> with_reducible rfl)); simp only [Act.put, List.setIfInBounds_toArray, List.set_cons_zero, List.set_cons_succ])
             | (refine reg_off (by rfl) (by rfl) ?_; simp only [Act.put, List.setIfInBounds_toArray, List.set_cons_zero, List.set_cons_succ])
             | (refine reg_pure_on (v := ?_) rfl (by rfl) ?_ ?_; rotate_left 1; (· (intro W; go_simp <;> with_reducible rfl)); simp only [Act.put, List.setIfInBounds_toArray, List.set_cons_zero, List.set_cons_succ])
             | (refine reg_read_on (v := ?_) rfl (by rfl) ?_ ?_; rotate_left 1; (· (intro W hW; have hW' := Mods.cells hW; go_simp <;> with_reducible rfl)); simp only [Act.put, List.setIfInBounds_toArray, List.set_cons_zero, List.set_cons_succ])
          refine reg_done (qnp_normal ?_)
          clear cb lb cx lx p0 p3 lp
          go_wp2_with (go_at_call 48; (with_reducible refine (hel.out _ (by repeat (first | exact Mods.refl | apply Mods.drew))).mono ?_); rintro e w7 ⟨rfl, hI7, hm7⟩)
          exact ⟨⟨k + 1, _, hltH.out, by go_num, Lib.hid (hstep.out hj.out), Lib.hid (hC.out.turn ((Mods.drew_left hm7).mono (fun i hi => .inr (.inr (.inr (.inr hi))))) hI7 hxa.out)⟩, by have := hltH.out; simp [intOf]; omega⟩
        · have hb : (lead == (n : Int)) = false := by simpa using hl
          replace hl := Lib.hid hl
          by_cases hneg : lead = -1
          · have hb1 : (lead == -1) = true := by simpa using hneg
            obtain ⟨tb, htb⟩ : ∃ tb, tb = isr.contains (n : Int) := ⟨_, rfl⟩
            rw [← htb] at hcon
            have hnegH := Lib.hid hneg
            clear hneg
            cases tb with
            | true =>
              have hj : Hid (elP nds2 ⟨lead, ep, ver, isr, rep, tar⟩ = joinP nds2 n ⟨lead, ep, ver, isr, rep, tar⟩) := Lib.hid (by rw [joinP, if_pos (.inr ⟨by show lead < 0; have := hnegH.out; omega, htb.symm⟩)])
              replace htb := Lib.hid htb
              refine wp_region_plan [(.pure, 0), (.pure, 1), (.pure, 2), (.read, 3), (.pure, 4), (.pure, 5), (.pure, 6), (.read, 7), (.pure, 8), (.read, 9), (.pure, 10), (.pure, 11), (.pure, 12), (.pure, 13), (.pure, 14), (.read, 15), (.pure, 16), (.pure, 17), (.pure, 18), (.read, 19), (.pure, 20), (.pure, 21), (.pure, 22), (.pure, 23), (.pure, 24), (.read, 25), (.pure, 26), (.pure, 27), (.pure, 28), (.read, 29), (.pure, 30), (.read, 31), (.ben, 32), (.pure, 33), (.pure, 34)] 35 (fun W => Mods Nil (wr) W) mixed (by kernel_rfl) (by kernel_rfl) (by repeat (first | exact Mods.refl | apply Mods.drew)) ?_
              repeat first
                 | (refine reg_pure (v := ?_) rfl rfl ?_ ?_; rotate_left 1; (· (intro W; go_simp <;> with_reducible rfl)); simp only [Act.put, List.setIfInBounds_toArray, List.set_cons_zero, List.set_cons_succ])
                 | (refine reg_read (v := ?_) rfl rfl ?_ ?_; rotate_left 1; (· (intro W hW; have hW' := Mods.cells hW; go_simp <;> with_reducible rfl)); simp only [Act.put, List.setIfInBounds_toArray, List.set_cons_zero, List.set_cons_succ])
                 | (refine reg_off (by rfl) (by rfl) ?_; simp only [Act.put, List.setIfInBounds_toArray, List.set_cons_zero, List.set_cons_succ])
                 | (refine reg_pure_on (v := ?_) rfl (by rfl) ?_ ?_; rotate_left 1; (· (intro W; go_simp <;> with_reducible rfl)); simp only [Act.put, List.setIfInBounds_toArray, List.set_cons_zero, List.set_cons_succ])
                 | (refine reg_read_on (v := ?_) rfl (by rfl) ?_ ?_; rotate_left 1; (· (intro W hW; have hW' := Mods.cells hW; go_simp <;> with_reducible rfl)); simp only [Act.put, List.setIfInBounds_toArray, List.set_cons_zero, List.set_cons_succ])
              refine reg_ben_on (by rfl) (by rfl) (fun K hK => ?_)
              go_simp
              (with_reducible refine (hcon.out _ Mods.refl.drew).mono ?_)
              rintro e w' ⟨rfl, hw'⟩
              have hw'' := hw'.symm
              subst hw''
              refine hK _ _ Mods.refl.drew ?_
              clear hK K
              repeat first
                 | (refine reg_pure (v := ?_) rfl rfl ?_ ?_; rotate_left 1; (· (intro W; go_simp <;> with_reducible rfl)); simp only [Act.put, List.setIfInBounds_toArray, List.set_cons_zero, List.set_cons_succ])
                 | (refine reg_read (v := ?_) rfl rfl ?_ ?_; rotate_left 1; (· (intro W hW; have hW' := Mods.cells hW; go_simp <;> with_reducible rfl)); simp only [Act.put, List.setIfInBounds_toArray, List.set_cons_zero, List.set_cons_succ])
                 | (refine reg_off (by rfl) (by rfl) ?_; simp only [Act.put, List.setIfInBounds_toArray, List.set_cons_zero, List.set_cons_succ])
                 | (refine reg_pure_on (v := ?_) rfl (by rfl) ?_ ?_; rotate_left 1; (· (intro W; go_simp <;> with_reducible rfl)); simp only [Act.put, List.setIfInBounds_toArray, List.set_cons_zero, List.set_cons_succ])
                 | (refine reg_read_on (v := ?_) rfl (by rfl) ?_ ?_; rotate_left 1; (· (intro W hW; have hW' := Mods.cells hW; go_simp <;> with_reducible rfl)); simp only [Act.put, List.setIfInBounds_toArray, List.set_cons_zero, List.set_cons_succ])
              refine reg_done (qnp_normal ?_)
              clear cb lb cx lx p0 p3 lp
              go_wp2_with (go_at_call 48; (with_reducible refine (hel.out _ (by repeat (first | exact Mods.refl | apply Mods.drew))).mono ?_); rintro e w7 ⟨rfl, hI7, hm7⟩)
              exact ⟨⟨k + 1, _, hltH.out, by go_num, Lib.hid (hstep.out hj.out), Lib.hid (hC.out.turn ((Mods.drew_left hm7).mono (fun i hi => .inr (.inr (.inr (.inr hi))))) hI7 hxa.out)⟩, by have := hltH.out; simp [intOf]; omega⟩
            | false =>
              have hj : Hid ((⟨lead, ep, ver, isr, rep, tar⟩ : Pl) = joinP nds2 n ⟨lead, ep, ver, isr, rep, tar⟩) := Lib.hid (by
                rw [joinP, if_neg]
                rintro (h | ⟨_, h⟩)
                · exact hl.out h
                · have h' : isr.contains (n : Int) = true := h
                  rw [← htb] at h'; cases h')
              replace htb := Lib.hid htb
              refine wp_region_plan [(.pure, 0), (.pure, 1), (.pure, 2), (.read, 3), (.pure, 4), (.pure, 5), (.pure, 6), (.read, 7), (.pure, 8), (.read, 9), (.pure, 10), (.pure, 11), (.pure, 12), (.pure, 13), (.pure, 14), (.read, 15), (.pure, 16), (.pure, 17), (.pure, 18), (.read, 19), (.pure, 20), (.pure, 21), (.pure, 22), (.pure, 23), (.pure, 24), (.read, 25), (.pure, 26), (.pure, 27), (.pure, 28), (.read, 29), (.pure, 30), (.read, 31), (.ben, 32), (.pure, 33), (.pure, 34)] 35 (fun W => Mods Nil (wr) W) mixed (by kernel_rfl) (by kernel_rfl) (by repeat (first | exact Mods.refl | apply Mods.drew)) ?_
              repeat first
                 | (refine reg_pure (v := ?_) rfl rfl ?_ ?_; rotate_left 1; (· (intro W; go_simp <;> with_reducible rfl)); simp only [Act.put, List.setIfInBounds_toArray, List.set_cons_zero, List.set_cons_succ])
                 | (refine reg_read (v := ?_) rfl rfl ?_ ?_; rotate_left 1; (· (intro W hW; have hW' := Mods.cells hW; go_simp <;> with_reducible rfl)); simp only [Act.put, List.setIfInBounds_toArray, List.set_cons_zero, List.set_cons_succ])
                 | (refine reg_off (by rfl) (by rfl) ?_; simp only [Act.put, List.setIfInBounds_toArray, List.set_cons_zero, List.set_cons_succ])
                 | (refine reg_pure_on (v := ?_) rfl (by rfl) ?_ ?_; rotate_left 1; (· (intro W; go_simp <;> with_reducible rfl)); simp only [Act.put, List.setIfInBounds_toArray, List.set_cons_zero, List.set_cons_succ])
                 | (refine reg_read_on (v := ?_) rfl (by rfl) ?_ ?_; rotate_left 1; (· (intro W hW; have hW' := Mods.cells hW; go_simp <;> with_reducible rfl)); simp only [Act.put, List.setIfInBounds_toArray, List.set_cons_zero, List.set_cons_succ])
              refine reg_ben_on (by rfl) (by rfl) (fun K hK => ?_)
              go_simp
              (with_reducible refine (hcon.out _ Mods.refl.drew).mono ?_)
              rintro e w' ⟨rfl, hw'⟩
              have hw'' := hw'.symm
              subst hw''
              refine hK _ _ Mods.refl.drew ?_
              clear hK K
              repeat first
                 | (refine reg_pure (v := ?_) rfl rfl ?_ ?_; rotate_left 1; (· (intro W; go_simp <;> with_reducible rfl)); simp only [Act.put, List.setIfInBounds_toArray, List.set_cons_zero, List.set_cons_succ])
                 | (refine reg_read (v := ?_) rfl rfl ?_ ?_; rotate_left 1; (· (intro W hW; have hW' := Mods.cells hW; go_simp <;> with_reducible rfl)); simp only [Act.put, List.setIfInBounds_toArray, List.set_cons_zero, List.set_cons_succ])
                 | (refine reg_off (by rfl) (by rfl) ?_; simp only [Act.put, List.setIfInBounds_toArray, List.set_cons_zero, List.set_cons_succ])
                 | (refine reg_pure_on (v := ?_) rfl (by rfl) ?_ ?_; rotate_left 1; (· (intro W; go_simp <;> with_reducible rfl)); simp only [Act.put, List.setIfInBounds_toArray, List.set_cons_zero, List.set_cons_succ])
                 | (refine reg_read_on (v := ?_) rfl (by rfl) ?_ ?_; rotate_left 1; (· (intro W hW; have hW' := Mods.cells hW; go_simp <;> with_reducible rfl)); simp only [Act.put, List.setIfInBounds_toArray, List.set_cons_zero, List.set_cons_succ])
              refine reg_done (qnp_normal ?_)
              clear cb lb cx lx p0 p3 lp
              go_wp2
              exact ⟨⟨k + 1, Lr, hltH.out, by go_num, Lib.hid (hskip.out hj.out), Lib.hid (hC.out.keep Mods.refl.drew)⟩, by have := hltH.out; simp [intOf]; omega⟩
          · have hb1 : (lead == -1) = false := by simpa using hneg
            have hj : Hid ((⟨lead, ep, ver, isr, rep, tar⟩ : Pl) = joinP nds2 n ⟨lead, ep, ver, isr, rep, tar⟩) := Lib.hid (by
              rw [joinP, if_neg]
              rintro (h | ⟨h, _⟩)
              · exact hl.out h
              · have h' : lead < 0 := h
                omega)
            replace hneg := Lib.hid hneg
            refine wp_region_plan [(.pure, 0), (.pure, 1), (.pure, 2), (.read, 3), (.pure, 4), (.pure, 5), (.pure, 6), (.read, 7), (.pure, 8), (.read, 9), (.pure, 10), (.pure, 11), (.pure, 12), (.pure, 13), (.pure, 14), (.read, 15), (.pure, 16), (.pure, 17), (.pure, 18), (.read, 19), (.pure, 20), (.pure, 21), (.pure, 22), (.pure, 23), (.pure, 24), (.read, 25), (.pure, 26), (.pure, 27), (.pure, 28), (.read, 29), (.pure, 30), (.read, 31), (.ben, 32), (.pure, 33), (.pure, 34)] 35 (fun W => Mods Nil (wr) W) mixed (by kernel_rfl) (by kernel_rfl) (by repeat (first | exact Mods.refl | apply Mods.drew)) ?_
            repeat first
               | (refine reg_pure (v := ?_) rfl rfl ?_ ?_; rotate_left 1; (· (intro W; go_simp <;> with_reducible rfl)); simp only [Act.put, List.setIfInBounds_toArray, List.set_cons_zero, List.set_cons_succ])
               | (refine reg_read (v := ?_) rfl rfl ?_ ?_; rotate_left 1; (· (intro W hW; have hW' := Mods.cells hW; go_simp <;> with_reducible rfl)); simp only [Act.put, List.setIfInBounds_toArray, List.set_cons_zero, List.set_cons_succ])
               | (refine reg_off (by rfl) (by rfl) ?_; simp only [Act.put, List.setIfInBounds_toArray, List.set_cons_zero, List.set_cons_succ])
               | (refine reg_pure_on (v := ?_) rfl (by rfl) ?_ ?_; rotate_left 1; (· (intro W; go_simp <;> with_reducible rfl)); simp only [Act.put, List.setIfInBounds_toArray, List.set_cons_zero, List.set_cons_succ])
               | (refine reg_read_on (v := ?_) rfl (by rfl) ?_ ?_; rotate_left 1; (· (intro W hW; have hW' := Mods.cells hW; go_simp <;> with_reducible rfl)); simp only [Act.put, List.setIfInBounds_toArray, List.set_cons_zero, List.set_cons_succ])
            refine reg_done (qnp_normal ?_)
            clear cb lb cx lx p0 p3 lp
            go_wp2
            exact ⟨⟨k + 1, Lr, hltH.out, by go_num, Lib.hid (hskip.out hj.out), Lib.hid (hC.out.keep Mods.refl.drew)⟩, by have := hltH.out; simp [intOf]; omega⟩
      · obtain rfl : k = P.length := by omega
        have hall := Lib.hid hU.out.all
        clear hlt hU hLl
        go_wp2
        go_ret
        exact RAppPost.of happ.out hC.out.mods hC.out.img (by rw [hall.out, hP.out])
end Go.Proofs.Ytnnoicacpcahfaa
