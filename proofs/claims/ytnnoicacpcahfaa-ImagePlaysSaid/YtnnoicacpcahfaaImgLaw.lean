/- The law of the image: own; the reference's SameCmd and SamePart, walked. No condition. -/
import Derived.Test.YtnnoicacpcahfaaImgSettle
namespace Go.Proofs.Ytnnoicacpcahfaa
open Go.RowKit

set_option maxRecDepth 100000 in
set_option maxHeartbeats 1600000 in
theorem ownCmd_walk (w : World) (kind node part ep' ver' : Int) (xa : Option Addr) (xc : Nat) (l : List Int) (hlen : l.length * 8 ≤ 140737488355328) (hs : Rd w 1 (.slice xa l.length xc) l.length (ints l)) :
    Calls Try.prog 21 #[.agg #[.int .i64 kind, .int .i64 node, .int .i64 part, .int .i64 ep', .int .i64 ver', .slice xa l.length xc]] w
      fun e w' => ∃ ya yc, e = .returned (.agg #[.int .i64 kind, .int .i64 node, .int .i64 part, .int .i64 ep', .int .i64 ver', .slice ya l.length yc]) ∧ NewSl w.heap.size w' 3 1 ya l.length yc (ints l) ∧ Mods Nil w w' := by
  have hmx : 0 + l.length ≤ maxLen := by unfold maxLen; omega
  go_enter Try.func21, Try.ntmps21
  go_upto_region 1 with fail
  obtain ⟨X, hX⟩ : ∃ X, X = Obj.cells #[.int .i64 kind, .int .i64 node, .int .i64 part, .int .i64 ep', .int .i64 ver', .slice xa l.length xc] 61 := ⟨_, rfl⟩
  obtain ⟨Y, hY⟩ : ∃ Y, Y = Obj.cells #[.int .i64 0, .int .i64 0, .int .i64 0, .int .i64 0, .int .i64 0, .slice none 0 0] 61 := ⟨_, rfl⟩
  rw [← hX, ← hY]
  have h1 := heap_old (o' := Y) (heap_new w X)
  have h2 := heap_new (w.alloc X) Y
  rw [alloc_size] at h2
  have hm1 : Mods Nil w ((w.alloc X).alloc Y) := (Mods.refl.alloc _).alloc _
  have hz1 : ((w.alloc X).alloc Y).heap.size = w.heap.size + 2 := by simp
  subst hX hY
  generalize (w.alloc (.cells #[.int .i64 kind, .int .i64 node, .int .i64 part, .int .i64 ep', .int .i64 ver', .slice xa l.length xc] 61)).alloc (.cells #[.int .i64 0, .int .i64 0, .int .i64 0, .int .i64 0, .int .i64 0, .slice none 0 0] 61) = w1 at *
  have hs1 := rdKeep hs hm1 (fun _ _ => id)
  have c1 := cellOf h1
  have l1 := ltOf h1
  replace h1 := Lib.hid h1
  replace h2 := Lib.hid h2
  replace hz1 := Lib.hid hz1
  replace hm1 := Lib.hid hm1
  clear hs
  have hn2 : Hid ((w1.alloc (.cells #[] 3)).heap[w1.heap.size]? = some (.cells #[] 3 (0, 0))) := Lib.hid (heap_new w1 _)
  have hal : Mods Nil w1 (w1.alloc (.cells #[] 3)) := Mods.refl.alloc _
  replace hal := Lib.hid hal
  apply wp_region_lit
  repeat ((fail_if_success at_builtin); go_step)
  have hs2 := rdKeep hs1 hal.out (fun _ _ => id)
  have hsl : Sl (w1.alloc (.cells #[] 3)) 3 1 (.slice (some ⟨w1.heap.size, 0, none⟩) 0 0) 0 [] := ⟨rfl, .inr ⟨w1.heap.size, 0, 0, #[], rfl, hn2.out, Nat.le_refl _, by unfold maxLen; omega, by simp, fun j hj => by omega⟩⟩
  have hN0 : NewSl w.heap.size (w1.alloc (.cells #[] 3)) 3 1 (some ⟨w1.heap.size, 0, none⟩) 0 0 [] := ⟨hsl, fun a ha => by cases ha; have := hz1.out; show w.heap.size ≤ w1.heap.size; omega⟩
  refine wpList_append_sl (n := 0) (xs := []) (m := l.length) (news := ints l) (by rfl) (.tmp 3) (.tmp 5) (by rfl) elInt (by rfl) hsl (by rfl) hs2 (ints_one _) hmx (by omega) ?_
  intro v' w5 h5 hg5 ho5 _
  obtain ⟨ya, yc, rfl, hN5, hm5⟩ := NewSl.app (W := w) hN0 (by simp; have := hm1.out.size; omega) h5 hg5 ho5 (hm1.out.trans hal.out (fun _ _ h => h)) (Nat.le_refl _)
  rw [Nat.zero_add, List.nil_append] at hN5
  rw [Nat.zero_add]
  have hb5 := (hg5.block _ (ltOf (hal.out.keep h1.out id)) (by simp [Value.ownBlock]; have := hz1.out; omega)).trans (hal.out.keep h1.out id)
  have hr5 := (hg5.block _ (ltOf (hal.out.keep h2.out id)) (by simp [Value.ownBlock]; have := hz1.out; omega)).trans (hal.out.keep h2.out id)
  have hya : Hid (∀ a, ya = some a → w.heap.size + 2 ≤ a.block) := Lib.hid (by
    rintro a rfl
    rcases ho5 with ho | ho
    · obtain ⟨x, hx, hxe⟩ := ownOf (k := a.block) (by rw [← ho]; rfl)
      cases hx
      have := hz1.out
      dsimp only at hxe
      omega
    · simp [Value.ownBlock] at ho; have := hz1.out; omega)
  have c5 := cellOf hb5
  have f5 := frzOf hb5
  have l5 := ltOf hb5
  have r5 := cellOf hr5
  have g5 := frzOf hr5
  have k5 := ltOf hr5
  have hb6 := heap_setCell_same hb5 5 (.slice ya l.length yc)
  have hr6 := (heap_setCell_ne (b := w.heap.size + 1) (a := ⟨w.heap.size, 5, none⟩) (by show w.heap.size + 1 ≠ w.heap.size; omega) (.slice ya l.length yc)).trans hr5
  have hm6 : Mods (fun i => w.heap.size ≤ i ∧ i < w.heap.size + 2) w5 (w5.setCell ⟨w.heap.size, 5, none⟩ (.slice ya l.length yc)) := Mods.refl.setCell (a := ⟨w.heap.size, 5, none⟩) _ (fun _ => ⟨Nat.le_refl _, Nat.lt_add_of_pos_right (by omega)⟩)
  replace hb6 := Lib.hid hb6
  replace hr6 := Lib.hid hr6
  replace hm6 := Lib.hid hm6
  replace hN5 := Lib.hid hN5
  replace hm5 := Lib.hid hm5
  replace hb5 := Lib.hid hb5
  replace hr5 := Lib.hid hr5
  clear h5 hg5 ho5 hN0 hsl hs2 hs1 c1 l1 hn2 hal h1 h2
  go_upto_region 2 with fail
  clear c5 f5 l5 r5 g5 k5
  generalize w5.setCell ⟨w.heap.size, 5, none⟩ (.slice ya l.length yc) = w6 at *
  have c6 := cellOf hb6.out
  have l6 := ltOf hb6.out
  have r6 := cellOf hr6.out
  have g6 := frzOf hr6.out
  have k6 := ltOf hr6.out
  simp at c6
  have q9 := heap_setCell_same (heap_setCell_same (heap_setCell_same (heap_setCell_same (heap_setCell_same (heap_setCell_same hr6.out 0 (.int .i64 kind)) 1 (.int .i64 node)) 2 (.int .i64 part)) 3 (.int .i64 ep')) 4 (.int .i64 ver')) 5 (.slice ya l.length yc)
  simp at q9
  have hm9 := (((((hm6.out.setCell (a := ⟨w.heap.size + 1, 0, none⟩) (.int .i64 kind) (fun _ => ⟨Nat.le_add_right _ _, Nat.lt_succ_self _⟩)).setCell (a := ⟨w.heap.size + 1, 1, none⟩) (.int .i64 node) (fun _ => ⟨Nat.le_add_right _ _, Nat.lt_succ_self _⟩)).setCell (a := ⟨w.heap.size + 1, 2, none⟩) (.int .i64 part) (fun _ => ⟨Nat.le_add_right _ _, Nat.lt_succ_self _⟩)).setCell (a := ⟨w.heap.size + 1, 3, none⟩) (.int .i64 ep') (fun _ => ⟨Nat.le_add_right _ _, Nat.lt_succ_self _⟩)).setCell (a := ⟨w.heap.size + 1, 4, none⟩) (.int .i64 ver') (fun _ => ⟨Nat.le_add_right _ _, Nat.lt_succ_self _⟩)).setCell (a := ⟨w.heap.size + 1, 5, none⟩) (.slice ya l.length yc) (fun _ => ⟨Nat.le_add_right _ _, Nat.lt_succ_self _⟩)
  replace hm9 := Lib.hid hm9
  replace q9 := Lib.hid q9
  go_wp2
  have c9 := cellOf q9.out
  generalize (((((w6.setCell ⟨w.heap.size + 1, 0, none⟩ (.int .i64 kind)).setCell ⟨w.heap.size + 1, 1, none⟩ (.int .i64 node)).setCell ⟨w.heap.size + 1, 2, none⟩ (.int .i64 part)).setCell ⟨w.heap.size + 1, 3, none⟩ (.int .i64 ep')).setCell ⟨w.heap.size + 1, 4, none⟩ (.int .i64 ver')).setCell ⟨w.heap.size + 1, 5, none⟩ (.slice ya l.length yc) = w9 at *
  refine bodyPost_ret (v := .agg #[.int .i64 kind, .int .i64 node, .int .i64 part, .int .i64 ep', .int .i64 ver', .slice ya l.length yc]) (by simp [results, Try.results21, go_sem, c9]) rfl
    ⟨ya, yc, rfl, ⟨slKeep hN5.out.1 hm9.out (fun a ha h => by have := hya.out a ha; omega), hN5.out.2⟩, hm5.out.trans hm9.out (fun i hi h => by omega)⟩

set_option maxRecDepth 100000 in
set_option maxHeartbeats 3200000 in
theorem sameCmd_walk (w : World) (kind node part ep' ver' : Int) (xa ya : Option Addr) (xc yc : Nat) (l : List Int) (hlen : l.length * 8 ≤ 140737488355328) (h1 : Rd w 1 (.slice ya l.length yc) l.length (ints l)) (h2 : Rd w 1 (.slice xa l.length xc) l.length (ints l)) :
    Calls Try.prog 24 #[.agg #[.int .i64 kind, .int .i64 node, .int .i64 part, .int .i64 ep', .int .i64 ver', .slice ya l.length yc], .agg #[.int .i64 kind, .int .i64 node, .int .i64 part, .int .i64 ep', .int .i64 ver', .slice xa l.length xc]] w
      fun e w' => e = .returned (.bool true) ∧ Mods Nil w w' := by
  go_enter Try.func24, Try.ntmps24
  go_wp2_with fail
  have hm1 : Mods Nil w ((w.alloc (.cells #[.int .i64 kind, .int .i64 node, .int .i64 part, .int .i64 ep', .int .i64 ver', .slice ya l.length yc] 61)).alloc (.cells #[.int .i64 kind, .int .i64 node, .int .i64 part, .int .i64 ep', .int .i64 ver', .slice xa l.length xc] 61)) := (Mods.refl.alloc _).alloc _
  refine (sameInts_walk _ ya xa yc xc l (by omega) (rdKeep h1 hm1 (fun _ _ => id)) (rdKeep h2 hm1 (fun _ _ => id))).mono ?_
  rintro e w2 ⟨rfl, hm2⟩
  have hm02 := hm1.trans hm2 (fun _ _ h => h)
  clear hm1 hm2
  go_wp2
  go_ret
  exact ⟨rfl, hm02⟩

set_option maxRecDepth 100000 in
set_option maxHeartbeats 3200000 in
theorem samePart_walk (w : World) (p : Pl) (ia ra ta ja sa ua : Option Addr) (ic rc tc jc sc uc : Nat) (li : p.isr.length * 8 ≤ 140737488355328) (lr : p.rep.length * 8 ≤ 140737488355328) (lt : p.tar.length * 8 ≤ 140737488355328)
    (h1 : Rd w 1 (.slice ia p.isr.length ic) p.isr.length (ints p.isr)) (h2 : Rd w 1 (.slice ja p.isr.length jc) p.isr.length (ints p.isr))
    (h3 : Rd w 1 (.slice ra p.rep.length rc) p.rep.length (ints p.rep)) (h4 : Rd w 1 (.slice sa p.rep.length sc) p.rep.length (ints p.rep))
    (h5 : Rd w 1 (.slice ta p.tar.length tc) p.tar.length (ints p.tar)) (h6 : Rd w 1 (.slice ua p.tar.length uc) p.tar.length (ints p.tar)) :
    Calls Try.prog 57 #[.agg #[.int .i64 p.lead, .int .i64 p.ep, .int .i64 p.ver, .slice ia p.isr.length ic, .slice ra p.rep.length rc, .slice ta p.tar.length tc], .agg #[.int .i64 p.lead, .int .i64 p.ep, .int .i64 p.ver, .slice ja p.isr.length jc, .slice sa p.rep.length sc, .slice ua p.tar.length uc]] w
      fun e w' => e = .returned (.bool true) ∧ Mods Nil w w' := by
  obtain ⟨lead, ep, ver, isr, rep, tar⟩ := p
  dsimp only at *
  go_enter Try.func57, Try.ntmps57
  go_wp2_with fail
  obtain ⟨X, hX⟩ : ∃ X, X = Obj.cells #[.int .i64 lead, .int .i64 ep, .int .i64 ver, .slice ia isr.length ic, .slice ra rep.length rc, .slice ta tar.length tc] 99 := ⟨_, rfl⟩
  obtain ⟨Y, hY⟩ : ∃ Y, Y = Obj.cells #[.int .i64 lead, .int .i64 ep, .int .i64 ver, .slice ja isr.length jc, .slice sa rep.length sc, .slice ua tar.length uc] 99 := ⟨_, rfl⟩
  rw [← hX, ← hY]
  have hm1 : Mods Nil w ((w.alloc X).alloc Y) := (Mods.refl.alloc _).alloc _
  have x1 := heap_old (o' := Y) (heap_new w X)
  have y1 := heap_new (w.alloc X) Y
  rw [alloc_size] at y1
  subst hX hY
  generalize (w.alloc (.cells #[.int .i64 lead, .int .i64 ep, .int .i64 ver, .slice ia isr.length ic, .slice ra rep.length rc, .slice ta tar.length tc] 99)).alloc (.cells #[.int .i64 lead, .int .i64 ep, .int .i64 ver, .slice ja isr.length jc, .slice sa rep.length sc, .slice ua tar.length uc] 99) = w1 at *
  refine (sameInts_walk w1 ia ja ic jc isr (by omega) (rdKeep h1 hm1 (fun _ _ => id)) (rdKeep h2 hm1 (fun _ _ => id))).mono ?_
  rintro e w2 ⟨rfl, hm2⟩
  have hm02 := hm1.trans hm2 (fun _ _ h => h)
  have x2 := hm2.keep x1 id
  have y2 := hm2.keep y1 id
  clear hm1 hm2 x1 y1 h1 h2
  have cx2 := cellOf x2
  have lx2 := ltOf x2
  have cy2 := cellOf y2
  have ly2 := ltOf y2
  go_wp2_with fail
  refine (sameInts_walk w2 ra sa rc sc rep (by omega) (rdKeep h3 hm02 (fun _ _ => id)) (rdKeep h4 hm02 (fun _ _ => id))).mono ?_
  rintro e w3 ⟨rfl, hm3⟩
  have hm03 := hm02.trans hm3 (fun _ _ h => h)
  have x3 := hm3.keep x2 id
  have y3 := hm3.keep y2 id
  clear hm02 hm3 x2 y2 cx2 lx2 cy2 ly2 h3 h4
  have cx3 := cellOf x3
  have lx3 := ltOf x3
  have cy3 := cellOf y3
  have ly3 := ltOf y3
  go_wp2_with fail
  refine (sameInts_walk w3 ta ua tc uc tar (by omega) (rdKeep h5 hm03 (fun _ _ => id)) (rdKeep h6 hm03 (fun _ _ => id))).mono ?_
  rintro e w4 ⟨rfl, hm4⟩
  have hm04 := hm03.trans hm4 (fun _ _ h => h)
  clear hm03 hm4 cx3 lx3 cy3 ly3 x3 y3 h5 h6
  go_wp2
  go_ret
  exact ⟨rfl, hm04⟩
end Go.Proofs.Ytnnoicacpcahfaa
