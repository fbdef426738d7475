/- (*Image).Part, walked. No condition. -/
import Derived.Test.YtnnoicacpcahfaaImgApply
namespace Go.Proofs.Ytnnoicacpcahfaa
open Go.RowKit

set_option maxRecDepth 100000 in
set_option maxHeartbeats 3200000 in
theorem partOut_walk (w : World) (d : Ad) (nds : List Nd) (L : List Pt) (next count : Int) (k : Int) (h : Img w d nds L next count) (hk : k < 0 ∨ (L.length : Int) ≤ k) :
    Calls Try.prog 40 #[.pointer (some ⟨d.b, 0, none⟩), .int .i64 k] w
      fun e w' => e = .returned (.tuple #[.agg #[.int .i64 0, .int .i64 0, .int .i64 0, .slice none 0 0, .slice none 0 0, .slice none 0 0], .bool false]) ∧ Mods Nil w w' := by
  have hm0 : Mods Nil w (w.alloc (.cells #[.int .i64 0, .int .i64 0, .int .i64 0, .slice none 0 0, .slice none 0 0, .slice none 0 0] 99)) := Mods.refl.alloc _
  have hI := h.keepNil hm0
  have cb := cellOf hI.1
  have lb := ltOf hI.1
  have cx := cellOf (heap_new w (.cells #[.int .i64 0, .int .i64 0, .int .i64 0, .slice none 0 0, .slice none 0 0, .slice none 0 0] 99))
  have fx := frzOf (heap_new w (.cells #[.int .i64 0, .int .i64 0, .int .i64 0, .slice none 0 0, .slice none 0 0, .slice none 0 0] 99))
  replace hm0 := Lib.hid hm0
  clear h hI
  by_cases h0 : k < 0
  · clear hk
    go_enter Try.func40, Try.ntmps40
    go_wp2
    refine bodyPost_ret (v := .tuple #[.agg #[.int .i64 0, .int .i64 0, .int .i64 0, .slice none 0 0, .slice none 0 0, .slice none 0 0], .bool false]) (by simp [results, Try.results40, go_sem, cx]) rfl ⟨rfl, hm0.out⟩
  · have h1 : (L.length : Int) ≤ k := by omega
    clear hk
    go_enter Try.func40, Try.ntmps40
    go_wp2
    refine bodyPost_ret (v := .tuple #[.agg #[.int .i64 0, .int .i64 0, .int .i64 0, .slice none 0 0, .slice none 0 0, .slice none 0 0], .bool false]) (by simp [results, Try.results40, go_sem, cx]) rfl ⟨rfl, hm0.out⟩

set_option maxRecDepth 100000 in
set_option maxHeartbeats 3200000 in
theorem part_walk (w : World) (d : Ad) (nds : List Nd) (L : List Pt) (next count : Int) (k : Nat) (p : Pt) (h : Img w d nds L next count) (hk : L[k]? = some p) :
    Calls Try.prog 40 #[.pointer (some ⟨d.b, 0, none⟩), .int .i64 k] w
      fun e w' => ∃ ia ic ra rc ta tc, e = .returned (.tuple #[.agg #[.int .i64 p.pl.lead, .int .i64 p.pl.ep, .int .i64 p.pl.ver, .slice ia p.pl.isr.length ic, .slice ra p.pl.rep.length rc, .slice ta p.pl.tar.length tc], .bool true]) ∧
        NewSl w.heap.size w' 3 1 ia p.pl.isr.length ic (ints p.pl.isr) ∧ NewSl w.heap.size w' 3 1 ra p.pl.rep.length rc (ints p.pl.rep) ∧ NewSl w.heap.size w' 3 1 ta p.pl.tar.length tc (ints p.pl.tar) ∧ Mods Nil w w' := by
  have hkl : k < L.length := (List.getElem?_eq_some_iff.1 hk).1
  have hm0 : Mods Nil w (w.alloc (.cells #[.int .i64 0, .int .i64 0, .int .i64 0, .slice none 0 0, .slice none 0 0, .slice none 0 0] 99)) := Mods.refl.alloc _
  have hI := h.keepNil hm0
  have cb := cellOf hI.1
  have lb := ltOf hI.1
  obtain ⟨c0, c1, c2, c3, c4, c5⟩ := hI.2.2.1.cells hk
  have lp := hI.2.2.1.1.ltAt
  have hpcap := hI.2.2.1.1.capAt.1
  have hok := Lib.hid (hI.2.2.1.2.2.1 p (List.mem_of_getElem? hk))
  have k0 : (0 : Int) ≤ (k : Int) := by omega
  have k1 : (k : Int) < (L.length : Int) := by omega
  have hpt := Lib.hid (hI.2.2.1.2.1 p (List.mem_of_getElem? hk))
  have hx := heap_new w (.cells #[.int .i64 0, .int .i64 0, .int .i64 0, .slice none 0 0, .slice none 0 0, .slice none 0 0] 99)
  have hsz := alloc_size w (.cells #[.int .i64 0, .int .i64 0, .int .i64 0, .slice none 0 0, .slice none 0 0, .slice none 0 0] 99)
  obtain ⟨⟨lead, ep, ver, isr, rep, tar⟩, ⟨la, lc⟩, ⟨ra, rc⟩, ⟨ta, tc⟩⟩ := p
  unfold Pt.vi at c3
  unfold Pt.vr at c4
  unfold Pt.vt at c5
  dsimp only at *
  replace hm0 := Lib.hid hm0
  replace hx := Lib.hid hx
  replace hsz := Lib.hid hsz
  clear h hI hk
  go_enter Try.func40, Try.ntmps40
  go_upto_region 3 with fail
  generalize w.alloc (.cells #[.int .i64 0, .int .i64 0, .int .i64 0, .slice none 0 0, .slice none 0 0, .slice none 0 0] 99) = w1 at *
  go_upto_region 4 with fail
  clear cb lb c0 c1 c2 c3 c4 c5 lp
  have hm2 : Mods Nil w (w1.alloc (.cells #[.int .i64 lead, .int .i64 ep, .int .i64 ver, .slice la isr.length lc, .slice ra rep.length rc, .slice ta tar.length tc] 99)) := hm0.out.alloc _
  have hx2 := heap_old (o' := (.cells #[.int .i64 lead, .int .i64 ep, .int .i64 ver, .slice la isr.length lc, .slice ra rep.length rc, .slice ta tar.length tc] 99)) hx.out
  have hp2 := heap_new w1 (.cells #[.int .i64 lead, .int .i64 ep, .int .i64 ver, .slice la isr.length lc, .slice ra rep.length rc, .slice ta tar.length tc] 99)
  have hpt2 := hpt.out.keep (S := Nil) ((Mods.refl : Mods Nil w1 w1).alloc (.cells #[.int .i64 lead, .int .i64 ep, .int .i64 ver, .slice la isr.length lc, .slice ra rep.length rc, .slice ta tar.length tc] 99)) (fun _ h => h.elim)
  have hs1 : w1.heap.size = w.heap.size + 1 := hsz.out
  generalize w1.alloc (.cells #[.int .i64 lead, .int .i64 ep, .int .i64 ver, .slice la isr.length lc, .slice ra rep.length rc, .slice ta tar.length tc] 99) = w2 at *
  generalize hB : w1.heap.size = B at *
  have cp := cellOf hp2
  have lp := ltOf hp2
  have hsz2 := hm2.size
  replace hx2 := Lib.hid hx2
  replace hp2 := Lib.hid hp2
  replace hpt2 := Lib.hid hpt2
  replace hm2 := Lib.hid hm2
  replace hs1 := Lib.hid hs1
  clear hm0 hx hsz hB hpt w1
  refine wp_region_plan [(.pure, 0), (.read, 1), (.pure, 3), (.read, 4), (.pure, 6), (.read, 7), (.ben, 2), (.pure, 9), (.ben, 5), (.ben, 8), (.eff, 10), (.pure, 11), (.eff, 12), (.pure, 13), (.eff, 14)] 10 (fun W => Mods Nil _ W) mixed (by kernel_rfl) (by kernel_rfl) Mods.refl.drew ?_
  repeat first
     | (refine reg_pure (v := ?_) rfl rfl ?_ ?_; rotate_left 1; (· (intro W; go_simp <;> with_reducible rfl)); simp only [Act.put, List.setIfInBounds_toArray, List.set_cons_zero, List.set_cons_succ])
     | (refine reg_read (v := ?_) rfl rfl ?_ ?_; rotate_left 1; (· (intro W hW; have hW' := Mods.cells hW; go_simp <;> with_reducible rfl)); simp only [Act.put, List.setIfInBounds_toArray, List.set_cons_zero, List.set_cons_succ])
     | (refine reg_off (by rfl) (by rfl) ?_; simp only [Act.put, List.setIfInBounds_toArray, List.set_cons_zero, List.set_cons_succ])
     | (refine reg_pure_on (v := ?_) rfl (by rfl) ?_ ?_; rotate_left 1; (· (intro W; go_simp <;> with_reducible rfl)); simp only [Act.put, List.setIfInBounds_toArray, List.set_cons_zero, List.set_cons_succ])
     | (refine reg_read_on (v := ?_) rfl (by rfl) ?_ ?_; rotate_left 1; (· (intro W hW; have hW' := Mods.cells hW; go_simp <;> with_reducible rfl)); simp only [Act.put, List.setIfInBounds_toArray, List.set_cons_zero, List.set_cons_succ])
  refine reg_ben (by rfl) (by rfl) (fun K hK => ?_)
  go_simp
  refine (clone_walk w2.drew la lc isr hok.out.li hpt2.out.1.1).mono ?_
  rintro e wa ⟨ia, ic, rfl, hNi, hma⟩
  replace hma := Mods.drew_left hma
  refine hK _ _ hma ?_
  clear hK K
  repeat first
     | (refine reg_pure (v := ?_) rfl rfl ?_ ?_; rotate_left 1; (· (intro W; go_simp <;> with_reducible rfl)); simp only [Act.put, List.setIfInBounds_toArray, List.set_cons_zero, List.set_cons_succ])
     | (refine reg_read (v := ?_) rfl rfl ?_ ?_; rotate_left 1; (· (intro W hW; have hW' := Mods.cells hW; go_simp <;> with_reducible rfl)); simp only [Act.put, List.setIfInBounds_toArray, List.set_cons_zero, List.set_cons_succ])
     | (refine reg_off (by rfl) (by rfl) ?_; simp only [Act.put, List.setIfInBounds_toArray, List.set_cons_zero, List.set_cons_succ])
     | (refine reg_pure_on (v := ?_) rfl (by rfl) ?_ ?_; rotate_left 1; (· (intro W; go_simp <;> with_reducible rfl)); simp only [Act.put, List.setIfInBounds_toArray, List.set_cons_zero, List.set_cons_succ])
     | (refine reg_read_on (v := ?_) rfl (by rfl) ?_ ?_; rotate_left 1; (· (intro W hW; have hW' := Mods.cells hW; go_simp <;> with_reducible rfl)); simp only [Act.put, List.setIfInBounds_toArray, List.set_cons_zero, List.set_cons_succ])
  refine reg_ben (by rfl) (by rfl) (fun K hK => ?_)
  go_simp
  refine (clone_walk wa ra rc rep hok.out.lr (hpt2.out.2.1.keep hma (fun _ h => h.elim)).1).mono ?_
  rintro e wb ⟨rna, rnc, rfl, hNr, hmb⟩
  refine hK _ _ (hma.trans hmb (fun _ _ h => h)) ?_
  clear hK K
  repeat first
     | (refine reg_pure (v := ?_) rfl rfl ?_ ?_; rotate_left 1; (· (intro W; go_simp <;> with_reducible rfl)); simp only [Act.put, List.setIfInBounds_toArray, List.set_cons_zero, List.set_cons_succ])
     | (refine reg_read (v := ?_) rfl rfl ?_ ?_; rotate_left 1; (· (intro W hW; have hW' := Mods.cells hW; go_simp <;> with_reducible rfl)); simp only [Act.put, List.setIfInBounds_toArray, List.set_cons_zero, List.set_cons_succ])
     | (refine reg_off (by rfl) (by rfl) ?_; simp only [Act.put, List.setIfInBounds_toArray, List.set_cons_zero, List.set_cons_succ])
     | (refine reg_pure_on (v := ?_) rfl (by rfl) ?_ ?_; rotate_left 1; (· (intro W; go_simp <;> with_reducible rfl)); simp only [Act.put, List.setIfInBounds_toArray, List.set_cons_zero, List.set_cons_succ])
     | (refine reg_read_on (v := ?_) rfl (by rfl) ?_ ?_; rotate_left 1; (· (intro W hW; have hW' := Mods.cells hW; go_simp <;> with_reducible rfl)); simp only [Act.put, List.setIfInBounds_toArray, List.set_cons_zero, List.set_cons_succ])
  refine reg_ben (by rfl) (by rfl) (fun K hK => ?_)
  go_simp
  refine (clone_walk wb ta tc tar hok.out.lt (hpt2.out.2.2.keep (hma.trans hmb (fun _ _ h => h)) (fun _ h => h.elim)).1).mono ?_
  rintro e wc ⟨tna, tnc, rfl, hNt, hmc⟩
  have hmac : Mods Nil w2 wc := (hma.trans hmb (fun _ _ h => h)).trans hmc (fun _ _ h => h)
  refine hK _ _ hmac ?_
  clear hK K
  have hxc := hmac.keep hx2.out id
  have hpc := hmac.keep hp2.out id
  have cpc := cellOf hpc
  have fpc := frzOf hpc
  have lpc := ltOf hpc
  replace hxc := Lib.hid hxc
  clear cp lp
  try simp only [Act.put, List.setIfInBounds_toArray, List.set_cons_zero, List.set_cons_succ]
  repeat first
     | (refine reg_pure (v := ?_) rfl rfl ?_ ?_; rotate_left 1; (· (intro W; go_simp <;> with_reducible rfl)); simp only [Act.put, List.setIfInBounds_toArray, List.set_cons_zero, List.set_cons_succ])
     | (refine reg_read (v := ?_) rfl rfl ?_ ?_; rotate_left 1; (· (intro W hW; skip; go_simp <;> with_reducible rfl)); simp only [Act.put, List.setIfInBounds_toArray, List.set_cons_zero, List.set_cons_succ])
     | (refine reg_off (by rfl) (by rfl) ?_; simp only [Act.put, List.setIfInBounds_toArray, List.set_cons_zero, List.set_cons_succ])
     | (refine reg_pure_on (v := ?_) rfl (by rfl) ?_ ?_; rotate_left 1; (· (intro W; go_simp <;> with_reducible rfl)); simp only [Act.put, List.setIfInBounds_toArray, List.set_cons_zero, List.set_cons_succ])
     | (refine reg_read_on (v := ?_) rfl (by rfl) ?_ ?_; rotate_left 1; (· (intro W hW; skip; go_simp <;> with_reducible rfl)); simp only [Act.put, List.setIfInBounds_toArray, List.set_cons_zero, List.set_cons_succ])
  refine reg_eff (by rfl) (by rfl) (fun K hK => ?_)
  go_simp
  refine hK _ _ ?_
  clear hK K
  try simp only [Act.put, List.setIfInBounds_toArray, List.set_cons_zero, List.set_cons_succ]
  repeat first
     | (refine reg_pure (v := ?_) rfl rfl ?_ ?_; rotate_left 1; (· (intro W; go_simp <;> with_reducible rfl)); simp only [Act.put, List.setIfInBounds_toArray, List.set_cons_zero, List.set_cons_succ])
     | (refine reg_read (v := ?_) rfl rfl ?_ ?_; rotate_left 1; (· (intro W hW; skip; go_simp <;> with_reducible rfl)); simp only [Act.put, List.setIfInBounds_toArray, List.set_cons_zero, List.set_cons_succ])
     | (refine reg_off (by rfl) (by rfl) ?_; simp only [Act.put, List.setIfInBounds_toArray, List.set_cons_zero, List.set_cons_succ])
     | (refine reg_pure_on (v := ?_) rfl (by rfl) ?_ ?_; rotate_left 1; (· (intro W; go_simp <;> with_reducible rfl)); simp only [Act.put, List.setIfInBounds_toArray, List.set_cons_zero, List.set_cons_succ])
     | (refine reg_read_on (v := ?_) rfl (by rfl) ?_ ?_; rotate_left 1; (· (intro W hW; skip; go_simp <;> with_reducible rfl)); simp only [Act.put, List.setIfInBounds_toArray, List.set_cons_zero, List.set_cons_succ])
  refine reg_eff (by rfl) (by rfl) (fun K hK => ?_)
  go_simp
  refine hK _ _ ?_
  clear hK K
  try simp only [Act.put, List.setIfInBounds_toArray, List.set_cons_zero, List.set_cons_succ]
  repeat first
     | (refine reg_pure (v := ?_) rfl rfl ?_ ?_; rotate_left 1; (· (intro W; go_simp <;> with_reducible rfl)); simp only [Act.put, List.setIfInBounds_toArray, List.set_cons_zero, List.set_cons_succ])
     | (refine reg_read (v := ?_) rfl rfl ?_ ?_; rotate_left 1; (· (intro W hW; skip; go_simp <;> with_reducible rfl)); simp only [Act.put, List.setIfInBounds_toArray, List.set_cons_zero, List.set_cons_succ])
     | (refine reg_off (by rfl) (by rfl) ?_; simp only [Act.put, List.setIfInBounds_toArray, List.set_cons_zero, List.set_cons_succ])
     | (refine reg_pure_on (v := ?_) rfl (by rfl) ?_ ?_; rotate_left 1; (· (intro W; go_simp <;> with_reducible rfl)); simp only [Act.put, List.setIfInBounds_toArray, List.set_cons_zero, List.set_cons_succ])
     | (refine reg_read_on (v := ?_) rfl (by rfl) ?_ ?_; rotate_left 1; (· (intro W hW; skip; go_simp <;> with_reducible rfl)); simp only [Act.put, List.setIfInBounds_toArray, List.set_cons_zero, List.set_cons_succ])
  refine reg_eff (by rfl) (by rfl) (fun K hK => ?_)
  go_simp
  refine hK _ _ (reg_done (qnp_normal ?_))
  clear hK K
  have hp5 := heap_setCell_same (heap_setCell_same (heap_setCell_same hpc 3 (.slice ia isr.length ic)) 4 (.slice rna rep.length rnc)) 5 (.slice tna tar.length tnc)
  simp at hp5
  have hne : w.heap.size ≠ B := by have := hs1.out; omega
  have hx5 : (((wc.setCell ⟨B, 3, none⟩ (.slice ia isr.length ic)).setCell ⟨B, 4, none⟩ (.slice rna rep.length rnc)).setCell ⟨B, 5, none⟩ (.slice tna tar.length tnc)).heap[w.heap.size]? = _ :=
    (heap_setCell_ne (a := ⟨B, 5, none⟩) hne _).trans ((heap_setCell_ne (a := ⟨B, 4, none⟩) hne _).trans ((heap_setCell_ne (a := ⟨B, 3, none⟩) hne _).trans hxc.out))
  have hm5 : Mods (fun j => j = B ∨ j = w.heap.size) wc (((wc.setCell ⟨B, 3, none⟩ (.slice ia isr.length ic)).setCell ⟨B, 4, none⟩ (.slice rna rep.length rnc)).setCell ⟨B, 5, none⟩ (.slice tna tar.length tnc)) :=
    ((Mods.refl.setCell (a := ⟨B, 3, none⟩) _ (fun _ => .inl rfl)).setCell (a := ⟨B, 4, none⟩) _ (fun _ => .inl rfl)).setCell (a := ⟨B, 5, none⟩) _ (fun _ => .inl rfl)
  have hBlt : B < w2.heap.size := ltOf hp2.out
  have hm25 : Mods Nil w wc := hm2.out.trans hmac (fun _ _ h => h)
  have hNi' := (hNi.keep hmb (fun _ _ => id)).keep hmc (fun _ _ => id)
  have hNr' := hNr.keep hmc (fun _ _ => id)
  have hszab := hma.size
  have hszbc := hmb.size
  generalize ((wc.setCell ⟨B, 3, none⟩ (.slice ia isr.length ic)).setCell ⟨B, 4, none⟩ (.slice rna rep.length rnc)).setCell ⟨B, 5, none⟩ (.slice tna tar.length tnc) = w5 at *
  have c5 := cellOf hp5
  have l5 := ltOf hp5
  have x5 := cellOf hx5
  have fx5 := frzOf hx5
  have lx5 := ltOf hx5
  have q9 := heap_setCell_same (heap_setCell_same (heap_setCell_same (heap_setCell_same (heap_setCell_same (heap_setCell_same hx5 0 (.int .i64 lead)) 1 (.int .i64 ep)) 2 (.int .i64 ver)) 3 (.slice ia isr.length ic)) 4 (.slice rna rep.length rnc)) 5 (.slice tna tar.length tnc)
  simp at q9
  have hm9 : Mods (fun j => j = B ∨ j = w.heap.size) wc ((((((w5.setCell ⟨w.heap.size, 0, none⟩ (.int .i64 lead)).setCell ⟨w.heap.size, 1, none⟩ (.int .i64 ep)).setCell ⟨w.heap.size, 2, none⟩ (.int .i64 ver)).setCell ⟨w.heap.size, 3, none⟩ (.slice ia isr.length ic)).setCell ⟨w.heap.size, 4, none⟩ (.slice rna rep.length rnc)).setCell ⟨w.heap.size, 5, none⟩ (.slice tna tar.length tnc)) :=
    (((((hm5.setCell (a := ⟨w.heap.size, 0, none⟩) _ (fun _ => .inr rfl)).setCell (a := ⟨w.heap.size, 1, none⟩) _ (fun _ => .inr rfl)).setCell (a := ⟨w.heap.size, 2, none⟩) _ (fun _ => .inr rfl)).setCell (a := ⟨w.heap.size, 3, none⟩) _ (fun _ => .inr rfl)).setCell (a := ⟨w.heap.size, 4, none⟩) _ (fun _ => .inr rfl)).setCell (a := ⟨w.heap.size, 5, none⟩) _ (fun _ => .inr rfl)
  replace hm9 := Lib.hid hm9
  replace q9 := Lib.hid q9
  clear cpc fpc lpc hp5 hx5 hm5
  go_wp2
  have c9 := cellOf q9.out
  generalize (((((w5.setCell ⟨w.heap.size, 0, none⟩ (.int .i64 lead)).setCell ⟨w.heap.size, 1, none⟩ (.int .i64 ep)).setCell ⟨w.heap.size, 2, none⟩ (.int .i64 ver)).setCell ⟨w.heap.size, 3, none⟩ (.slice ia isr.length ic)).setCell ⟨w.heap.size, 4, none⟩ (.slice rna rep.length rnc)).setCell ⟨w.heap.size, 5, none⟩ (.slice tna tar.length tnc) = w9 at *
  have hsb : ∀ j, w2.heap.size ≤ j → ¬ (j = B ∨ j = w.heap.size) := fun j hj h => by
    have := hs1.out
    rcases h with h | h <;> omega
  have up : ∀ {b : Nat} {la' : Option Addr} {lc' n : Nat} {xs : List Value}, w2.heap.size ≤ b → NewSl b wc 3 1 la' n lc' xs → NewSl w.heap.size w9 3 1 la' n lc' xs := fun hb hN =>
    ⟨(hN.keep hm9.out (fun j hj => hsb j (Nat.le_trans hb hj))).1, fun a ha => by have := hN.2 a ha; have := hs1.out; omega⟩
  refine bodyPost_ret (v := .tuple #[.agg #[.int .i64 lead, .int .i64 ep, .int .i64 ver, .slice ia isr.length ic, .slice rna rep.length rnc, .slice tna tar.length tnc], .bool true]) (by simp [results, Try.results40, go_sem, c9]) rfl
    ⟨ia, ic, rna, rnc, tna, tnc, rfl, up (Nat.le_refl _) hNi', up hszab hNr', up (by omega) hNt, hm25.trans hm9.out (fun j hj h => ?_)⟩
  have := hs1.out
  rcases h with h | h <;> omega
end Go.Proofs.Ytnnoicacpcahfaa
