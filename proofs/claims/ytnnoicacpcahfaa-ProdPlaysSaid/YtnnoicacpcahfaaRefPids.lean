/- Reference of layer 9: Pids, walked. No condition. -/
import Derived.Test.YtnnoicacpcahfaaProdPids
import Derived.Test.YtnnoicacpcahfaaSliceOps
import Derived.Test.YtnnoicacpcahfaaProdWalk
namespace Go.Proofs.Ytnnoicacpcahfaa
open Go.RowKit

theorem elU64 : ElT Try.prog 88 29 1 8 := ⟨Try.underlying88, by kernel_rfl, by decide⟩

theorem insPid_ins (p : Int) : ∀ (xs : List Int) (k : Nat), k ≤ xs.length → (∀ (j : Nat) (x : Int), j < k → xs[j]? = some x → x < p) → (∀ x, xs[k]? = some x → p < x) → insPid p xs = xs.take k ++ [p] ++ xs.drop k
  | [], k, hk, _, _ => by simp at hk; subst hk; rfl
  | y :: r, 0, _, _, h => by
    have := h y (by simp)
    rw [insPid, if_neg (by omega), if_neg (by omega)]; rfl
  | y :: r, k + 1, hk, h1, h2 => by
    have := h1 0 y (by omega) (by simp)
    rw [insPid, if_pos this, insPid_ins p r k (by simpa using hk) (fun j x hj hx => h1 (j + 1) x (by omega) (by simpa using hx)) (fun x hx => h2 x (by simpa using hx))]
    simp
theorem insPid_same (p : Int) : ∀ (xs : List Int) (k : Nat), (∀ (j : Nat) (x : Int), j < k → xs[j]? = some x → x < p) → xs[k]? = some p → insPid p xs = xs
  | [], k, _, h => by simp at h
  | y :: r, 0, _, h => by
    simp at h; subst h
    rw [insPid, if_neg (by omega), if_pos rfl]
  | y :: r, k + 1, h1, h2 => by
    have := h1 0 y (by omega) (by simp)
    rw [insPid, if_pos this, insPid_same p r k (fun j x hj hx => h1 (j + 1) x (by omega) (by simpa using hx)) (by simpa using h2)]

def u64s (xs : List Int) : List Value := xs.map (Value.int .u64)
theorem u64s_one (xs : List Int) : ∀ u ∈ u64s xs, u.oneCell' = true := by
  intro u hu
  obtain ⟨x, _, rfl⟩ := List.mem_map.1 hu
  rfl

set_option maxRecDepth 100000 in
set_option maxHeartbeats 3200000 in
theorem refPids_walk (w : World) (bt : Nat) (la : Option Addr) (lc : Nat) (l : List Bt)
    (hb : w.heap[bt]? = some (.cells #[.slice la l.length lc] 27)) (hsl : Rd w 9 (.slice la l.length lc) l.length (l.flatMap Bt.cells)) (hlen : l.length * 72 ≤ 140737488355328) :
    Calls Try.prog 36 #[.pointer (some ⟨bt, 0, none⟩)] w
      fun e w' => ∃ la' lc', e = .returned (.slice la' (refPids l).length lc') ∧ NewSl w.heap.size w' 29 1 la' (refPids l).length lc' (u64s (refPids l)) ∧ Mods Nil w w' := by
  obtain ⟨R, hR⟩ : ∃ R, R = refPids l := ⟨_, rfl⟩
  rw [← hR]
  replace hR := Lib.hid hR
  go_enter Try.func36, Try.ntmps36
  go_wp2_with fail
  go_loopw [3, 4] (fun s3 s4 wr => ∃ (k : Nat) (xs : List Int) (ra : Option Addr) (rc : Nat), k ≤ l.length ∧ s4 = .int .i64 k ∧ Hid (xs = refPids (l.take k)) ∧ xs.length ≤ k ∧ s3 = .slice ra xs.length rc ∧ NewSl w.heap.size wr 29 1 ra xs.length rc (u64s xs) ∧ Mods Nil w wr) (fun _ s4 _ => l.length - (intOf s4).toNat)
  case atStart => exact ⟨0, [], none, 0, by omega, rfl, rfl, by simp, rfl, NewSl.nil, Mods.refl⟩
  case round =>
    obtain ⟨k, xs, ra, rc, hk, rfl, hxs, hxk, rfl, hns, hm⟩ := hrel
    have hbr := hm.keep hb id
    have cbr := cellOf hbr
    have lbr := ltOf hbr
    by_cases hlt : k < l.length
    · obtain ⟨g, off, rfl, hg, hcells⟩ := (rdKeep hsl hm (fun _ _ => id)).form (by omega) (by omega)
      obtain ⟨b, hbk⟩ : ∃ b, l[k]? = some b := ⟨_, List.getElem?_eq_getElem hlt⟩
      obtain ⟨c0, c1, c2, c3, c4, c5, c6, c7, c8⟩ := btCells hcells rfl hbk
      have hnext : Hid (insPid b.pid xs = refPids (l.take (k + 1))) := by rw [hxs.out]; exact (refPids_take l k b hbk).symm
      clear hcells hbk c0 c1 c3 c4 c5 c6 c7 c8 hR hxs
      generalize b.pid = p at *
      have i0 : (0 : Int) ≤ (k : Int) := by omega
      have i1 : (k : Int) < (l.length : Int) := by omega
      go_wp2_with fail
      clear cbr lbr
      obtain ⟨wo, hwo⟩ : ∃ wo, wo = wr := ⟨_, rfl⟩
      rw [← hwo] at hns hm hbr c2 hg ⊢
      clear hwo
      go_loopw [5] (fun s5 wr => ∃ n : Nat, n ≤ xs.length ∧ s5 = .int .i64 n ∧ Mods Nil wo wr ∧ Hid (∀ (j : Nat) (x : Int), j < n → xs[j]? = some x → x < p)) (fun s5 _ => xs.length - (intOf s5).toNat)
      case atStart => exact ⟨0, by omega, rfl, Mods.refl, by intro j x h; omega⟩
      case round =>
        obtain ⟨n, hn, rfl, hmn, hq⟩ := hrel
        have hbn := hmn.keep hbr id
        have cbn := cellOf hbn
        have lbn := ltOf hbn
        have cpn : wr.cell? ⟨g, off + k * 9 + 2, none⟩ = some (.int .u64 p) := by rw [hmn.cell hg id]; exact c2
        have lgn := hmn.lt hg
        have hnsn := hns.keep hmn (fun _ _ => id)
        have hmw : Mods Nil w wr := hm.trans hmn (fun _ _ h => h)
        clear c2 hg
        by_cases hnl : n < xs.length
        · obtain ⟨g2, off2, rfl, hg2, hcells2⟩ := hnsn.1.rd.form (by omega) (by omega)
          obtain ⟨x, hx⟩ : ∃ x, xs[n]? = some x := ⟨_, List.getElem?_eq_getElem hnl⟩
          have cx : wr.cell? ⟨g2, off2 + n, none⟩ = some (.int .u64 x) := by
            rw [hcells2 n (by omega), u64s, List.getElem?_map, hx]; rfl
          clear hcells2
          replace hx := Lib.hid hx
          have j0 : (0 : Int) ≤ (n : Int) := by omega
          have j1 : (n : Int) < (xs.length : Int) := by omega
          by_cases hxp : x < p
          · have hxp2 := Lib.hid hxp
            go_upto_region 6 with fail
            refine wp_region_plan [(.pure, 0), (.pure, 1), (.pure, 2), (.pure, 3), (.pure, 4), (.pure, 5), (.pure, 6), (.pure, 7), (.read, 8), (.pure, 9), (.pure, 10), (.pure, 11), (.read, 12), (.pure, 13), (.pure, 14), (.pure, 15), (.read, 16), (.pure, 17), (.pure, 18)] 19 (fun W => Mods Nil (wr) W) mixed (by kernel_rfl) (by kernel_rfl) (by repeat (first | exact Mods.refl | apply Mods.drew)) ?_
            repeat first
               | (refine reg_pure (v := ?_) rfl rfl ?_ ?_; rotate_left 1; (· (intro W; go_simp <;> with_reducible rfl)); simp only [Act.put, List.setIfInBounds_toArray, List.set_cons_zero, List.set_cons_succ])
               | (refine reg_read (v := ?_) rfl rfl ?_ ?_; rotate_left 1; (· (intro W hW; have hW' := Mods.cells hW; go_simp <;> with_reducible rfl)); simp only [Act.put, List.setIfInBounds_toArray, List.set_cons_zero, List.set_cons_succ])
               | (refine reg_off (by rfl) (by rfl) ?_; simp only [Act.put, List.setIfInBounds_toArray, List.set_cons_zero, List.set_cons_succ])
               | (refine reg_pure_on (v := ?_) rfl (by rfl) ?_ ?_; rotate_left 1; (· (intro W; go_simp <;> with_reducible rfl)); simp only [Act.put, List.setIfInBounds_toArray, List.set_cons_zero, List.set_cons_succ])
               | (refine reg_read_on (v := ?_) rfl (by rfl) ?_ ?_; rotate_left 1; (· (intro W hW; have hW' := Mods.cells hW; go_simp <;> with_reducible rfl)); simp only [Act.put, List.setIfInBounds_toArray, List.set_cons_zero, List.set_cons_succ])
            refine reg_done (qnp_normal ?_)
            clear cbn lbn cpn lgn cx hg2
            go_wp2
            refine ⟨⟨n + 1, by omega, by go_num, hmn.drew, ?_⟩, by simp [intOf]; omega⟩
            show _
            intro j y hj hy
            by_cases hjn : j < n
            · exact hq.out j y hjn hy
            · obtain rfl : j = n := by omega
              rw [hx.out] at hy
              cases hy
              exact hxp2.out
          · by_cases hxe : x = p
            · subst hxe
              have hfin : insPid x xs = xs := insPid_same x xs n hq.out hx.out
              have hfin2 : Hid (xs = refPids (l.take (k + 1))) := by rw [← hnext.out, hfin]; exact rfl
              have hfl : xs.length ≤ k + 1 := by omega
              clear hfin hnext hq
              go_upto_region 6 with fail
              refine wp_region_plan [(.pure, 0), (.pure, 1), (.pure, 2), (.pure, 3), (.pure, 4), (.pure, 5), (.pure, 6), (.pure, 7), (.read, 8), (.pure, 9), (.pure, 10), (.pure, 11), (.read, 12), (.pure, 13), (.pure, 14), (.pure, 15), (.read, 16), (.pure, 17), (.pure, 18)] 19 (fun W => Mods Nil (wr) W) mixed (by kernel_rfl) (by kernel_rfl) (by repeat (first | exact Mods.refl | apply Mods.drew)) ?_
              repeat first
                 | (refine reg_pure (v := ?_) rfl rfl ?_ ?_; rotate_left 1; (· (intro W; go_simp <;> with_reducible rfl)); simp only [Act.put, List.setIfInBounds_toArray, List.set_cons_zero, List.set_cons_succ])
                 | (refine reg_read (v := ?_) rfl rfl ?_ ?_; rotate_left 1; (· (intro W hW; have hW' := Mods.cells hW; go_simp <;> with_reducible rfl)); simp only [Act.put, List.setIfInBounds_toArray, List.set_cons_zero, List.set_cons_succ])
                 | (refine reg_off (by rfl) (by rfl) ?_; simp only [Act.put, List.setIfInBounds_toArray, List.set_cons_zero, List.set_cons_succ])
                 | (refine reg_pure_on (v := ?_) rfl (by rfl) ?_ ?_; rotate_left 1; (· (intro W; go_simp <;> with_reducible rfl)); simp only [Act.put, List.setIfInBounds_toArray, List.set_cons_zero, List.set_cons_succ])
                 | (refine reg_read_on (v := ?_) rfl (by rfl) ?_ ?_; rotate_left 1; (· (intro W hW; have hW' := Mods.cells hW; go_simp <;> with_reducible rfl)); simp only [Act.put, List.setIfInBounds_toArray, List.set_cons_zero, List.set_cons_succ])
              refine reg_done (qnp_normal ?_)
              go_upto_region 8 with fail
              refine wp_region_plan [(.pure, 0), (.pure, 1), (.pure, 2), (.pure, 3), (.pure, 4), (.pure, 5), (.pure, 6), (.pure, 7), (.read, 8), (.pure, 9), (.pure, 10), (.pure, 11), (.read, 12), (.pure, 13), (.pure, 14), (.pure, 15), (.read, 16), (.pure, 17), (.pure, 18)] 19 (fun W => Mods Nil (wr) W) mixed (by kernel_rfl) (by kernel_rfl) (by repeat (first | exact Mods.refl | apply Mods.drew)) ?_
              repeat first
                 | (refine reg_pure (v := ?_) rfl rfl ?_ ?_; rotate_left 1; (· (intro W; go_simp <;> with_reducible rfl)); simp only [Act.put, List.setIfInBounds_toArray, List.set_cons_zero, List.set_cons_succ])
                 | (refine reg_read (v := ?_) rfl rfl ?_ ?_; rotate_left 1; (· (intro W hW; have hW' := Mods.cells hW; go_simp <;> with_reducible rfl)); simp only [Act.put, List.setIfInBounds_toArray, List.set_cons_zero, List.set_cons_succ])
                 | (refine reg_off (by rfl) (by rfl) ?_; simp only [Act.put, List.setIfInBounds_toArray, List.set_cons_zero, List.set_cons_succ])
                 | (refine reg_pure_on (v := ?_) rfl (by rfl) ?_ ?_; rotate_left 1; (· (intro W; go_simp <;> with_reducible rfl)); simp only [Act.put, List.setIfInBounds_toArray, List.set_cons_zero, List.set_cons_succ])
                 | (refine reg_read_on (v := ?_) rfl (by rfl) ?_ ?_; rotate_left 1; (· (intro W hW; have hW' := Mods.cells hW; go_simp <;> with_reducible rfl)); simp only [Act.put, List.setIfInBounds_toArray, List.set_cons_zero, List.set_cons_succ])
              refine reg_done (qnp_normal ?_)
              clear cbn lbn cpn lgn cx hg2
              go_wp2
              exact ⟨⟨k + 1, xs, _, rc, by omega, by go_num, hfin2.out, hfl, rfl, hnsn, hmw.drew.drew⟩, by simp [intOf]; omega⟩
            · have hins : Hid (insPid p xs = xs.take n ++ [p] ++ xs.drop n) := insPid_ins p xs n hn hq.out (fun y hy => by rw [hx.out] at hy; cases hy; omega)
              have hge : p ≤ x := by omega
              have hne : (x == p) = false := by simp [hxe]
              clear hxe hxp
              go_upto_region 6 with fail
              refine wp_region_plan [(.pure, 0), (.pure, 1), (.pure, 2), (.pure, 3), (.pure, 4), (.pure, 5), (.pure, 6), (.pure, 7), (.read, 8), (.pure, 9), (.pure, 10), (.pure, 11), (.read, 12), (.pure, 13), (.pure, 14), (.pure, 15), (.read, 16), (.pure, 17), (.pure, 18)] 19 (fun W => Mods Nil (wr) W) mixed (by kernel_rfl) (by kernel_rfl) (by repeat (first | exact Mods.refl | apply Mods.drew)) ?_
              repeat first
                 | (refine reg_pure (v := ?_) rfl rfl ?_ ?_; rotate_left 1; (· (intro W; go_simp <;> with_reducible rfl)); simp only [Act.put, List.setIfInBounds_toArray, List.set_cons_zero, List.set_cons_succ])
                 | (refine reg_read (v := ?_) rfl rfl ?_ ?_; rotate_left 1; (· (intro W hW; have hW' := Mods.cells hW; go_simp <;> with_reducible rfl)); simp only [Act.put, List.setIfInBounds_toArray, List.set_cons_zero, List.set_cons_succ])
                 | (refine reg_off (by rfl) (by rfl) ?_; simp only [Act.put, List.setIfInBounds_toArray, List.set_cons_zero, List.set_cons_succ])
                 | (refine reg_pure_on (v := ?_) rfl (by rfl) ?_ ?_; rotate_left 1; (· (intro W; go_simp <;> with_reducible rfl)); simp only [Act.put, List.setIfInBounds_toArray, List.set_cons_zero, List.set_cons_succ])
                 | (refine reg_read_on (v := ?_) rfl (by rfl) ?_ ?_; rotate_left 1; (· (intro W hW; have hW' := Mods.cells hW; go_simp <;> with_reducible rfl)); simp only [Act.put, List.setIfInBounds_toArray, List.set_cons_zero, List.set_cons_succ])
              refine reg_done (qnp_normal ?_)
              go_upto_region 8 with fail
              refine wp_region_plan [(.pure, 0), (.pure, 1), (.pure, 2), (.pure, 3), (.pure, 4), (.pure, 5), (.pure, 6), (.pure, 7), (.read, 8), (.pure, 9), (.pure, 10), (.pure, 11), (.read, 12), (.pure, 13), (.pure, 14), (.pure, 15), (.read, 16), (.pure, 17), (.pure, 18)] 19 (fun W => Mods Nil (wr) W) mixed (by kernel_rfl) (by kernel_rfl) (by repeat (first | exact Mods.refl | apply Mods.drew)) ?_
              repeat first
                 | (refine reg_pure (v := ?_) rfl rfl ?_ ?_; rotate_left 1; (· (intro W; go_simp <;> with_reducible rfl)); simp only [Act.put, List.setIfInBounds_toArray, List.set_cons_zero, List.set_cons_succ])
                 | (refine reg_read (v := ?_) rfl rfl ?_ ?_; rotate_left 1; (· (intro W hW; have hW' := Mods.cells hW; go_simp <;> with_reducible rfl)); simp only [Act.put, List.setIfInBounds_toArray, List.set_cons_zero, List.set_cons_succ])
                 | (refine reg_off (by rfl) (by rfl) ?_; simp only [Act.put, List.setIfInBounds_toArray, List.set_cons_zero, List.set_cons_succ])
                 | (refine reg_pure_on (v := ?_) rfl (by rfl) ?_ ?_; rotate_left 1; (· (intro W; go_simp <;> with_reducible rfl)); simp only [Act.put, List.setIfInBounds_toArray, List.set_cons_zero, List.set_cons_succ])
                 | (refine reg_read_on (v := ?_) rfl (by rfl) ?_ ?_; rotate_left 1; (· (intro W hW; have hW' := Mods.cells hW; go_simp <;> with_reducible rfl)); simp only [Act.put, List.setIfInBounds_toArray, List.set_cons_zero, List.set_cons_succ])
              refine reg_done (qnp_normal ?_)
              clear cx hg2 hge hne
              have hd : Hid (xs.take n ++ [p] ++ xs.drop n = refPids (l.take (k + 1))) := by rw [← hins.out]; exact hnext.out
              have hdl : (xs.take n ++ [p] ++ xs.drop n).length = xs.length + 1 := by simp; omega
              have hm9 : Mods Nil w wr.drew.drew := hmw.drew.drew
              have hns9 : NewSl w.heap.size wr.drew.drew 29 1 _ xs.length rc (u64s xs) := hnsn
              have cp9 : wr.drew.drew.cell? ⟨g, off + k * 9 + 2, none⟩ = some (.int .u64 p) := cpn
              have lg9 : g < wr.drew.drew.heap.size := lgn
              have hb9 := hm9.keep hb id
              clear hins hnext hq cbn lbn cpn lgn hnsn hmw hmn hbn hm hns
              generalize wr.drew.drew = w9 at *
              have hcap := hns9.1.cap
              have hsz9 := hm9.size
              go_upto_region 10 with fail
              apply wp_region_lit
              iterate 9 go_step
              refine wpList_slice_hi rfl _ _ rfl elU64 rfl rfl (by omega) (by omega) ?_
              go_frame
              refine wpList_append_sl (n := 0) (xs := []) (m := n) (news := (u64s xs).take (n * 1)) (by rfl) (.tmp 56) (.tmp 59) (by rfl) elU64 (by rfl) (Sl.nil _ _ _) (by rfl) (hns9.1.hi n hn) (fun u hu => u64s_one xs u (List.mem_of_mem_take hu)) (by simp only [maxLen]; omega) (by omega) ?_
              intro v1 w1 h1 hg1 ho1 _
              obtain ⟨a1, d1, rfl, hns1, hm1⟩ := NewSl.app (W := w9) (w := w9) (B := w9.heap.size) NewSl.nil (Nat.le_refl _) h1 hg1 ho1 Mods.refl (Nat.le_refl _)
              have hb1 := hm1.keep hb9 id
              have cb1 := cellOf hb1
              have lb1 := ltOf hb1
              have cp1 : w1.cell? ⟨g, off + k * 9 + 2, none⟩ = some (.int .u64 p) := by rw [hm1.cell lg9 id]; exact cp9
              have lg1 := hm1.lt lg9
              have hsz1 := hm1.size
              go_frame
              simp only [Nat.zero_add, List.nil_append, Nat.mul_one] at hns1
              rw [Nat.zero_add]
              go_upto_region 11 with fail
              apply wp_region_lit
              repeat ((fail_if_success at_builtin); go_step)
              have hnsB := hns1.keep (Mods.refl.alloc (.cells #[.int .u64 p] 29)) (fun _ _ => id)
              refine wpList_append_sl (n := n) (xs := (u64s xs).take n) (m := 1) (news := [.int .u64 p]) (by rfl) (.tmp 61) (.tmp 70) (by rfl) elU64 (by rfl) hnsB.1 (by rfl) (Rd.blk (cs := [.int .u64 p]) (heap_new' _ rfl) rfl) (by simp [Value.oneCell']) (by simp only [maxLen]; omega) (by omega) ?_
              intro v2 w2 h2 hg2 ho2 _
              obtain ⟨a2, d2, rfl, hns2, hm2⟩ := NewSl.app (W := w9) hnsB (by simp; omega) h2 hg2 ho2 (hm1.alloc _) (Nat.le_refl _)
              go_frame
              clear hnsB hns1 cb1 lb1 cp1 lg1 hb1
              go_upto_region 12 with fail
              apply wp_region_lit
              iterate 9 go_step
              refine wpList_slice_lo rfl _ _ rfl elU64 rfl rfl (by omega) (by omega) ?_
              go_frame
              refine wpList_append_sl (n := n + 1) (xs := (u64s xs).take n ++ [.int .u64 p]) (m := xs.length - n) (news := (u64s xs).drop (n * 1)) (by rfl) (.tmp 72) (.tmp 75) (by rfl) elU64 (by rfl) hns2.1 (by rfl) ((hns9.keep hm2 (fun _ _ => id)).1.lo n hn) (fun u hu => u64s_one xs u (List.mem_of_mem_drop hu)) (by simp only [maxLen]; omega) (by omega) ?_
              intro v3 w3 h3 hg3 ho3 _
              obtain ⟨a3, d3, rfl, hns3, hm3⟩ := NewSl.app (W := w9) hns2 (by have := hm2.size; omega) h3 hg3 ho3 hm2 (Nat.le_refl _)
              go_frame
              have e : u64s (xs.take n ++ [p] ++ xs.drop n) = (u64s xs).take n ++ [.int .u64 p] ++ (u64s xs).drop (n * 1) := by simp [u64s, List.map_take, List.map_drop]
              have hfin : NewSl w.heap.size w3 29 1 a3 (xs.take n ++ [p] ++ xs.drop n).length d3 (u64s (xs.take n ++ [p] ++ xs.drop n)) := by
                rw [hdl, show xs.length + 1 = n + 1 + (xs.length - n) by omega, e]
                exact ⟨hns3.1, fun a ha => Nat.le_trans hsz9 (hns3.2 a ha)⟩
              have hsl3 : Hid ((Value.slice a3 (n + 1 + (xs.length - n)) d3) = .slice a3 (xs.take n ++ [p] ++ xs.drop n).length d3) := by
                show _ = _
                rw [hdl, show xs.length + 1 = n + 1 + (xs.length - n) by omega]
              have hmf : Mods Nil w w3 := hm9.trans hm3 (fun _ _ h => h)
              clear e hns3 hm3 hns2 hm2 hm1 hns9 hm9
              replace hdl := Lib.hid hdl
              go_wp2
              exact ⟨⟨k + 1, xs.take n ++ [p] ++ xs.drop n, a3, d3, by omega, by go_num, hd.out, by rw [hdl.out]; omega, hsl3.out, hfin, hmf⟩, by simp [intOf]; omega⟩
        · have hins : Hid (insPid p xs = xs.take n ++ [p] ++ xs.drop n) := insPid_ins p xs n hn hq.out (fun y hy => by have := (List.getElem?_eq_some_iff.1 hy).1; omega)
          have hnl2 : decide (n < xs.length) = false := by simp; omega
          clear hnl
          go_upto_region 6 with fail
          refine wp_region_plan [(.pure, 0), (.pure, 1), (.pure, 2), (.pure, 3), (.pure, 4), (.pure, 5), (.pure, 6), (.pure, 7), (.read, 8), (.pure, 9), (.pure, 10), (.pure, 11), (.read, 12), (.pure, 13), (.pure, 14), (.pure, 15), (.read, 16), (.pure, 17), (.pure, 18)] 19 (fun W => Mods Nil (wr) W) mixed (by kernel_rfl) (by kernel_rfl) (by repeat (first | exact Mods.refl | apply Mods.drew)) ?_
          repeat first
             | (refine reg_pure (v := ?_) rfl rfl ?_ ?_; rotate_left 1; (· (intro W; go_simp <;> with_reducible rfl)); simp only [Act.put, List.setIfInBounds_toArray, List.set_cons_zero, List.set_cons_succ])
             | (refine reg_read (v := ?_) rfl rfl ?_ ?_; rotate_left 1; (· (intro W hW; have hW' := Mods.cells hW; go_simp <;> with_reducible rfl)); simp only [Act.put, List.setIfInBounds_toArray, List.set_cons_zero, List.set_cons_succ])
             | (refine reg_off (by rfl) (by rfl) ?_; simp only [Act.put, List.setIfInBounds_toArray, List.set_cons_zero, List.set_cons_succ])
             | (refine reg_pure_on (v := ?_) rfl (by rfl) ?_ ?_; rotate_left 1; (· (intro W; go_simp <;> with_reducible rfl)); simp only [Act.put, List.setIfInBounds_toArray, List.set_cons_zero, List.set_cons_succ])
             | (refine reg_read_on (v := ?_) rfl (by rfl) ?_ ?_; rotate_left 1; (· (intro W hW; have hW' := Mods.cells hW; go_simp <;> with_reducible rfl)); simp only [Act.put, List.setIfInBounds_toArray, List.set_cons_zero, List.set_cons_succ])
          refine reg_done (qnp_normal ?_)
          go_upto_region 8 with fail
          refine wp_region_plan [(.pure, 0), (.pure, 1), (.pure, 2), (.pure, 3), (.pure, 4), (.pure, 5), (.pure, 6), (.pure, 7), (.read, 8), (.pure, 9), (.pure, 10), (.pure, 11), (.read, 12), (.pure, 13), (.pure, 14), (.pure, 15), (.read, 16), (.pure, 17), (.pure, 18)] 19 (fun W => Mods Nil (wr) W) mixed (by kernel_rfl) (by kernel_rfl) (by repeat (first | exact Mods.refl | apply Mods.drew)) ?_
          repeat first
             | (refine reg_pure (v := ?_) rfl rfl ?_ ?_; rotate_left 1; (· (intro W; go_simp <;> with_reducible rfl)); simp only [Act.put, List.setIfInBounds_toArray, List.set_cons_zero, List.set_cons_succ])
             | (refine reg_read (v := ?_) rfl rfl ?_ ?_; rotate_left 1; (· (intro W hW; have hW' := Mods.cells hW; go_simp <;> with_reducible rfl)); simp only [Act.put, List.setIfInBounds_toArray, List.set_cons_zero, List.set_cons_succ])
             | (refine reg_off (by rfl) (by rfl) ?_; simp only [Act.put, List.setIfInBounds_toArray, List.set_cons_zero, List.set_cons_succ])
             | (refine reg_pure_on (v := ?_) rfl (by rfl) ?_ ?_; rotate_left 1; (· (intro W; go_simp <;> with_reducible rfl)); simp only [Act.put, List.setIfInBounds_toArray, List.set_cons_zero, List.set_cons_succ])
             | (refine reg_read_on (v := ?_) rfl (by rfl) ?_ ?_; rotate_left 1; (· (intro W hW; have hW' := Mods.cells hW; go_simp <;> with_reducible rfl)); simp only [Act.put, List.setIfInBounds_toArray, List.set_cons_zero, List.set_cons_succ])
          refine reg_done (qnp_normal ?_)
          have hd : Hid (xs.take n ++ [p] ++ xs.drop n = refPids (l.take (k + 1))) := by rw [← hins.out]; exact hnext.out
          have hdl : (xs.take n ++ [p] ++ xs.drop n).length = xs.length + 1 := by simp; omega
          have hm9 : Mods Nil w wr.drew.drew := hmw.drew.drew
          have hns9 : NewSl w.heap.size wr.drew.drew 29 1 _ xs.length rc (u64s xs) := hnsn
          have cp9 : wr.drew.drew.cell? ⟨g, off + k * 9 + 2, none⟩ = some (.int .u64 p) := cpn
          have lg9 : g < wr.drew.drew.heap.size := lgn
          have hb9 := hm9.keep hb id
          clear hins hnext hq cbn lbn cpn lgn hnsn hmw hmn hbn hm hns
          generalize wr.drew.drew = w9 at *
          have hcap := hns9.1.cap
          have hsz9 := hm9.size
          go_upto_region 10 with fail
          apply wp_region_lit
          iterate 9 go_step
          refine wpList_slice_hi rfl _ _ rfl elU64 rfl rfl (by omega) (by omega) ?_
          go_frame
          refine wpList_append_sl (n := 0) (xs := []) (m := n) (news := (u64s xs).take (n * 1)) (by rfl) (.tmp 56) (.tmp 59) (by rfl) elU64 (by rfl) (Sl.nil _ _ _) (by rfl) (hns9.1.hi n hn) (fun u hu => u64s_one xs u (List.mem_of_mem_take hu)) (by simp only [maxLen]; omega) (by omega) ?_
          intro v1 w1 h1 hg1 ho1 _
          obtain ⟨a1, d1, rfl, hns1, hm1⟩ := NewSl.app (W := w9) (w := w9) (B := w9.heap.size) NewSl.nil (Nat.le_refl _) h1 hg1 ho1 Mods.refl (Nat.le_refl _)
          have hb1 := hm1.keep hb9 id
          have cb1 := cellOf hb1
          have lb1 := ltOf hb1
          have cp1 : w1.cell? ⟨g, off + k * 9 + 2, none⟩ = some (.int .u64 p) := by rw [hm1.cell lg9 id]; exact cp9
          have lg1 := hm1.lt lg9
          have hsz1 := hm1.size
          go_frame
          simp only [Nat.zero_add, List.nil_append, Nat.mul_one] at hns1
          rw [Nat.zero_add]
          go_upto_region 11 with fail
          apply wp_region_lit
          repeat ((fail_if_success at_builtin); go_step)
          have hnsB := hns1.keep (Mods.refl.alloc (.cells #[.int .u64 p] 29)) (fun _ _ => id)
          refine wpList_append_sl (n := n) (xs := (u64s xs).take n) (m := 1) (news := [.int .u64 p]) (by rfl) (.tmp 61) (.tmp 70) (by rfl) elU64 (by rfl) hnsB.1 (by rfl) (Rd.blk (cs := [.int .u64 p]) (heap_new' _ rfl) rfl) (by simp [Value.oneCell']) (by simp only [maxLen]; omega) (by omega) ?_
          intro v2 w2 h2 hg2 ho2 _
          obtain ⟨a2, d2, rfl, hns2, hm2⟩ := NewSl.app (W := w9) hnsB (by simp; omega) h2 hg2 ho2 (hm1.alloc _) (Nat.le_refl _)
          go_frame
          clear hnsB hns1 cb1 lb1 cp1 lg1 hb1
          go_upto_region 12 with fail
          apply wp_region_lit
          iterate 9 go_step
          refine wpList_slice_lo rfl _ _ rfl elU64 rfl rfl (by omega) (by omega) ?_
          go_frame
          refine wpList_append_sl (n := n + 1) (xs := (u64s xs).take n ++ [.int .u64 p]) (m := xs.length - n) (news := (u64s xs).drop (n * 1)) (by rfl) (.tmp 72) (.tmp 75) (by rfl) elU64 (by rfl) hns2.1 (by rfl) ((hns9.keep hm2 (fun _ _ => id)).1.lo n hn) (fun u hu => u64s_one xs u (List.mem_of_mem_drop hu)) (by simp only [maxLen]; omega) (by omega) ?_
          intro v3 w3 h3 hg3 ho3 _
          obtain ⟨a3, d3, rfl, hns3, hm3⟩ := NewSl.app (W := w9) hns2 (by have := hm2.size; omega) h3 hg3 ho3 hm2 (Nat.le_refl _)
          go_frame
          have e : u64s (xs.take n ++ [p] ++ xs.drop n) = (u64s xs).take n ++ [.int .u64 p] ++ (u64s xs).drop (n * 1) := by simp [u64s, List.map_take, List.map_drop]
          have hfin : NewSl w.heap.size w3 29 1 a3 (xs.take n ++ [p] ++ xs.drop n).length d3 (u64s (xs.take n ++ [p] ++ xs.drop n)) := by
            rw [hdl, show xs.length + 1 = n + 1 + (xs.length - n) by omega, e]
            exact ⟨hns3.1, fun a ha => Nat.le_trans hsz9 (hns3.2 a ha)⟩
          have hsl3 : Hid ((Value.slice a3 (n + 1 + (xs.length - n)) d3) = .slice a3 (xs.take n ++ [p] ++ xs.drop n).length d3) := by
            show _ = _
            rw [hdl, show xs.length + 1 = n + 1 + (xs.length - n) by omega]
          have hmf : Mods Nil w w3 := hm9.trans hm3 (fun _ _ h => h)
          clear e hns3 hm3 hns2 hm2 hm1 hns9 hm9
          replace hdl := Lib.hid hdl
          go_wp2
          exact ⟨⟨k + 1, xs.take n ++ [p] ++ xs.drop n, a3, d3, by omega, by go_num, hd.out, by rw [hdl.out]; omega, hsl3.out, hfin, hmf⟩, by simp [intOf]; omega⟩
    · obtain rfl : k = l.length := by omega
      have e1 : R = xs := by rw [hR.out, hxs.out, List.take_length]
      subst e1
      clear hR hxs hlt
      go_wp2
      go_ret
      exact ⟨ra, rc, rfl, hns, hm⟩
end Go.Proofs.Ytnnoicacpcahfaa
