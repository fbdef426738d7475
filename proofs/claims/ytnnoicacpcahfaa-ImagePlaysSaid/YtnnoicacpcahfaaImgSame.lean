/- The law's 'same' of the image, walked. No condition. -/
import Derived.Test.YtnnoicacpcahfaaImgLaw
import Derived.Test.YtnnoicacpcahfaaRimRep
import Derived.Test.YtnnoicacpcahfaaImgPart
namespace Go.Proofs.Ytnnoicacpcahfaa
open Go.RowKit

/-- A row of ints that may be written. -/
def Wr (w : World) (la : Option Addr) (n : Nat) : Prop := n = 0 ∨ ∃ g off cur, la = some ⟨g, off, none⟩ ∧ w.heap[g]? = some (.cells cur 3 (0, 0)) ∧ off + n ≤ cur.size
theorem Sl.wr {w : World} {la : Option Addr} {n c : Nat} {xs : List Value} (h : Sl w 3 1 (.slice la n c) n xs) : Wr w la n := by
  rcases h.2 with ⟨_, h0⟩ | ⟨g, off, cap, cur, hv, hg, h1, h2, h3, h4⟩
  · exact .inl h0
  · simp only [Value.slice.injEq] at hv
    exact .inr ⟨g, off, cur, hv.1, hg, by omega⟩
theorem Wr.keep {w w' : World} {la : Option Addr} {n : Nat} (h : Wr w la n) (hm : Mods Nil w w') : Wr w' la n := by
  rcases h with h | ⟨g, off, cur, h1, h2, h3⟩
  · exact .inl h
  · exact .inr ⟨g, off, cur, h1, hm.keep h2 id, h3⟩
theorem Wr.set {w : World} {la : Option Addr} {n : Nat} (h : Wr w la n) (g o : Nat) (v : Value) : Wr (w.setCell ⟨g, o, none⟩ v) la n := by
  rcases h with h | ⟨g', off, cur, h1, h2, h3⟩
  · exact .inl h
  · by_cases hg : g' = g
    · subst hg
      exact .inr ⟨g', off, _, h1, heap_setCell_same h2 o v, by simpa using h3⟩
    · exact .inr ⟨g', off, cur, h1, (heap_setCell_ne (a := ⟨g, o, none⟩) hg v).trans h2, h3⟩

set_option maxRecDepth 100000 in
set_option maxHeartbeats 6400000 in
theorem same13_walk (w : World) (d : Ad) (rd : RAd) (nds : List Nd) (L L' : List Pt) (next count : Int) (h : Img w d nds L next count) (hr : RImg w rd nds L' next count) (hL : L'.map Pt.pl = L.map Pt.pl) (hnb : nds.length ≤ 1000) (hpb : L.length ≤ 1000) :
    Calls Try.prog 25 #[.pointer (some ⟨d.b, 0, none⟩), .pointer (some ⟨rd.b, 0, none⟩)] w
      fun e w' => e = .returned (.bool true) ∧ Mods Nil w w' := by
  have hlen : L'.length = L.length := by have := congrArg List.length hL; simpa using this
  have n1 := h.2.2.2.2.2.1
  have n2 := h.2.2.2.2.2.2
  have hwr : IntKind.u64.wrap (1001 - next) = 1001 - next := by simp [IntKind.wrap, IntKind.bits, IntKind.signed]; omega
  have hco := counts_walk w d nds L next count h
  replace h := Lib.hid h
  replace hr := Lib.hid hr
  replace hL := Lib.hid hL
  replace hlen := Lib.hid hlen
  go_enter Try.func25, Try.ntmps25
  go_wp2_with (go_at_call 54; (with_reducible refine hco.mono ?_); rintro e w1 ⟨rfl, hm1⟩)
  clear hco
  (with_reducible refine (pids_walk w1 d nds L next count (h.out.keepNil hm1)).mono ?_)
  rintro e w2 ⟨rfl, hm2⟩
  have hm02 := hm1.trans hm2 (fun _ _ h => h)
  have hr2 := hr.out.keepNil hm02
  have cb := cellOf hr2.box
  have lb := ltOf hr2.box
  rw [hlen.out] at cb
  clear hm1 hm2 hr2
  replace hm02 := Lib.hid hm02
  go_wp2_with fail
  clear cb lb
  go_loopw [10] (fun s10 wr => ∃ z : Int, -1 ≤ z ∧ z ≤ nds.length + 1 ∧ s10 = .int .i64 z ∧ Hid (Mods Nil w wr)) (fun s10 _ => (nds.length + 1 - intOf s10).toNat)
  case atStart => exact ⟨-1, by omega, by omega, rfl, hm02⟩
  case round =>
    clear hm02 w1 w2
    obtain ⟨z, hz0, hz1, rfl, hm⟩ := hrel
    by_cases hzl : z ≤ nds.length
    · have hI := h.out.keepNil hm.out
      by_cases hzin : 0 ≤ z ∧ z < nds.length
      · obtain ⟨hz2, hz3⟩ := hzin
        obtain ⟨k, rfl⟩ : ∃ k : Nat, z = (k : Int) := ⟨z.toNat, by omega⟩
        obtain ⟨x, hx⟩ : ∃ x, nds[k]? = some x := ⟨_, List.getElem?_eq_getElem (by omega)⟩
        have hno := node_walk wr d nds L next count k x hI hx
        have hb0 : ((k : Int) == (nds.length : Int)) = false := by simp; omega
        clear hI
        replace hx := Lib.hid hx
        go_upto_region 9 with (go_at_call 56; (with_reducible refine hno.mono ?_); rintro e w3 ⟨rfl, hm3⟩)
        clear hno
        have hm03 := Lib.hid (hm.out.trans hm3 (fun _ _ h => h))
        have hr3 := hr.out.keepNil hm03.out
        have cb := cellOf hr3.box
        have lb := ltOf hr3.box
        obtain ⟨c0, c1, c2⟩ := hr3.nodeCells hx.out
        have l0 := hr3.al.ltAt
        have l1 := hr3.co.ltAt
        have l2 := hr3.bl.ltAt
        clear hr3 hm3
        obtain ⟨al, cm, bk⟩ := x
        dsimp only at c0 c1 c2
        go_wp2
        exact ⟨⟨(k : Int) + 1, by omega, by omega, rfl, hm03⟩, by simp [intOf]; omega⟩
      · have hno := nodeOut_walk wr d nds L next count z hI (by omega)
        clear hI
        by_cases hneg : z < 0
        · clear hzin
          go_wp2_with (go_at_call 56; (with_reducible refine hno.mono ?_); rintro e w3 ⟨rfl, hm3⟩)
          exact ⟨⟨z + 1, by omega, by omega, rfl, Lib.hid (hm.out.trans hm3 (fun _ _ h => h))⟩, by simp [intOf]; omega⟩
        · obtain rfl : z = nds.length := by omega
          clear hzin hneg
          go_wp2_with (go_at_call 56; (with_reducible refine hno.mono ?_); rintro e w3 ⟨rfl, hm3⟩)
          exact ⟨⟨(nds.length : Int) + 1, by omega, by omega, rfl, Lib.hid (hm.out.trans hm3 (fun _ _ h => h))⟩, by simp [intOf]⟩
    · clear hz0 hz1
      go_wp2_with fail
      obtain ⟨we, rfl⟩ : ∃ we : World, we = wr := ⟨_, rfl⟩
      have hme := hm
      clear hm
      go_loopw [14] (fun s14 wr => ∃ z : Int, -1 ≤ z ∧ z ≤ L.length + 1 ∧ s14 = .int .i64 z ∧ Hid (Mods Nil w wr)) (fun s14 _ => (L.length + 1 - intOf s14).toNat)
      case atStart => exact ⟨-1, by omega, by omega, rfl, hme⟩
      case round =>
        clear hme
        obtain ⟨z, hz0, hz1, rfl, hm⟩ := hrel
        by_cases hzl : z ≤ L.length
        · have hI := h.out.keepNil hm.out
          by_cases hzin : 0 ≤ z ∧ z < L.length
          · obtain ⟨hz2, hz3⟩ := hzin
            obtain ⟨k, rfl⟩ : ∃ k : Nat, z = (k : Int) := ⟨z.toNat, by omega⟩
            obtain ⟨p, hp⟩ : ∃ p, L[k]? = some p := ⟨_, List.getElem?_eq_getElem (by omega)⟩
            obtain ⟨q, hq⟩ : ∃ q, L'[k]? = some q := ⟨_, List.getElem?_eq_getElem (by have := hlen.out; omega)⟩
            have hpq : q.pl = p.pl := by
              have := congrArg (fun l => l[k]?) hL.out
              simp only [List.getElem?_map, hp, hq, Option.map_some] at this
              exact Option.some.inj this
            have hpa := part_walk wr d nds L next count k p hI hp
            have hok := hI.2.2.1.2.2.1 p (List.mem_of_getElem? hp)
            have hB := Lib.hid hm.out.size
            clear hI
            replace hp := Lib.hid hp
            replace hq := Lib.hid hq
            replace hpq := Lib.hid hpq
            replace hok := Lib.hid hok
            have hx0 := fun W => heap_new (w := W) (.cells #[.int .i64 0, .int .i64 0, .int .i64 0, .slice none 0 0, .slice none 0 0, .slice none 0 0] 99)
            clear hx0
            go_upto_region 18 with (go_at_call 40; (with_reducible refine hpa.mono ?_); rintro e w3 ⟨ia, ic, ra, rc, ta, tc, rfl, hNi, hNr, hNt, hm3⟩)
            have hx4 := heap_new w3 (.cells #[.int .i64 p.pl.lead, .int .i64 p.pl.ep, .int .i64 p.pl.ver, .slice ia p.pl.isr.length ic, .slice ra p.pl.rep.length rc, .slice ta p.pl.tar.length tc] 99)
            have hal : Mods Nil w3 (w3.alloc (.cells #[.int .i64 p.pl.lead, .int .i64 p.pl.ep, .int .i64 p.pl.ver, .slice ia p.pl.isr.length ic, .slice ra p.pl.rep.length rc, .slice ta p.pl.tar.length tc] 99)) := Mods.refl.alloc _
            have hia : Hid (∀ a, ia = some a → w.heap.size ≤ a.block ∧ a.block < w3.heap.size) := Lib.hid (fun a ha => ⟨by have := hNi.2 a ha; have := hB.out; omega, hNi.1.lt _ (by rw [ha]; rfl)⟩)
            have hra : Hid (∀ a, ra = some a → w.heap.size ≤ a.block ∧ a.block < w3.heap.size) := Lib.hid (fun a ha => ⟨by have := hNr.2 a ha; have := hB.out; omega, hNr.1.lt _ (by rw [ha]; rfl)⟩)
            have hm4 := (hm.out.trans hm3 (fun _ _ h => h)).trans hal (fun _ _ h => h)
            have hNi4 := Lib.hid (slKeep hNi.1 hal (fun _ _ => id))
            have hNr4 := Lib.hid (slKeep hNr.1 hal (fun _ _ => id))
            have hNt4 := Lib.hid (slKeep hNt.1 hal (fun _ _ => id))
            generalize w3.alloc (.cells #[.int .i64 p.pl.lead, .int .i64 p.pl.ep, .int .i64 p.pl.ver, .slice ia p.pl.isr.length ic, .slice ra p.pl.rep.length rc, .slice ta p.pl.tar.length tc] 99) = w4 at *
            generalize w3.heap.size = B3 at *
            have hr4 := hr.out.keepNil hm4
            have hq4 := Lib.hid (hr4.pts.2.1 q (List.mem_of_getElem? hq.out))
            obtain ⟨q0, q1, q2, q3, q4, q5⟩ := hr4.pts.cells hq.out
            have lq := hr4.pts.1.ltAt
            have cb := cellOf hr4.box
            have lb := ltOf hr4.box
            rw [hlen.out] at cb
            have hqc := hr4.pts.1.capAt.1
            rw [hlen.out] at hqc
            have cx := cellOf hx4
            have lx := ltOf hx4
            have hm4H := Lib.hid hm4
            replace hx4 := Lib.hid hx4
            obtain ⟨qpl, ⟨ja, jc⟩, ⟨sa, sc⟩, ⟨ua, uc⟩⟩ := q
            have hpq' : qpl = p.pl := hpq.out
            subst hpq'
            unfold Pt.vi at q3
            unfold Pt.vr at q4
            unfold Pt.vt at q5
            dsimp only at q0 q1 q2 q3 q4 q5
            have hsp : Hid (∀ W, Mods Nil w4 W → Calls Try.prog 57 #[.agg #[.int .i64 p.pl.lead, .int .i64 p.pl.ep, .int .i64 p.pl.ver, .slice ia p.pl.isr.length ic, .slice ra p.pl.rep.length rc, .slice ta p.pl.tar.length tc], .agg #[.int .i64 p.pl.lead, .int .i64 p.pl.ep, .int .i64 p.pl.ver, .slice ja p.pl.isr.length jc, .slice sa p.pl.rep.length sc, .slice ua p.pl.tar.length uc]] W
              fun e w' => e = .returned (.bool true) ∧ Mods Nil W w') := Lib.hid (fun W hW => samePart_walk W p.pl ia ra ta ja sa ua ic rc tc jc sc uc hok.out.li hok.out.lr hok.out.lt
                (slKeep hNi4.out hW (fun _ _ => id)).rd ((hq4.out.keep hW (fun _ h => h.elim)).1.1.rd) (slKeep hNr4.out hW (fun _ _ => id)).rd ((hq4.out.keep hW (fun _ h => h.elim)).2.1.1.rd) (slKeep hNt4.out hW (fun _ _ => id)).rd ((hq4.out.keep hW (fun _ h => h.elim)).2.2.1.rd))
            have hli : p.pl.isr.length ≤ 9223372036854775807 := by have := hok.out.li; omega
            have hlr : p.pl.rep.length ≤ 9223372036854775807 := by have := hok.out.lr; omega
            have d1 : decide ((k : Int) < (L.length : Int)) = true := decide_eq_true hz3
            clear hr4 hal hm3 hNi hNr hNt hm4 hpa hm hpq
            refine wp_region_plan [(.pure, 0), (.pure, 1), (.pure, 2), (.pure, 3), (.pure, 4), (.pure, 5), (.pure, 6), (.pure, 7), (.pure, 8), (.pure, 9), (.pure, 10), (.pure, 11), (.read, 12), (.pure, 13), (.pure, 14), (.pure, 15), (.read, 16), (.pure, 17), (.pure, 18), (.read, 19), (.ben, 20), (.pure, 21), (.pure, 22), (.pure, 23)] 24 (fun W => Mods Nil (w4) W) mixed (by kernel_rfl) (by kernel_rfl) (by repeat (first | exact Mods.refl | apply Mods.drew)) ?_
            repeat first
               | (refine reg_pure (v := ?_) rfl rfl ?_ ?_; rotate_left 1; (· (intro W; go_simp <;> with_reducible rfl)); simp only [Act.put, List.setIfInBounds_toArray, List.set_cons_zero, List.set_cons_succ])
               | (refine reg_read (v := ?_) rfl rfl ?_ ?_; rotate_left 1; (· (intro W hW; have hW' := Mods.cells hW; go_simp <;> with_reducible rfl)); simp only [Act.put, List.setIfInBounds_toArray, List.set_cons_zero, List.set_cons_succ])
               | (refine reg_off (by rfl) (by rfl) ?_; simp only [Act.put, List.setIfInBounds_toArray, List.set_cons_zero, List.set_cons_succ])
               | (refine reg_pure_on (v := ?_) rfl (by rfl) ?_ ?_; rotate_left 1; (· (intro W; go_simp <;> with_reducible rfl)); simp only [Act.put, List.setIfInBounds_toArray, List.set_cons_zero, List.set_cons_succ])
               | (refine reg_read_on (v := ?_) rfl (by rfl) ?_ ?_; rotate_left 1; (· (intro W hW; have hW' := Mods.cells hW; go_simp <;> with_reducible rfl)); simp only [Act.put, List.setIfInBounds_toArray, List.set_cons_zero, List.set_cons_succ])
            refine reg_ben_on (by rfl) (by rfl) (fun K hK => ?_)
            go_simp
            (with_reducible refine (hsp.out _ (by repeat (first | exact Mods.refl | apply Mods.drew))).mono ?_)
            rintro e w5 ⟨rfl, hm5⟩
            replace hm5 : Mods Nil w4 w5 := by repeat (first | exact hm5 | apply Mods.drew_left)
            refine hK _ _ hm5 ?_
            clear hK K
            repeat first
               | (refine reg_pure (v := ?_) rfl rfl ?_ ?_; rotate_left 1; (· (intro W; go_simp <;> with_reducible rfl)); simp only [Act.put, List.setIfInBounds_toArray, List.set_cons_zero, List.set_cons_succ])
               | (refine reg_read (v := ?_) rfl rfl ?_ ?_; rotate_left 1; (· (intro W hW; have hW' := Mods.cells hW; go_simp <;> with_reducible rfl)); simp only [Act.put, List.setIfInBounds_toArray, List.set_cons_zero, List.set_cons_succ])
               | (refine reg_off (by rfl) (by rfl) ?_; simp only [Act.put, List.setIfInBounds_toArray, List.set_cons_zero, List.set_cons_succ])
               | (refine reg_pure_on (v := ?_) rfl (by rfl) ?_ ?_; rotate_left 1; (· (intro W; go_simp <;> with_reducible rfl)); simp only [Act.put, List.setIfInBounds_toArray, List.set_cons_zero, List.set_cons_succ])
               | (refine reg_read_on (v := ?_) rfl (by rfl) ?_ ?_; rotate_left 1; (· (intro W hW; have hW' := Mods.cells hW; go_simp <;> with_reducible rfl)); simp only [Act.put, List.setIfInBounds_toArray, List.set_cons_zero, List.set_cons_succ])
            refine reg_done (qnp_normal ?_)
            have hw5 : Hid (Wr w5 ia p.pl.isr.length) := Lib.hid (hNi4.out.wr.keep hm5)
            have hv5 : Hid (Wr w5 ra p.pl.rep.length) := Lib.hid (hNr4.out.wr.keep hm5)
            have hx5 := hm5.keep hx4.out id
            have hm05 := Lib.hid (hm4H.out.trans hm5 (fun _ _ h => h))
            clear cb lb cx lx q0 q1 q2 q3 q4 q5 lq hm5 hm4H hsp hNi4 hNr4 hNt4 hq4 hx4
            have cx := cellOf hx5
            have lx := ltOf hx5
            replace hx5 := Lib.hid hx5
            go_wp2_with fail
            clear cx lx
            go_loopw [168] (fun s168 wl => ∃ i : Nat, i ≤ p.pl.isr.length ∧ s168 = .int .i64 i ∧ Hid (Wr wl ia p.pl.isr.length) ∧ Hid (Wr wl ra p.pl.rep.length) ∧ Hid (wl.heap[B3]? = some (.cells #[.int .i64 p.pl.lead, .int .i64 p.pl.ep, .int .i64 p.pl.ver, .slice ia p.pl.isr.length ic, .slice ra p.pl.rep.length rc, .slice ta p.pl.tar.length tc] 99 (0, 0))) ∧ Hid (Mods Nil w wl)) (fun s168 _ => p.pl.isr.length - (intOf s168).toNat)
            case atStart => exact ⟨0, by omega, rfl, hw5, hv5, hx5, hm05⟩
            case round =>
              clear hw5 hv5 hx5 hm05
              obtain ⟨i, hi, rfl, hw5, hv5, hx5, hm05⟩ := hrel
              have cx := cellOf hx5.out
              have lx := ltOf hx5.out
              by_cases hil : i < p.pl.isr.length
              · have hilH := Lib.hid hil
                rcases hw5.out with h0 | ⟨g, off, cur, rfl, hg, hfit⟩
                · omega
                · have cg := cellOf hg
                  have fg := frzOf hg
                  have lg := ltOf hg
                  have hge := hia.out _ rfl
                  dsimp only at hge
                  have hc : cur[off + i]? = some (cur[off + i]'(by omega)) := Array.getElem?_eq_getElem (by omega)
                  have cgi := (cg (off + i)).trans hc
                  generalize cur[off + i]'(by omega) = v at *
                  have i0 : (0 : Int) ≤ (i : Int) := by omega
                  have i1 : (i : Int) < (p.pl.isr.length : Int) := by omega
                  have hwN := Lib.hid (hw5.out.set g (off + i) (.int .i64 7))
                  have hvN := Lib.hid (hv5.out.set g (off + i) (.int .i64 7))
                  have hxN := Lib.hid ((heap_setCell_ne (b := B3) (a := ⟨g, off + i, none⟩) (by show B3 ≠ g; omega) (.int .i64 7)).trans hx5.out)
                  have hmN := Lib.hid (hm05.out.setCell (a := ⟨g, off + i, none⟩) (.int .i64 7) (fun hlt => by have hlt' : g < w.heap.size := hlt; omega))
                  clear cg hc hg
                  go_wp2
                  exact ⟨⟨i + 1, hilH.out, by go_num, hwN, hvN, hxN, hmN⟩, by have := hilH.out; simp [intOf]; omega⟩
              · obtain rfl : i = p.pl.isr.length := by omega
                clear hil
                go_wp2_with fail
                clear cx lx
                go_loopw [179] (fun s179 wl => ∃ i : Nat, i ≤ p.pl.rep.length ∧ s179 = .int .i64 i ∧ Hid (Wr wl ra p.pl.rep.length) ∧ Hid (wl.heap[B3]? = some (.cells #[.int .i64 p.pl.lead, .int .i64 p.pl.ep, .int .i64 p.pl.ver, .slice ia p.pl.isr.length ic, .slice ra p.pl.rep.length rc, .slice ta p.pl.tar.length tc] 99 (0, 0))) ∧ Hid (Mods Nil w wl)) (fun s179 _ => p.pl.rep.length - (intOf s179).toNat)
                case atStart => exact ⟨0, by omega, rfl, hv5, hx5, hm05⟩
                case round =>
                  clear hw5 hv5 hx5 hm05
                  obtain ⟨i, hi, rfl, hv5, hx5, hm05⟩ := hrel
                  have cx := cellOf hx5.out
                  have lx := ltOf hx5.out
                  by_cases hil : i < p.pl.rep.length
                  · have hilH := Lib.hid hil
                    rcases hv5.out with h0 | ⟨g, off, cur, rfl, hg, hfit⟩
                    · omega
                    · have cg := cellOf hg
                      have fg := frzOf hg
                      have lg := ltOf hg
                      have hge := hra.out _ rfl
                      dsimp only at hge
                      have hc : cur[off + i]? = some (cur[off + i]'(by omega)) := Array.getElem?_eq_getElem (by omega)
                      have cgi := (cg (off + i)).trans hc
                      generalize cur[off + i]'(by omega) = v at *
                      have i0 : (0 : Int) ≤ (i : Int) := by omega
                      have i1 : (i : Int) < (p.pl.rep.length : Int) := by omega
                      have hvN := Lib.hid (hv5.out.set g (off + i) (.int .i64 7))
                      have hxN := Lib.hid ((heap_setCell_ne (b := B3) (a := ⟨g, off + i, none⟩) (by show B3 ≠ g; omega) (.int .i64 7)).trans hx5.out)
                      have hmN := Lib.hid (hm05.out.setCell (a := ⟨g, off + i, none⟩) (.int .i64 7) (fun hlt => by have hlt' : g < w.heap.size := hlt; omega))
                      clear cg hc hg
                      go_wp2
                      exact ⟨⟨i + 1, hilH.out, by go_num, hvN, hxN, hmN⟩, by have := hilH.out; simp [intOf]; omega⟩
                  · obtain rfl : i = p.pl.rep.length := by omega
                    clear hil
                    go_wp2
                    exact ⟨⟨(k : Int) + 1, by omega, by omega, rfl, hm05⟩, by simp [intOf]; omega⟩
          · have hno := partOut_walk wr d nds L next count z hI (by omega)
            clear hI
            by_cases hneg : z < 0
            · clear hzin
              have hd : decide (0 ≤ z) = false := decide_eq_false (by omega)
              go_upto_region 18 with (go_at_call 40; (with_reducible refine hno.mono ?_); rintro e w3 ⟨rfl, hm3⟩)
              have hx4 := heap_new w3 (.cells #[.int .i64 0, .int .i64 0, .int .i64 0, .slice none 0 0, .slice none 0 0, .slice none 0 0] 99)
              have hm4 : Mods Nil w (w3.alloc (.cells #[.int .i64 0, .int .i64 0, .int .i64 0, .slice none 0 0, .slice none 0 0, .slice none 0 0] 99)) := (hm.out.trans hm3 (fun _ _ h => h)).alloc _
              generalize w3.alloc (.cells #[.int .i64 0, .int .i64 0, .int .i64 0, .slice none 0 0, .slice none 0 0, .slice none 0 0] 99) = w4 at *
              generalize w3.heap.size = B at *
              have cx := cellOf hx4
              have lx := ltOf hx4
              replace hm4 := Lib.hid hm4
              replace hx4 := Lib.hid hx4
              clear hm3 hno hm
              refine wp_region_plan [(.pure, 0), (.pure, 1), (.pure, 2), (.pure, 3), (.pure, 4), (.pure, 5), (.pure, 6), (.pure, 7), (.pure, 8), (.pure, 9), (.pure, 10), (.pure, 11), (.read, 12), (.pure, 13), (.pure, 14), (.pure, 15), (.read, 16), (.pure, 17), (.pure, 18), (.read, 19), (.ben, 20), (.pure, 21), (.pure, 22), (.pure, 23)] 24 (fun W => Mods Nil (w4) W) mixed (by kernel_rfl) (by kernel_rfl) (by repeat (first | exact Mods.refl | apply Mods.drew)) ?_
              repeat first
                 | (refine reg_pure (v := ?_) rfl rfl ?_ ?_; rotate_left 1; (· (intro W; go_simp <;> with_reducible rfl)); simp only [Act.put, List.setIfInBounds_toArray, List.set_cons_zero, List.set_cons_succ])
                 | (refine reg_read (v := ?_) rfl rfl ?_ ?_; rotate_left 1; (· (intro W hW; have hW' := Mods.cells hW; go_simp <;> with_reducible rfl)); simp only [Act.put, List.setIfInBounds_toArray, List.set_cons_zero, List.set_cons_succ])
                 | (refine reg_off (by rfl) (by rfl) ?_; simp only [Act.put, List.setIfInBounds_toArray, List.set_cons_zero, List.set_cons_succ])
                 | (refine reg_pure_on (v := ?_) rfl (by rfl) ?_ ?_; rotate_left 1; (· (intro W; go_simp <;> with_reducible rfl)); simp only [Act.put, List.setIfInBounds_toArray, List.set_cons_zero, List.set_cons_succ])
                 | (refine reg_read_on (v := ?_) rfl (by rfl) ?_ ?_; rotate_left 1; (· (intro W hW; have hW' := Mods.cells hW; go_simp <;> with_reducible rfl)); simp only [Act.put, List.setIfInBounds_toArray, List.set_cons_zero, List.set_cons_succ])
              refine reg_done (qnp_normal ?_)
              go_wp2_with fail
              refine wp_loop_rounds 1 ?_
              rw [rounds_succ]
              go_wp2_with fail
              refine wp_loop_rounds 1 ?_
              rw [rounds_succ]
              go_wp2_with fail
              exact ⟨⟨_, by omega, by omega, rfl, Lib.hid (hm4.out.trans ((by repeat (first | exact Mods.refl | apply Mods.drew)) : Mods Nil w4 _) (fun _ _ h => h))⟩, by simp [intOf] <;> omega⟩
            · obtain rfl : z = L.length := by omega
              clear hzin hneg
              have hd : decide ((L.length : Int) < (L.length : Int)) = false := decide_eq_false (by omega)
              go_upto_region 18 with (go_at_call 40; (with_reducible refine hno.mono ?_); rintro e w3 ⟨rfl, hm3⟩)
              have hx4 := heap_new w3 (.cells #[.int .i64 0, .int .i64 0, .int .i64 0, .slice none 0 0, .slice none 0 0, .slice none 0 0] 99)
              have hm4 : Mods Nil w (w3.alloc (.cells #[.int .i64 0, .int .i64 0, .int .i64 0, .slice none 0 0, .slice none 0 0, .slice none 0 0] 99)) := (hm.out.trans hm3 (fun _ _ h => h)).alloc _
              generalize w3.alloc (.cells #[.int .i64 0, .int .i64 0, .int .i64 0, .slice none 0 0, .slice none 0 0, .slice none 0 0] 99) = w4 at *
              generalize w3.heap.size = B at *
              have cx := cellOf hx4
              have lx := ltOf hx4
              replace hm4 := Lib.hid hm4
              replace hx4 := Lib.hid hx4
              clear hm3 hno hm
              refine wp_region_plan [(.pure, 0), (.pure, 1), (.pure, 2), (.pure, 3), (.pure, 4), (.pure, 5), (.pure, 6), (.pure, 7), (.pure, 8), (.pure, 9), (.pure, 10), (.pure, 11), (.read, 12), (.pure, 13), (.pure, 14), (.pure, 15), (.read, 16), (.pure, 17), (.pure, 18), (.read, 19), (.ben, 20), (.pure, 21), (.pure, 22), (.pure, 23)] 24 (fun W => Mods Nil (w4) W) mixed (by kernel_rfl) (by kernel_rfl) (by repeat (first | exact Mods.refl | apply Mods.drew)) ?_
              repeat first
                 | (refine reg_pure (v := ?_) rfl rfl ?_ ?_; rotate_left 1; (· (intro W; go_simp <;> with_reducible rfl)); simp only [Act.put, List.setIfInBounds_toArray, List.set_cons_zero, List.set_cons_succ])
                 | (refine reg_read (v := ?_) rfl rfl ?_ ?_; rotate_left 1; (· (intro W hW; have hW' := Mods.cells hW; go_simp <;> with_reducible rfl)); simp only [Act.put, List.setIfInBounds_toArray, List.set_cons_zero, List.set_cons_succ])
                 | (refine reg_off (by rfl) (by rfl) ?_; simp only [Act.put, List.setIfInBounds_toArray, List.set_cons_zero, List.set_cons_succ])
                 | (refine reg_pure_on (v := ?_) rfl (by rfl) ?_ ?_; rotate_left 1; (· (intro W; go_simp <;> with_reducible rfl)); simp only [Act.put, List.setIfInBounds_toArray, List.set_cons_zero, List.set_cons_succ])
                 | (refine reg_read_on (v := ?_) rfl (by rfl) ?_ ?_; rotate_left 1; (· (intro W hW; have hW' := Mods.cells hW; go_simp <;> with_reducible rfl)); simp only [Act.put, List.setIfInBounds_toArray, List.set_cons_zero, List.set_cons_succ])
              refine reg_done (qnp_normal ?_)
              go_wp2_with fail
              refine wp_loop_rounds 1 ?_
              rw [rounds_succ]
              go_wp2_with fail
              refine wp_loop_rounds 1 ?_
              rw [rounds_succ]
              go_wp2_with fail
              exact ⟨⟨_, by omega, by omega, rfl, Lib.hid (hm4.out.trans ((by repeat (first | exact Mods.refl | apply Mods.drew)) : Mods Nil w4 _) (fun _ _ h => h))⟩, by simp [intOf] <;> omega⟩
        · clear hz0 hz1
          go_wp2
          go_ret
          exact ⟨rfl, hm.out⟩
end Go.Proofs.Ytnnoicacpcahfaa
