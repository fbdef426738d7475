/- image.New, walked. No condition. -/
import Derived.Test.YtnnoicacpcahfaaRegionFork
import Derived.Test.YtnnoicacpcahfaaImgPart
import Derived.Test.YtnnoicacpcahfaaImgNewSt
namespace Go.Proofs.Ytnnoicacpcahfaa
open Go.RowKit

def NewPost (w : World) (n m c : Nat) (e : Ending) (w' : World) : Prop :=
  ∃ d L, e = .returned (.tuple #[.pointer (some ⟨d.b, 0, none⟩), .int .i64 0]) ∧ Img w' d (List.replicate n ⟨false, 0, 0⟩) L 1 0 ∧ L.map Pt.pl = (List.range m).map (newP n c) ∧ (∀ i, d.A i → w.heap.size ≤ i) ∧ Mods Nil w w'

theorem rep_nds (n : Nat) : (List.replicate n ()).flatMap (fun _ => [Value.bool false, .int .i64 0, .int .u64 0]) = (List.replicate n (⟨false, 0, 0⟩ : Nd)).flatMap Nd.cells := by
  induction n with
  | zero => rfl
  | succ n ih => rw [List.replicate_succ, List.replicate_succ, List.flatMap_cons, List.flatMap_cons, ih]; rfl
theorem NewSt.post {w wr : World} {bi gn gc n c k : Nat} {L : List Pt} {pa : Option Addr} {pc : Nat} (h : NewSt w wr bi gn gc n c k L pa pc) (hn : n ≤ 5) (hk : 1 ≤ k) (hb : w.heap.size ≤ gn ∧ w.heap.size ≤ gc ∧ w.heap.size ≤ bi ∧ bi ≠ gn ∧ bi ≠ gc ∧ gn ≠ gc) :
    NewPost w n k c (.returned (.tuple #[.pointer (some ⟨bi, 0, none⟩), .int .i64 0])) wr := by
  obtain ⟨b1, b2, b3, b4, b5, b6⟩ := hb
  have hlen : L.length = k := by have := congrArg List.length h.parts; simpa using this
  subst hlen
  rcases h.sl.1.2 with ⟨h', h0⟩ | ⟨g, off, cap, cur, hv, hg, h1, h2, h3, h4⟩
  · omega
  · simp only [Value.slice.injEq] at hv
    obtain ⟨rfl, _, rfl⟩ := hv
    obtain ⟨a1, a2, a3⟩ := h.apart _ rfl
    have hB := h.sl.2 _ rfl
    dsimp only at a1 a2 a3 hB
    have hAe : ∀ i, (⟨bi, gn, 0, n, g, off, pc, gc, Nil⟩ : Ad).A i → (i = bi ∨ i = gn ∨ i = gc ∨ ∃ a, some (⟨g, off, none⟩ : Addr) = some a ∧ i = a.block) := by
      rintro i (hi | hi | hi | hi)
      · exact .inl hi
      · exact .inr (.inl hi)
      · exact .inr (.inr (.inr ⟨_, rfl, hi⟩))
      · exact .inr (.inr (.inl hi))
    refine ⟨⟨bi, gn, 0, n, g, off, pc, gc, Nil⟩, L, rfl, ⟨?_, ?_, ⟨h.sl.1, fun p hp => (h.lists p hp).re (S := Nil) Mods.refl (fun _ h => h.elim) (fun i _ hA => hAe i (hA.elim id (fun h => h.elim))), fun p hp => ?_, .inl (.inr (.inr (.inl rfl))), fun i hA => ?_⟩, h.ctr, ⟨b4, fun e => a1 e.symm, b5, fun e => a2 e.symm, b6, a3⟩, by omega, by omega⟩, h.parts, ?_, h.mods⟩
    · rw [List.length_replicate]; exact h.img
    · rw [List.length_replicate, ← rep_nds]; exact h.nds
    · rw [List.length_replicate]
      have hm : p.pl ∈ L.map Pt.pl := List.mem_map_of_mem hp
      rw [h.parts] at hm
      obtain ⟨j, _, hj⟩ := List.mem_map.1 hm
      rw [← hj]
      exact onL_ok hn
    · rcases hA with (rfl | rfl | rfl | rfl) | hA
      · exact ltOf h.img
      · exact h.nds.lt _ rfl
      · exact ltOf hg
      · exact ltOf h.ctr
      · exact hA.elim
    · rintro i (rfl | rfl | rfl | rfl)
      · exact b3
      · exact b1
      · exact hB
      · exact b2
set_option maxRecDepth 100000 in
set_option maxHeartbeats 6400000 in
theorem imgNew_walk (w : World) (n m c : Nat) (hn : 1 ≤ n) (hn5 : n ≤ 5) (hm : 1 ≤ m) (hm6 : m ≤ 6) (hc : 1 ≤ c) (hcn : c ≤ n) :
    Calls Try.prog 18 #[.int .i64 n, .int .i64 m, .int .i64 c] w
      fun e w' => NewPost w n m c e w' := by
  have hg := fun w => gateNew_walk w
  have hmk : ∀ W, (Instr.makeSlice 90 (.int .i64 n) (.int .i64 n)).run Try.prog W = .ok (.slice (some ⟨W.heap.size, 0, none⟩) n n) (W.alloc (.cells (madeCells #[.bool false, .int .i64 0, .int .u64 0] (n * 3)) 136)) := fun W => by
    have hi : (Try.prog.info? 136).map (fun i => (i.zero, i.size, i.bytes)) = some (some (.agg #[.bool false, .int .i64 0, .int .u64 0]), 3, 24) := by kernel_rfl
    obtain ⟨i0, hi0, hz0, hz1, hz2⟩ := info_parts hi
    have := run_make (P := Try.prog) W 90 136 i0 _ Try.underlying90 hi0 hz0 .i64 .i64 n n (by omega) (by omega) (by rw [hz2]; omega) (by omega)
    rw [hz1, Int.toNat_natCast] at this
    exact this
  have i1 : ¬ (n : Int) < 1 := by omega
  have i2 : ¬ (5 : Int) < n := by omega
  have i3 : ¬ (m : Int) < 1 := by omega
  have i4 : ¬ (6 : Int) < m := by omega
  have i5 : ¬ (c : Int) < 1 := by omega
  have i6 : ¬ (n : Int) < c := by omega
  go_enter Try.func18, Try.ntmps18
  go_upto_region 3 with fail
  refine wp_region_tree (.step .pure 0 (.two 1 2 (Tr.of [(.ben, 2), (.pure, 3), (.ben, 4), (.pure, 5)]) (Tr.of [(.ben, 1), (.pure, 3), (.ben, 4), (.pure, 5)]))) 6 (fun W => Mods Nil w W) mixed (by kernel_rfl) (by kernel_rfl) Mods.refl.drew ?_
  refine tree_pure (v := ?_) rfl rfl ?_ ?_; rotate_left 1; (· (intro W; go_simp <;> with_reducible rfl))
  try simp only [Act.put, List.setIfInBounds_toArray, List.set_cons_zero, List.set_cons_succ]
  refine ⟨?_, ?_⟩
  · refine fork_ben (by rfl) (by rfl) (fun K hK => ?_)
    go_simp
    have hm1 : Mods Nil w (w.alloc (.cells (madeCells #[.bool false, .int .i64 0, .int .u64 0] (n * 3)) 136)) := Mods.refl.alloc _
    refine hK _ _ hm1.drew (tree_list ?_)
    clear hK K
    try simp only [Act.put, List.setIfInBounds_toArray, List.set_cons_zero, List.set_cons_succ]
    refine reg_ben (by rfl) (by rfl) (fun K hK => ?_)
    go_simp
    refine (hg _).mono ?_
    rintro e w2 ⟨rfl, hc2, hm2, hs2⟩
    refine hK _ _ (hm1.drew.trans hm2 (fun _ _ h => h)) ?_
    clear hK K
    try simp only [Act.put, List.setIfInBounds_toArray, List.set_cons_zero, List.set_cons_succ]
    repeat first
       | (refine reg_pure (v := ?_) rfl rfl ?_ ?_; rotate_left 1; (· (intro W; go_simp <;> with_reducible rfl)); simp only [Act.put, List.setIfInBounds_toArray, List.set_cons_zero, List.set_cons_succ])
       | (refine reg_read (v := ?_) rfl rfl ?_ ?_; rotate_left 1; (· (intro W hW; skip; go_simp <;> with_reducible rfl)); simp only [Act.put, List.setIfInBounds_toArray, List.set_cons_zero, List.set_cons_succ])
       | (refine reg_off (by rfl) (by rfl) ?_; simp only [Act.put, List.setIfInBounds_toArray, List.set_cons_zero, List.set_cons_succ])
       | (refine reg_pure_on (v := ?_) rfl (by rfl) ?_ ?_; rotate_left 1; (· (intro W; go_simp <;> with_reducible rfl)); simp only [Act.put, List.setIfInBounds_toArray, List.set_cons_zero, List.set_cons_succ])
       | (refine reg_read_on (v := ?_) rfl (by rfl) ?_ ?_; rotate_left 1; (· (intro W hW; skip; go_simp <;> with_reducible rfl)); simp only [Act.put, List.setIfInBounds_toArray, List.set_cons_zero, List.set_cons_succ])
    refine reg_ben (by rfl) (by rfl) (fun K hK => ?_)
    go_simp
    have hslA : Sl (w.alloc (.cells (madeCells #[.bool false, .int .i64 0, .int .u64 0] (n * 3)) 136)).drew 136 3 (.slice (some ⟨w.heap.size, 0, none⟩) n n) n _ := made_sl (w := w) (e := 136) (s := 3) (n := n) (z := #[.bool false, .int .i64 0, .int .u64 0]) rfl (by unfold maxLen; omega)
    have hgc : w.heap.size + 1 < w2.heap.size := by have := hs2; simp at this; omega
    have hsl2 := slKeep hslA hm2 (fun _ _ => id)
    have hc2' : Ctr w2 (w.heap.size + 1) 1 := by simpa using hc2
    have hm3 : Mods Nil w2 (w2.alloc (.cells #[.slice (some ⟨w.heap.size, 0, none⟩) n n, .slice none 0 0, .pointer (some ⟨w.heap.size + 1, 0, none⟩), .int .i64 0] 95)) := Mods.refl.alloc _
    have hm3' : Mods Nil w (w2.alloc (.cells #[.slice (some ⟨w.heap.size, 0, none⟩) n n, .slice none 0 0, .pointer (some ⟨w.heap.size + 1, 0, none⟩), .int .i64 0] 95)) := (hm1.drew.trans hm2 (fun _ _ h => h)).trans hm3 (fun _ _ h => h)
    have zb := heap_new w2 (.cells #[.slice (some ⟨w.heap.size, 0, none⟩) n n, .slice none 0 0, .pointer (some ⟨w.heap.size + 1, 0, none⟩), .int .i64 0] 95)
    have zn := slKeep hsl2 hm3 (fun _ _ => id)
    have zc := hm3.keep hc2' id
    refine hK _ _ hm3' ?_
    clear hK K
    try simp only [Act.put, List.setIfInBounds_toArray, List.set_cons_zero, List.set_cons_succ]
    repeat first
       | (refine reg_pure (v := ?_) rfl rfl ?_ ?_; rotate_left 1; (· (intro W; go_simp <;> with_reducible rfl)); simp only [Act.put, List.setIfInBounds_toArray, List.set_cons_zero, List.set_cons_succ])
       | (refine reg_read (v := ?_) rfl rfl ?_ ?_; rotate_left 1; (· (intro W hW; skip; go_simp <;> with_reducible rfl)); simp only [Act.put, List.setIfInBounds_toArray, List.set_cons_zero, List.set_cons_succ])
       | (refine reg_off (by rfl) (by rfl) ?_; simp only [Act.put, List.setIfInBounds_toArray, List.set_cons_zero, List.set_cons_succ])
       | (refine reg_pure_on (v := ?_) rfl (by rfl) ?_ ?_; rotate_left 1; (· (intro W; go_simp <;> with_reducible rfl)); simp only [Act.put, List.setIfInBounds_toArray, List.set_cons_zero, List.set_cons_succ])
       | (refine reg_read_on (v := ?_) rfl (by rfl) ?_ ?_; rotate_left 1; (· (intro W hW; skip; go_simp <;> with_reducible rfl)); simp only [Act.put, List.setIfInBounds_toArray, List.set_cons_zero, List.set_cons_succ])
    refine reg_done (qnp_normal ?_)
    clear hslA hsl2 hc2 hc2' hm3 hs2 hm1 hm2
    generalize hwz : w2.alloc (.cells #[.slice (some ⟨w.heap.size, 0, none⟩) n n, .slice none 0 0, .pointer (some ⟨w.heap.size + 1, 0, none⟩), .int .i64 0] 95) = wz at *
    generalize hbi : w2.heap.size = bi at *
    generalize hgn : w.heap.size = gn at *
    generalize hgcv : gn + 1 = gc at *
    have hbase : Hid (w.heap.size ≤ gn ∧ w.heap.size ≤ gc ∧ w.heap.size ≤ bi ∧ bi ≠ gn ∧ bi ≠ gc ∧ gn ≠ gc) := Lib.hid (ord1 hgn hgcv hgc)
    have hmz := Lib.hid hm3'
    clear hm3' hgn hgcv hbi hgc hwz
    have hst0 : NewSt w wz bi gn gc n c 0 [] none 0 := ⟨zb, zn, zc, NewSl.nil, by simp, rfl, by simp, hmz.out⟩
    replace hst0 := Lib.hid hst0
    clear zb zn zc hmz
    go_wp2_with fail
    go_loopw [41] (fun s41 wr => ∃ (k : Nat) (L : List Pt) (pa : Option Addr) (pc : Nat), k ≤ m ∧ s41 = .int .i64 k ∧ Hid (NewSt w wr bi gn gc n c k L pa pc)) (fun s41 _ => m - (intOf s41).toNat)
    case atStart => exact ⟨0, [], none, 0, by omega, rfl, hst0⟩
    case round =>
      clear hst0
      obtain ⟨k, L, pa, pc, hk, rfl, hst⟩ := hrel
      obtain ⟨wo, rfl⟩ : ∃ wo : World, wo = wr := ⟨_, rfl⟩
      by_cases hlt : k < m
      · have hltH := Lib.hid hlt
        have k6 : k < 6 := by omega
        go_wp2_with fail
        go_loopw [10, 45] (fun s10 s45 wi => ∃ (i : Nat) (oa : Option Addr) (oc : Nat), i ≤ c ∧ s45 = .int .i64 i ∧ s10 = .slice oa i oc ∧ Hid (NewSl wo.heap.size wi 3 1 oa i oc (ints (rawL n i k))) ∧ Hid (Mods Nil wo wi)) (fun _ s45 _ => c - (intOf s45).toNat)
        case atStart => exact ⟨0, none, 0, by omega, rfl, rfl, Lib.hid NewSl.nil, Lib.hid Mods.refl⟩
        case round =>
          obtain ⟨i, oa, oc, hi, rfl, rfl, hN, hm⟩ := hrel
          by_cases hli : i < c
          · have hliH := Lib.hid hli
            have hn0 : ¬ (n : Int) = 0 := by omega
            have hki : (0 : Int) ≤ (k : Int) + (i : Int) := by omega
            go_upto_region 11 with fail
            apply wp_region_lit
            repeat ((fail_if_success at_builtin); go_step)
            have hal : Mods Nil wr (wr.alloc (.cells #[.int .i64 (((k : Int) + (i : Int)) % (n : Int))] 3)) := Mods.refl.alloc _
            refine wpList_append_sl (n := i) (xs := ints (rawL n i k)) (m := 1) (news := [.int .i64 (((k : Int) + (i : Int)) % (n : Int))]) (by rfl) (.tmp 48) (.tmp 54) (by rfl) elInt (by rfl) (hN.out.keep hal (fun _ _ => id)).1 (by rfl) (Rd.blk (cs := [.int .i64 (((k : Int) + (i : Int)) % (n : Int))]) (heap_new' _ (by simp)) rfl) (by simp [Value.oneCell']) (by simp only [maxLen]; omega) (by omega) ?_
            intro v' w5 h5 hg5 ho5 _
            obtain ⟨fa, fc, rfl, hN5, hm5⟩ := NewSl.app (W := wo) (hN.out.keep hal (fun _ _ => id)) (by simp; have := hm.out.size; omega) h5 hg5 ho5 (hm.out.trans hal (fun _ _ h => h)) (Nat.le_refl _)
            have hN6 : Hid (NewSl wo.heap.size w5 3 1 fa (i + 1) fc (ints (rawL n (i + 1) k))) := Lib.hid (by
              rw [raw_succ]
              simpa [ints] using hN5)
            have hm5H := Lib.hid hm5
            clear hm5 hN5 h5 hg5 ho5 hal hN
            go_wp2
            exact ⟨⟨i + 1, fa, fc, hliH.out, by go_num, rfl, hN6, hm5H⟩, by have := hliH.out; simp [intOf]; omega⟩
          · obtain rfl : i = c := by omega
            clear hli
            have hrl := raw_len n i k
            have hso := sortInt_walk wr oa oc (rawL n i k) (by rw [raw_len]; omega) (by rw [raw_len]; exact hN.out.1)
            rw [raw_len, raw_sort hn5 k6 hcn] at hso
            clear hrl
            go_upto_region 14 with (go_at_call 38; (with_reducible refine hso.mono ?_); rintro e w2 ⟨rfl, hS2, hm2⟩)
            have hN2 : Hid (NewSl wo.heap.size w2 3 1 oa i oc (ints (onL n i k))) := Lib.hid ⟨hS2, hN.out.2⟩
            have hm02 := Lib.hid (hm.out.trans hm2 (fun j hj e => by obtain ⟨a, ha, rfl⟩ := e; have := hN.out.2 a ha; omega))
            have hlen := Lib.hid (onL_c (n := n) (c := i) (k := k) hn5 k6 hcn)
            have hst2 := hst.out.keep hm02.out (fun _ h => h.elim)
            have cb := cellOf hst2.img
            have lb := ltOf hst2.img
            clear hso hS2 hm2 hN hm hst2
            refine wp_region_plan [(.pure, 0), (.pure, 1), (.pure, 2), (.pure, 3), (.read, 4), (.pure, 5), (.pure, 7), (.ben, 6), (.pure, 8), (.ben, 9), (.eff, 10), (.pure, 11), (.pure, 12), (.eff, 13)] 10 (fun W => Mods Nil _ W) mixed (by kernel_rfl) (by kernel_rfl) Mods.refl.drew ?_
            repeat first
               | (refine reg_pure (v := ?_) rfl rfl ?_ ?_; rotate_left 1; (· (intro W; go_simp <;> with_reducible rfl)); simp only [Act.put, List.setIfInBounds_toArray, List.set_cons_zero, List.set_cons_succ])
               | (refine reg_read (v := ?_) rfl rfl ?_ ?_; rotate_left 1; (· (intro W hW; have hW' := Mods.cells hW; go_simp <;> with_reducible rfl)); simp only [Act.put, List.setIfInBounds_toArray, List.set_cons_zero, List.set_cons_succ])
               | (refine reg_off (by rfl) (by rfl) ?_; simp only [Act.put, List.setIfInBounds_toArray, List.set_cons_zero, List.set_cons_succ])
               | (refine reg_pure_on (v := ?_) rfl (by rfl) ?_ ?_; rotate_left 1; (· (intro W; go_simp <;> with_reducible rfl)); simp only [Act.put, List.setIfInBounds_toArray, List.set_cons_zero, List.set_cons_succ])
               | (refine reg_read_on (v := ?_) rfl (by rfl) ?_ ?_; rotate_left 1; (· (intro W hW; have hW' := Mods.cells hW; go_simp <;> with_reducible rfl)); simp only [Act.put, List.setIfInBounds_toArray, List.set_cons_zero, List.set_cons_succ])
            refine reg_ben (by rfl) (by rfl) (fun K hK => ?_)
            go_simp
            have hcl := clone_walk w2.drew oa oc (onL n i k) (by rw [hlen.out]; omega) (by rw [hlen.out]; exact hN2.out.1)
            rw [hlen.out] at hcl
            (with_reducible refine hcl.mono ?_)
            clear hcl
            rintro e w3 ⟨ca, cc, rfl, hC3, hm3⟩
            replace hm3 := Mods.drew_left hm3
            refine hK _ _ hm3 ?_
            clear hK K
            repeat first
               | (refine reg_pure (v := ?_) rfl rfl ?_ ?_; rotate_left 1; (· (intro W; go_simp <;> with_reducible rfl)); simp only [Act.put, List.setIfInBounds_toArray, List.set_cons_zero, List.set_cons_succ])
               | (refine reg_read (v := ?_) rfl rfl ?_ ?_; rotate_left 1; (· (intro W hW; have hW' := Mods.cells hW; go_simp <;> with_reducible rfl)); simp only [Act.put, List.setIfInBounds_toArray, List.set_cons_zero, List.set_cons_succ])
               | (refine reg_off (by rfl) (by rfl) ?_; simp only [Act.put, List.setIfInBounds_toArray, List.set_cons_zero, List.set_cons_succ])
               | (refine reg_pure_on (v := ?_) rfl (by rfl) ?_ ?_; rotate_left 1; (· (intro W; go_simp <;> with_reducible rfl)); simp only [Act.put, List.setIfInBounds_toArray, List.set_cons_zero, List.set_cons_succ])
               | (refine reg_read_on (v := ?_) rfl (by rfl) ?_ ?_; rotate_left 1; (· (intro W hW; have hW' := Mods.cells hW; go_simp <;> with_reducible rfl)); simp only [Act.put, List.setIfInBounds_toArray, List.set_cons_zero, List.set_cons_succ])
            refine reg_ben (by rfl) (by rfl) (fun K hK => ?_)
            go_simp
            refine hK _ _ (hm3.alloc _) ?_
            clear hK K
            have hal : Mods Nil w3 (w3.alloc (.cells #[.int .i64 (-1), .int .i64 0, .int .i64 0, .slice ca i cc, .slice oa i oc, .slice none 0 0] 99)) := Mods.refl.alloc _
            have hn4 := heap_new w3 (.cells #[.int .i64 (-1), .int .i64 0, .int .i64 0, .slice ca i cc, .slice oa i oc, .slice none 0 0] 99)
            have hm04 := Lib.hid ((hm02.out.trans hm3 (fun _ _ h => h)).trans hal (fun _ _ h => h))
            have hN4 := Lib.hid ((hN2.out.keep hm3 (fun _ _ => id)).keep hal (fun _ _ => id))
            have hC4 : Hid (NewSl wo.heap.size (w3.alloc (.cells #[.int .i64 (-1), .int .i64 0, .int .i64 0, .slice ca i cc, .slice oa i oc, .slice none 0 0] 99)) 3 1 ca i cc (ints (onL n i k))) := Lib.hid ⟨(hC3.keep hal (fun _ _ => id)).1, fun a ha => by have := hC3.2 a ha; have := hm02.out.size; simp at *; omega⟩
            have hst4 := hst.out.keep hm04.out (fun _ h => h.elim)
            have hsl4 := hst4.sl.1
            have cb4 := cellOf hst4.img
            have lb4 := ltOf hst4.img
            clear hm3 hC3 hal
            generalize hw4 : w3.alloc (.cells #[.int .i64 (-1), .int .i64 0, .int .i64 0, .slice ca i cc, .slice oa i oc, .slice none 0 0] 99) = w4 at *
            generalize w3.heap.size = B3 at *
            clear hw4
            try simp only [Act.put, List.setIfInBounds_toArray, List.set_cons_zero, List.set_cons_succ]
            repeat first
               | (refine reg_pure (v := ?_) rfl rfl ?_ ?_; rotate_left 1; (· (intro W; go_simp <;> with_reducible rfl)); simp only [Act.put, List.setIfInBounds_toArray, List.set_cons_zero, List.set_cons_succ])
               | (refine reg_read (v := ?_) rfl rfl ?_ ?_; rotate_left 1; (· (intro W hW; skip; go_simp <;> with_reducible rfl)); simp only [Act.put, List.setIfInBounds_toArray, List.set_cons_zero, List.set_cons_succ])
               | (refine reg_off (by rfl) (by rfl) ?_; simp only [Act.put, List.setIfInBounds_toArray, List.set_cons_zero, List.set_cons_succ])
               | (refine reg_pure_on (v := ?_) rfl (by rfl) ?_ ?_; rotate_left 1; (· (intro W; go_simp <;> with_reducible rfl)); simp only [Act.put, List.setIfInBounds_toArray, List.set_cons_zero, List.set_cons_succ])
               | (refine reg_read_on (v := ?_) rfl (by rfl) ?_ ?_; rotate_left 1; (· (intro W hW; skip; go_simp <;> with_reducible rfl)); simp only [Act.put, List.setIfInBounds_toArray, List.set_cons_zero, List.set_cons_succ])
            refine reg_eff (by rfl) (by rfl) (fun K hK => ?_)
            refine wp_append_sl (.tmp 63) (.tmp 68) (by rfl) elPart (by rfl) (w := w4) hsl4 (by rfl) (Rd.blk (cs := [.int .i64 (-1), .int .i64 0, .int .i64 0, .slice ca i cc, .slice oa i oc, .slice none 0 0]) hn4 rfl) (by simp [Value.oneCell']) (by simp only [maxLen]; omega) (by omega) ?_
            intro v' w5 h5 hg5 ho5 _
            refine hK _ _ ?_
            clear hK K
            have hbi5 : w5.heap[bi]? = some (.cells #[.slice (some ⟨gn, 0, none⟩) n n, .slice pa k pc, .pointer (some ⟨gc, 0, none⟩), .int .i64 0] 95 (0, 0)) := (hg5.block bi lb4 (fun e => by
              obtain ⟨x, hx, hxe⟩ := ownOf e.symm
              exact (hst4.apart x hx).1 hxe)).trans hst4.img
            obtain ⟨qa, qc, L2, rfl, hst5⟩ := hst.out.step hn5 k6 hcn hbase.out hm04.out hN4.out hC4.out h5 hg5 ho5
            have c5 := cellOf hbi5
            have f5 := frzOf hbi5
            have l5 := ltOf hbi5
            replace hst5 := Lib.hid hst5
            clear hst4 hn4 hsl4 cb4 lb4 cb lb h5 hg5 ho5 hbi5
            try simp only [Act.put, List.setIfInBounds_toArray, List.set_cons_zero, List.set_cons_succ]
            repeat first
               | (refine reg_pure (v := ?_) rfl rfl ?_ ?_; rotate_left 1; (· (intro W; go_simp <;> with_reducible rfl)); simp only [Act.put, List.setIfInBounds_toArray, List.set_cons_zero, List.set_cons_succ])
               | (refine reg_read (v := ?_) rfl rfl ?_ ?_; rotate_left 1; (· (intro W hW; skip; go_simp <;> with_reducible rfl)); simp only [Act.put, List.setIfInBounds_toArray, List.set_cons_zero, List.set_cons_succ])
               | (refine reg_off (by rfl) (by rfl) ?_; simp only [Act.put, List.setIfInBounds_toArray, List.set_cons_zero, List.set_cons_succ])
               | (refine reg_pure_on (v := ?_) rfl (by rfl) ?_ ?_; rotate_left 1; (· (intro W; go_simp <;> with_reducible rfl)); simp only [Act.put, List.setIfInBounds_toArray, List.set_cons_zero, List.set_cons_succ])
               | (refine reg_read_on (v := ?_) rfl (by rfl) ?_ ?_; rotate_left 1; (· (intro W hW; skip; go_simp <;> with_reducible rfl)); simp only [Act.put, List.setIfInBounds_toArray, List.set_cons_zero, List.set_cons_succ])
            refine reg_eff (by rfl) (by rfl) (fun K hK => ?_)
            go_simp
            refine hK _ _ ?_
            clear hK K
            refine reg_done (qnp_normal ?_)
            clear c5 f5 l5
            go_wp2
            exact ⟨⟨k + 1, L2, qa, qc, hltH.out, by go_num, by first | exact hst5 | exact Lib.hid (hst5.out.keep (S := Nil) (by repeat (first | exact Mods.refl | apply Mods.drew)) (fun _ h => h.elim))⟩, by have := hltH.out; simp [intOf]; omega⟩
      · obtain rfl : k = m := by omega
        clear hlt
        go_wp2
        go_ret2
        exact hst.out.post hn5 hm hbase.out
  · refine fork_ben (by rfl) (by rfl) (fun K hK => ?_)
    go_simp
    refine (hg _).mono ?_
    rintro e w2 ⟨rfl, hc2, hm2, hs2⟩
    replace hm2 := Mods.drew_left hm2
    refine hK _ _ hm2 (tree_list ?_)
    clear hK K
    try simp only [Act.put, List.setIfInBounds_toArray, List.set_cons_zero, List.set_cons_succ]
    refine reg_ben (by rfl) (by rfl) (fun K hK => ?_)
    go_simp
    have hm1 : Mods Nil w2 (w2.alloc (.cells (madeCells #[.bool false, .int .i64 0, .int .u64 0] (n * 3)) 136)) := Mods.refl.alloc _
    have hsl2 := made_sl (w := w2) (e := 136) (s := 3) (n := n) (z := #[.bool false, .int .i64 0, .int .u64 0]) rfl (by unfold maxLen; omega)
    have hc2' : Ctr (w2.alloc (.cells (madeCells #[.bool false, .int .i64 0, .int .u64 0] (n * 3)) 136)) w.heap.size 1 := hm1.keep hc2 id
    have hsz3 := alloc_size w2 (.cells (madeCells #[.bool false, .int .i64 0, .int .u64 0] (n * 3)) 136)
    have hgc : w.heap.size < w2.heap.size := hs2
    have hm2' := hm2.trans hm1 (fun _ _ h => h)
    refine hK _ _ hm2' ?_
    clear hK K
    generalize w2.alloc (.cells (madeCells #[.bool false, .int .i64 0, .int .u64 0] (n * 3)) 136) = w3 at *
    generalize hgn : w2.heap.size = gn at *
    generalize hgcv : w.heap.size = gc at *
    try simp only [Act.put, List.setIfInBounds_toArray, List.set_cons_zero, List.set_cons_succ]
    repeat first
       | (refine reg_pure (v := ?_) rfl rfl ?_ ?_; rotate_left 1; (· (intro W; go_simp <;> with_reducible rfl)); simp only [Act.put, List.setIfInBounds_toArray, List.set_cons_zero, List.set_cons_succ])
       | (refine reg_read (v := ?_) rfl rfl ?_ ?_; rotate_left 1; (· (intro W hW; skip; go_simp <;> with_reducible rfl)); simp only [Act.put, List.setIfInBounds_toArray, List.set_cons_zero, List.set_cons_succ])
       | (refine reg_off (by rfl) (by rfl) ?_; simp only [Act.put, List.setIfInBounds_toArray, List.set_cons_zero, List.set_cons_succ])
       | (refine reg_pure_on (v := ?_) rfl (by rfl) ?_ ?_; rotate_left 1; (· (intro W; go_simp <;> with_reducible rfl)); simp only [Act.put, List.setIfInBounds_toArray, List.set_cons_zero, List.set_cons_succ])
       | (refine reg_read_on (v := ?_) rfl (by rfl) ?_ ?_; rotate_left 1; (· (intro W hW; skip; go_simp <;> with_reducible rfl)); simp only [Act.put, List.setIfInBounds_toArray, List.set_cons_zero, List.set_cons_succ])
    refine reg_ben (by rfl) (by rfl) (fun K hK => ?_)
    go_simp
    have hgn1 : gn + 1 = w3.heap.size := hsz3.symm
    have hm3 : Mods Nil w3 (w3.alloc (.cells #[.slice (some ⟨gn, 0, none⟩) n n, .slice none 0 0, .pointer (some ⟨gc, 0, none⟩), .int .i64 0] 95)) := Mods.refl.alloc _
    have zb := heap_new' (w := w3) (n := gn + 1) (.cells #[.slice (some ⟨gn, 0, none⟩) n n, .slice none 0 0, .pointer (some ⟨gc, 0, none⟩), .int .i64 0] 95) hgn1
    have zn := slKeep hsl2 hm3 (fun _ _ => id)
    have zc := hm3.keep hc2' id
    have hm3' := hm2'.trans hm3 (fun _ _ h => h)
    clear hgn1 hsz3
    replace hgn := Lib.hid hgn
    replace hgcv := Lib.hid hgcv
    refine hK _ _ hm3' ?_
    clear hK K
    try simp only [Act.put, List.setIfInBounds_toArray, List.set_cons_zero, List.set_cons_succ]
    repeat first
       | (refine reg_pure (v := ?_) rfl rfl ?_ ?_; rotate_left 1; (· (intro W; go_simp <;> with_reducible rfl)); simp only [Act.put, List.setIfInBounds_toArray, List.set_cons_zero, List.set_cons_succ])
       | (refine reg_read (v := ?_) rfl rfl ?_ ?_; rotate_left 1; (· (intro W hW; skip; go_simp <;> with_reducible rfl)); simp only [Act.put, List.setIfInBounds_toArray, List.set_cons_zero, List.set_cons_succ])
       | (refine reg_off (by rfl) (by rfl) ?_; simp only [Act.put, List.setIfInBounds_toArray, List.set_cons_zero, List.set_cons_succ])
       | (refine reg_pure_on (v := ?_) rfl (by rfl) ?_ ?_; rotate_left 1; (· (intro W; go_simp <;> with_reducible rfl)); simp only [Act.put, List.setIfInBounds_toArray, List.set_cons_zero, List.set_cons_succ])
       | (refine reg_read_on (v := ?_) rfl (by rfl) ?_ ?_; rotate_left 1; (· (intro W hW; skip; go_simp <;> with_reducible rfl)); simp only [Act.put, List.setIfInBounds_toArray, List.set_cons_zero, List.set_cons_succ])
    refine reg_done (qnp_normal ?_)
    clear hsl2 hc2 hc2' hm3 hs2 hm1 hm2 hm2'
    generalize hwz : w3.alloc (.cells #[.slice (some ⟨gn, 0, none⟩) n n, .slice none 0 0, .pointer (some ⟨gc, 0, none⟩), .int .i64 0] 95) = wz at *
    generalize hbi : gn + 1 = bi at *
    have hbase : Hid (w.heap.size ≤ gn ∧ w.heap.size ≤ gc ∧ w.heap.size ≤ bi ∧ bi ≠ gn ∧ bi ≠ gc ∧ gn ≠ gc) := Lib.hid (ord2 hgcv.out hbi hgc)
    have hmz := Lib.hid hm3'
    clear hm3' hgn hgcv hbi hgc hwz
    have hst0 : NewSt w wz bi gn gc n c 0 [] none 0 := ⟨zb, zn, zc, NewSl.nil, by simp, rfl, by simp, hmz.out⟩
    replace hst0 := Lib.hid hst0
    clear zb zn zc hmz
    go_wp2_with fail
    go_loopw [41] (fun s41 wr => ∃ (k : Nat) (L : List Pt) (pa : Option Addr) (pc : Nat), k ≤ m ∧ s41 = .int .i64 k ∧ Hid (NewSt w wr bi gn gc n c k L pa pc)) (fun s41 _ => m - (intOf s41).toNat)
    case atStart => exact ⟨0, [], none, 0, by omega, rfl, hst0⟩
    case round =>
      clear hst0
      obtain ⟨k, L, pa, pc, hk, rfl, hst⟩ := hrel
      obtain ⟨wo, rfl⟩ : ∃ wo : World, wo = wr := ⟨_, rfl⟩
      by_cases hlt : k < m
      · have hltH := Lib.hid hlt
        have k6 : k < 6 := by omega
        go_wp2_with fail
        go_loopw [10, 45] (fun s10 s45 wi => ∃ (i : Nat) (oa : Option Addr) (oc : Nat), i ≤ c ∧ s45 = .int .i64 i ∧ s10 = .slice oa i oc ∧ Hid (NewSl wo.heap.size wi 3 1 oa i oc (ints (rawL n i k))) ∧ Hid (Mods Nil wo wi)) (fun _ s45 _ => c - (intOf s45).toNat)
        case atStart => exact ⟨0, none, 0, by omega, rfl, rfl, Lib.hid NewSl.nil, Lib.hid Mods.refl⟩
        case round =>
          obtain ⟨i, oa, oc, hi, rfl, rfl, hN, hm⟩ := hrel
          by_cases hli : i < c
          · have hliH := Lib.hid hli
            have hn0 : ¬ (n : Int) = 0 := by omega
            have hki : (0 : Int) ≤ (k : Int) + (i : Int) := by omega
            go_upto_region 11 with fail
            apply wp_region_lit
            repeat ((fail_if_success at_builtin); go_step)
            have hal : Mods Nil wr (wr.alloc (.cells #[.int .i64 (((k : Int) + (i : Int)) % (n : Int))] 3)) := Mods.refl.alloc _
            refine wpList_append_sl (n := i) (xs := ints (rawL n i k)) (m := 1) (news := [.int .i64 (((k : Int) + (i : Int)) % (n : Int))]) (by rfl) (.tmp 48) (.tmp 54) (by rfl) elInt (by rfl) (hN.out.keep hal (fun _ _ => id)).1 (by rfl) (Rd.blk (cs := [.int .i64 (((k : Int) + (i : Int)) % (n : Int))]) (heap_new' _ (by simp)) rfl) (by simp [Value.oneCell']) (by simp only [maxLen]; omega) (by omega) ?_
            intro v' w5 h5 hg5 ho5 _
            obtain ⟨fa, fc, rfl, hN5, hm5⟩ := NewSl.app (W := wo) (hN.out.keep hal (fun _ _ => id)) (by simp; have := hm.out.size; omega) h5 hg5 ho5 (hm.out.trans hal (fun _ _ h => h)) (Nat.le_refl _)
            have hN6 : Hid (NewSl wo.heap.size w5 3 1 fa (i + 1) fc (ints (rawL n (i + 1) k))) := Lib.hid (by
              rw [raw_succ]
              simpa [ints] using hN5)
            have hm5H := Lib.hid hm5
            clear hm5 hN5 h5 hg5 ho5 hal hN
            go_wp2
            exact ⟨⟨i + 1, fa, fc, hliH.out, by go_num, rfl, hN6, hm5H⟩, by have := hliH.out; simp [intOf]; omega⟩
          · obtain rfl : i = c := by omega
            clear hli
            have hrl := raw_len n i k
            have hso := sortInt_walk wr oa oc (rawL n i k) (by rw [raw_len]; omega) (by rw [raw_len]; exact hN.out.1)
            rw [raw_len, raw_sort hn5 k6 hcn] at hso
            clear hrl
            go_upto_region 14 with (go_at_call 38; (with_reducible refine hso.mono ?_); rintro e w2 ⟨rfl, hS2, hm2⟩)
            have hN2 : Hid (NewSl wo.heap.size w2 3 1 oa i oc (ints (onL n i k))) := Lib.hid ⟨hS2, hN.out.2⟩
            have hm02 := Lib.hid (hm.out.trans hm2 (fun j hj e => by obtain ⟨a, ha, rfl⟩ := e; have := hN.out.2 a ha; omega))
            have hlen := Lib.hid (onL_c (n := n) (c := i) (k := k) hn5 k6 hcn)
            have hst2 := hst.out.keep hm02.out (fun _ h => h.elim)
            have cb := cellOf hst2.img
            have lb := ltOf hst2.img
            clear hso hS2 hm2 hN hm hst2
            refine wp_region_plan [(.pure, 0), (.pure, 1), (.pure, 2), (.pure, 3), (.read, 4), (.pure, 5), (.pure, 7), (.ben, 6), (.pure, 8), (.ben, 9), (.eff, 10), (.pure, 11), (.pure, 12), (.eff, 13)] 10 (fun W => Mods Nil _ W) mixed (by kernel_rfl) (by kernel_rfl) Mods.refl.drew ?_
            repeat first
               | (refine reg_pure (v := ?_) rfl rfl ?_ ?_; rotate_left 1; (· (intro W; go_simp <;> with_reducible rfl)); simp only [Act.put, List.setIfInBounds_toArray, List.set_cons_zero, List.set_cons_succ])
               | (refine reg_read (v := ?_) rfl rfl ?_ ?_; rotate_left 1; (· (intro W hW; have hW' := Mods.cells hW; go_simp <;> with_reducible rfl)); simp only [Act.put, List.setIfInBounds_toArray, List.set_cons_zero, List.set_cons_succ])
               | (refine reg_off (by rfl) (by rfl) ?_; simp only [Act.put, List.setIfInBounds_toArray, List.set_cons_zero, List.set_cons_succ])
               | (refine reg_pure_on (v := ?_) rfl (by rfl) ?_ ?_; rotate_left 1; (· (intro W; go_simp <;> with_reducible rfl)); simp only [Act.put, List.setIfInBounds_toArray, List.set_cons_zero, List.set_cons_succ])
               | (refine reg_read_on (v := ?_) rfl (by rfl) ?_ ?_; rotate_left 1; (· (intro W hW; have hW' := Mods.cells hW; go_simp <;> with_reducible rfl)); simp only [Act.put, List.setIfInBounds_toArray, List.set_cons_zero, List.set_cons_succ])
            refine reg_ben (by rfl) (by rfl) (fun K hK => ?_)
            go_simp
            have hcl := clone_walk w2.drew oa oc (onL n i k) (by rw [hlen.out]; omega) (by rw [hlen.out]; exact hN2.out.1)
            rw [hlen.out] at hcl
            (with_reducible refine hcl.mono ?_)
            clear hcl
            rintro e w3 ⟨ca, cc, rfl, hC3, hm3⟩
            replace hm3 := Mods.drew_left hm3
            refine hK _ _ hm3 ?_
            clear hK K
            repeat first
               | (refine reg_pure (v := ?_) rfl rfl ?_ ?_; rotate_left 1; (· (intro W; go_simp <;> with_reducible rfl)); simp only [Act.put, List.setIfInBounds_toArray, List.set_cons_zero, List.set_cons_succ])
               | (refine reg_read (v := ?_) rfl rfl ?_ ?_; rotate_left 1; (· (intro W hW; have hW' := Mods.cells hW; go_simp <;> with_reducible rfl)); simp only [Act.put, List.setIfInBounds_toArray, List.set_cons_zero, List.set_cons_succ])
               | (refine reg_off (by rfl) (by rfl) ?_; simp only [Act.put, List.setIfInBounds_toArray, List.set_cons_zero, List.set_cons_succ])
               | (refine reg_pure_on (v := ?_) rfl (by rfl) ?_ ?_; rotate_left 1; (· (intro W; go_simp <;> with_reducible rfl)); simp only [Act.put, List.setIfInBounds_toArray, List.set_cons_zero, List.set_cons_succ])
               | (refine reg_read_on (v := ?_) rfl (by rfl) ?_ ?_; rotate_left 1; (· (intro W hW; have hW' := Mods.cells hW; go_simp <;> with_reducible rfl)); simp only [Act.put, List.setIfInBounds_toArray, List.set_cons_zero, List.set_cons_succ])
            refine reg_ben (by rfl) (by rfl) (fun K hK => ?_)
            go_simp
            refine hK _ _ (hm3.alloc _) ?_
            clear hK K
            have hal : Mods Nil w3 (w3.alloc (.cells #[.int .i64 (-1), .int .i64 0, .int .i64 0, .slice ca i cc, .slice oa i oc, .slice none 0 0] 99)) := Mods.refl.alloc _
            have hn4 := heap_new w3 (.cells #[.int .i64 (-1), .int .i64 0, .int .i64 0, .slice ca i cc, .slice oa i oc, .slice none 0 0] 99)
            have hm04 := Lib.hid ((hm02.out.trans hm3 (fun _ _ h => h)).trans hal (fun _ _ h => h))
            have hN4 := Lib.hid ((hN2.out.keep hm3 (fun _ _ => id)).keep hal (fun _ _ => id))
            have hC4 : Hid (NewSl wo.heap.size (w3.alloc (.cells #[.int .i64 (-1), .int .i64 0, .int .i64 0, .slice ca i cc, .slice oa i oc, .slice none 0 0] 99)) 3 1 ca i cc (ints (onL n i k))) := Lib.hid ⟨(hC3.keep hal (fun _ _ => id)).1, fun a ha => by have := hC3.2 a ha; have := hm02.out.size; simp at *; omega⟩
            have hst4 := hst.out.keep hm04.out (fun _ h => h.elim)
            have hsl4 := hst4.sl.1
            have cb4 := cellOf hst4.img
            have lb4 := ltOf hst4.img
            clear hm3 hC3 hal
            generalize hw4 : w3.alloc (.cells #[.int .i64 (-1), .int .i64 0, .int .i64 0, .slice ca i cc, .slice oa i oc, .slice none 0 0] 99) = w4 at *
            generalize w3.heap.size = B3 at *
            clear hw4
            try simp only [Act.put, List.setIfInBounds_toArray, List.set_cons_zero, List.set_cons_succ]
            repeat first
               | (refine reg_pure (v := ?_) rfl rfl ?_ ?_; rotate_left 1; (· (intro W; go_simp <;> with_reducible rfl)); simp only [Act.put, List.setIfInBounds_toArray, List.set_cons_zero, List.set_cons_succ])
               | (refine reg_read (v := ?_) rfl rfl ?_ ?_; rotate_left 1; (· (intro W hW; skip; go_simp <;> with_reducible rfl)); simp only [Act.put, List.setIfInBounds_toArray, List.set_cons_zero, List.set_cons_succ])
               | (refine reg_off (by rfl) (by rfl) ?_; simp only [Act.put, List.setIfInBounds_toArray, List.set_cons_zero, List.set_cons_succ])
               | (refine reg_pure_on (v := ?_) rfl (by rfl) ?_ ?_; rotate_left 1; (· (intro W; go_simp <;> with_reducible rfl)); simp only [Act.put, List.setIfInBounds_toArray, List.set_cons_zero, List.set_cons_succ])
               | (refine reg_read_on (v := ?_) rfl (by rfl) ?_ ?_; rotate_left 1; (· (intro W hW; skip; go_simp <;> with_reducible rfl)); simp only [Act.put, List.setIfInBounds_toArray, List.set_cons_zero, List.set_cons_succ])
            refine reg_eff (by rfl) (by rfl) (fun K hK => ?_)
            refine wp_append_sl (.tmp 63) (.tmp 68) (by rfl) elPart (by rfl) (w := w4) hsl4 (by rfl) (Rd.blk (cs := [.int .i64 (-1), .int .i64 0, .int .i64 0, .slice ca i cc, .slice oa i oc, .slice none 0 0]) hn4 rfl) (by simp [Value.oneCell']) (by simp only [maxLen]; omega) (by omega) ?_
            intro v' w5 h5 hg5 ho5 _
            refine hK _ _ ?_
            clear hK K
            have hbi5 : w5.heap[bi]? = some (.cells #[.slice (some ⟨gn, 0, none⟩) n n, .slice pa k pc, .pointer (some ⟨gc, 0, none⟩), .int .i64 0] 95 (0, 0)) := (hg5.block bi lb4 (fun e => by
              obtain ⟨x, hx, hxe⟩ := ownOf e.symm
              exact (hst4.apart x hx).1 hxe)).trans hst4.img
            obtain ⟨qa, qc, L2, rfl, hst5⟩ := hst.out.step hn5 k6 hcn hbase.out hm04.out hN4.out hC4.out h5 hg5 ho5
            have c5 := cellOf hbi5
            have f5 := frzOf hbi5
            have l5 := ltOf hbi5
            replace hst5 := Lib.hid hst5
            clear hst4 hn4 hsl4 cb4 lb4 cb lb h5 hg5 ho5 hbi5
            try simp only [Act.put, List.setIfInBounds_toArray, List.set_cons_zero, List.set_cons_succ]
            repeat first
               | (refine reg_pure (v := ?_) rfl rfl ?_ ?_; rotate_left 1; (· (intro W; go_simp <;> with_reducible rfl)); simp only [Act.put, List.setIfInBounds_toArray, List.set_cons_zero, List.set_cons_succ])
               | (refine reg_read (v := ?_) rfl rfl ?_ ?_; rotate_left 1; (· (intro W hW; skip; go_simp <;> with_reducible rfl)); simp only [Act.put, List.setIfInBounds_toArray, List.set_cons_zero, List.set_cons_succ])
               | (refine reg_off (by rfl) (by rfl) ?_; simp only [Act.put, List.setIfInBounds_toArray, List.set_cons_zero, List.set_cons_succ])
               | (refine reg_pure_on (v := ?_) rfl (by rfl) ?_ ?_; rotate_left 1; (· (intro W; go_simp <;> with_reducible rfl)); simp only [Act.put, List.setIfInBounds_toArray, List.set_cons_zero, List.set_cons_succ])
               | (refine reg_read_on (v := ?_) rfl (by rfl) ?_ ?_; rotate_left 1; (· (intro W hW; skip; go_simp <;> with_reducible rfl)); simp only [Act.put, List.setIfInBounds_toArray, List.set_cons_zero, List.set_cons_succ])
            refine reg_eff (by rfl) (by rfl) (fun K hK => ?_)
            go_simp
            refine hK _ _ ?_
            clear hK K
            refine reg_done (qnp_normal ?_)
            clear c5 f5 l5
            go_wp2
            exact ⟨⟨k + 1, L2, qa, qc, hltH.out, by go_num, by first | exact hst5 | exact Lib.hid (hst5.out.keep (S := Nil) (by repeat (first | exact Mods.refl | apply Mods.drew)) (fun _ h => h.elim))⟩, by have := hltH.out; simp [intOf]; omega⟩
      · obtain rfl : k = m := by omega
        clear hlt
        go_wp2
        go_ret2
        exact hst.out.post hn5 hm hbase.out
end Go.Proofs.Ytnnoicacpcahfaa
