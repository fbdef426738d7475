/- The reference's New, walked. No condition. -/
import Derived.Test.YtnnoicacpcahfaaRimNewSt
namespace Go.Proofs.Ytnnoicacpcahfaa
open Go.RowKit

def RCut (w : World) (n : Nat) (s8 : Value) (wc : World) : Prop :=
  ∃ rb ga gm gk, s8 = .pointer (some ⟨rb, 0, none⟩) ∧ RApart w.heap.size rb ga gm gk ∧ ∀ c, RNewSt w wc rb ga gm gk n c 0 [] none 0
theorem RCut.mk {w w3 : World} {n ga gm gk : Nat} {l : List (Nat × Nat × Value)} (h : MkSt w w3 n l) (h1 : (ga, 4, .bool false) ∈ l) (h2 : (gm, 3, .int .i64 0) ∈ l) (h3 : (gk, 29, .int .u64 0) ∈ l) (hd : ga ≠ gm ∧ ga ≠ gk ∧ gm ≠ gk) :
    RCut w n (.pointer (some ⟨w3.heap.size, 0, none⟩)) (w3.alloc (.cells #[.slice (some ⟨ga, 0, none⟩) n n, .slice (some ⟨gm, 0, none⟩) n n, .slice (some ⟨gk, 0, none⟩) n n, .slice none 0 0, .int .u64 1, .int .i64 0] 102)) := by
  have hal : Mods Nil w3 (w3.alloc (.cells #[.slice (some ⟨ga, 0, none⟩) n n, .slice (some ⟨gm, 0, none⟩) n n, .slice (some ⟨gk, 0, none⟩) n n, .slice none 0 0, .int .u64 1, .int .i64 0] 102)) := Mods.refl.alloc _
  have l1 : ga < w3.heap.size := h.lt _ h1
  have l2 : gm < w3.heap.size := h.lt _ h2
  have l3 : gk < w3.heap.size := h.lt _ h3
  exact ⟨w3.heap.size, ga, gm, gk, rfl, ⟨h.mods.size, h.ge _ h1, h.ge _ h2, h.ge _ h3, by omega, by omega, by omega, hd.1, hd.2.1, hd.2.2⟩, fun c => ⟨heap_new w3 _, slKeep (h.sl _ h1) hal (fun _ _ => id), slKeep (h.sl _ h2) hal (fun _ _ => id), slKeep (h.sl _ h3) hal (fun _ _ => id), NewSl.nil, by simp, rfl, by simp, h.mods.trans hal (fun _ _ h => h)⟩⟩
theorem RCut.drew {w wc : World} {n : Nat} {s8 : Value} (h : RCut w n s8 wc) : RCut w n s8 wc.drew := by
  obtain ⟨rb, ga, gm, gk, h1, h2, h3⟩ := h
  exact ⟨rb, ga, gm, gk, h1, h2, fun c => (h3 c).keep Mods.refl.drew⟩

set_option maxRecDepth 100000 in
set_option maxHeartbeats 6400000 in
theorem rnew_walk (w : World) (n m c : Nat) (hn : 1 ≤ n) (hn5 : n ≤ 5) (hm : 1 ≤ m) (hm6 : m ≤ 6) (hc : 1 ≤ c) (hcn : c ≤ n) :
    Calls Try.prog 19 #[.int .i64 n, .int .i64 m, .int .i64 c] w
      fun e w' => RNewPost w n m c e w' := by
  have mkGen : ∀ (t e : Nat) (z : Value) (b : Nat), Try.prog.underlying t = some (.slice e) → (Try.prog.info? e).map (fun i => (i.zero, i.size, i.bytes)) = some (some z, 1, b) → 5 * b ≤ 1000 → z.cells.size = 1 → ∀ W, (Instr.makeSlice t (.int .i64 n) (.int .i64 n)).run Try.prog W = .ok (.slice (some ⟨W.heap.size, 0, none⟩) n n) (W.alloc (.cells (madeCells z.cells (n * 1)) e)) := fun t e z b ht hi hb hz W => by
    obtain ⟨i0, hi0, hz0, hz1, hz2⟩ := info_parts hi
    have hb' : b * n ≤ 1000 := Nat.le_trans (Nat.mul_le_mul_left b hn5) (by rw [Nat.mul_comm]; exact hb)
    have := run_make (P := Try.prog) W t e i0 _ ht hi0 hz0 .i64 .i64 n n (by omega) (by omega) (by rw [hz2]; omega) (by omega)
    rw [hz1, Int.toNat_natCast] at this
    exact this
  have hmB : ∀ W, (Instr.makeSlice 100 (.int .i64 n) (.int .i64 n)).run Try.prog W = .ok (.slice (some ⟨W.heap.size, 0, none⟩) n n) (W.alloc (.cells (madeCells #[.bool false] (n * 1)) 4)) := mkGen 100 4 (.bool false) 1 Try.underlying100 (by kernel_rfl) (by omega) rfl
  have hmI : ∀ W, (Instr.makeSlice 59 (.int .i64 n) (.int .i64 n)).run Try.prog W = .ok (.slice (some ⟨W.heap.size, 0, none⟩) n n) (W.alloc (.cells (madeCells #[.int .i64 0] (n * 1)) 3)) := mkGen 59 3 (.int .i64 0) 8 Try.underlying59 (by kernel_rfl) (by omega) rfl
  have hmU : ∀ W, (Instr.makeSlice 88 (.int .i64 n) (.int .i64 n)).run Try.prog W = .ok (.slice (some ⟨W.heap.size, 0, none⟩) n n) (W.alloc (.cells (madeCells #[.int .u64 0] (n * 1)) 29)) := mkGen 88 29 (.int .u64 0) 8 Try.underlying88 (by kernel_rfl) (by omega) rfl
  clear mkGen
  have i1 : ¬ (n : Int) < 1 := by omega
  have i2 : ¬ (5 : Int) < n := by omega
  have i3 : ¬ (m : Int) < 1 := by omega
  have i4 : ¬ (6 : Int) < m := by omega
  have i5 : ¬ (c : Int) < 1 := by omega
  have i6 : ¬ (n : Int) < c := by omega
  have hnm : n ≤ maxLen := by unfold maxLen; omega
  go_enter Try.func19, Try.ntmps19
  go_upto_region 3 with fail
  go_cut [8] (fun s8 wc => RCut w n s8 wc)
  case first =>
    refine wp_region_tree (.step .pure 0 (.step .pure 2 (.step .pure 4 (.three 1 3 5 (.two 3 5 (Tr.of [(.ben, 5), (.pure, 6), (.ben, 7), (.pure, 8)]) (Tr.of [(.ben, 3), (.pure, 6), (.ben, 7), (.pure, 8)])) (.two 1 5 (Tr.of [(.ben, 5), (.pure, 6), (.ben, 7), (.pure, 8)]) (Tr.of [(.ben, 1), (.pure, 6), (.ben, 7), (.pure, 8)])) (.two 1 3 (Tr.of [(.ben, 3), (.pure, 6), (.ben, 7), (.pure, 8)]) (Tr.of [(.ben, 1), (.pure, 6), (.ben, 7), (.pure, 8)])))))) 9 (fun W => Mods Nil w W) mixed (by kernel_rfl) (by kernel_rfl) Mods.refl.drew ?_
    refine tree_pure (v := ?_) rfl rfl ?_ ?_; rotate_left 1; (· (intro W; go_simp <;> with_reducible rfl))
    try simp only [Act.put, List.setIfInBounds_toArray, List.set_cons_zero, List.set_cons_succ]
    refine tree_pure (v := ?_) rfl rfl ?_ ?_; rotate_left 1; (· (intro W; go_simp <;> with_reducible rfl))
    try simp only [Act.put, List.setIfInBounds_toArray, List.set_cons_zero, List.set_cons_succ]
    refine tree_pure (v := ?_) rfl rfl ?_ ?_; rotate_left 1; (· (intro W; go_simp <;> with_reducible rfl))
    try simp only [Act.put, List.setIfInBounds_toArray, List.set_cons_zero, List.set_cons_succ]
    refine ⟨?_, ?_, ?_⟩
    · refine fork_ben (by rfl) (by rfl) (fun K hK => ?_)
      go_simp
      have s1 := MkSt.add (MkSt.nil (w := w) (n := n)) 4 (.bool false) hnm
      refine hK _ _ s1.drew.mods ?_
      clear hK K
      generalize w.alloc (.cells (madeCells #[.bool false] n) 4) = w1 at *
      generalize hgxa : w.heap.size = xa at *
      replace hgxa := Lib.hid hgxa
      try simp only [Act.put, List.setIfInBounds_toArray, List.set_cons_zero, List.set_cons_succ]
      refine ⟨?_, ?_⟩
      · refine fork_ben (by rfl) (by rfl) (fun K hK => ?_)
        go_simp
        have s2 := MkSt.add s1 3 (.int .i64 0) hnm
        refine hK _ _ s2.drew.mods ?_
        clear hK K
        generalize w1.alloc (.cells (madeCells #[.int .i64 0] n) 3) = w2 at *
        generalize hgxb : w1.heap.size = xb at *
        replace hgxb := Lib.hid hgxb
        try simp only [Act.put, List.setIfInBounds_toArray, List.set_cons_zero, List.set_cons_succ]
        refine tree_list ?_
        refine reg_ben (by rfl) (by rfl) (fun K hK => ?_)
        go_simp
        have s3 := MkSt.add s2 29 (.int .u64 0) hnm
        refine hK _ _ s3.drew.mods ?_
        clear hK K
        generalize w2.alloc (.cells (madeCells #[.int .u64 0] n) 29) = w3 at *
        generalize hgxc : w2.heap.size = xc at *
        replace hgxc := Lib.hid hgxc
        try simp only [Act.put, List.setIfInBounds_toArray, List.set_cons_zero, List.set_cons_succ]
        have hnd := s3.nd
        have hcut := RCut.mk s3 (ga := xa) (gm := xb) (gk := xc) (by simp) (by simp) (by simp) (by simp at hnd; omega)
        have s4 := s3.mods
        replace hcut := hcut.drew
        clear hnd s1 s2
        replace hcut := Lib.hid hcut
        repeat first
           | (refine reg_pure (v := ?_) rfl rfl ?_ ?_; rotate_left 1; (· (intro W; go_simp <;> with_reducible rfl)); simp only [Act.put, List.setIfInBounds_toArray, List.set_cons_zero, List.set_cons_succ])
           | (refine reg_read (v := ?_) rfl rfl ?_ ?_; rotate_left 1; (· (intro W hW; skip; go_simp <;> with_reducible rfl)); simp only [Act.put, List.setIfInBounds_toArray, List.set_cons_zero, List.set_cons_succ])
           | (refine reg_off (by rfl) (by rfl) ?_; simp only [Act.put, List.setIfInBounds_toArray, List.set_cons_zero, List.set_cons_succ])
           | (refine reg_pure_on (v := ?_) rfl (by rfl) ?_ ?_; rotate_left 1; (· (intro W; go_simp <;> with_reducible rfl)); simp only [Act.put, List.setIfInBounds_toArray, List.set_cons_zero, List.set_cons_succ])
           | (refine reg_read_on (v := ?_) rfl (by rfl) ?_ ?_; rotate_left 1; (· (intro W hW; skip; go_simp <;> with_reducible rfl)); simp only [Act.put, List.setIfInBounds_toArray, List.set_cons_zero, List.set_cons_succ])
        refine reg_ben (by rfl) (by rfl) (fun K hK => ?_)
        go_simp
        refine hK _ _ (s4.alloc _).drew ?_
        clear hK K
        repeat first
           | (refine reg_pure (v := ?_) rfl rfl ?_ ?_; rotate_left 1; (· (intro W; go_simp <;> with_reducible rfl)); simp only [Act.put, List.setIfInBounds_toArray, List.set_cons_zero, List.set_cons_succ])
           | (refine reg_read (v := ?_) rfl rfl ?_ ?_; rotate_left 1; (· (intro W hW; skip; go_simp <;> with_reducible rfl)); simp only [Act.put, List.setIfInBounds_toArray, List.set_cons_zero, List.set_cons_succ])
           | (refine reg_off (by rfl) (by rfl) ?_; simp only [Act.put, List.setIfInBounds_toArray, List.set_cons_zero, List.set_cons_succ])
           | (refine reg_pure_on (v := ?_) rfl (by rfl) ?_ ?_; rotate_left 1; (· (intro W; go_simp <;> with_reducible rfl)); simp only [Act.put, List.setIfInBounds_toArray, List.set_cons_zero, List.set_cons_succ])
           | (refine reg_read_on (v := ?_) rfl (by rfl) ?_ ?_; rotate_left 1; (· (intro W hW; skip; go_simp <;> with_reducible rfl)); simp only [Act.put, List.setIfInBounds_toArray, List.set_cons_zero, List.set_cons_succ])
        refine reg_done (qnp_normal ?_)
        go_wp2
        go_meet
        exact hcut.out
      · refine fork_ben (by rfl) (by rfl) (fun K hK => ?_)
        go_simp
        have s2 := MkSt.add s1 29 (.int .u64 0) hnm
        refine hK _ _ s2.drew.mods ?_
        clear hK K
        generalize w1.alloc (.cells (madeCells #[.int .u64 0] n) 29) = w2 at *
        generalize hgxb : w1.heap.size = xb at *
        replace hgxb := Lib.hid hgxb
        try simp only [Act.put, List.setIfInBounds_toArray, List.set_cons_zero, List.set_cons_succ]
        refine tree_list ?_
        refine reg_ben (by rfl) (by rfl) (fun K hK => ?_)
        go_simp
        have s3 := MkSt.add s2 3 (.int .i64 0) hnm
        refine hK _ _ s3.drew.mods ?_
        clear hK K
        generalize w2.alloc (.cells (madeCells #[.int .i64 0] n) 3) = w3 at *
        generalize hgxc : w2.heap.size = xc at *
        replace hgxc := Lib.hid hgxc
        try simp only [Act.put, List.setIfInBounds_toArray, List.set_cons_zero, List.set_cons_succ]
        have hnd := s3.nd
        have hcut := RCut.mk s3 (ga := xa) (gm := xc) (gk := xb) (by simp) (by simp) (by simp) (by simp at hnd; omega)
        have s4 := s3.mods
        replace hcut := hcut.drew
        clear hnd s1 s2
        replace hcut := Lib.hid hcut
        repeat first
           | (refine reg_pure (v := ?_) rfl rfl ?_ ?_; rotate_left 1; (· (intro W; go_simp <;> with_reducible rfl)); simp only [Act.put, List.setIfInBounds_toArray, List.set_cons_zero, List.set_cons_succ])
           | (refine reg_read (v := ?_) rfl rfl ?_ ?_; rotate_left 1; (· (intro W hW; skip; go_simp <;> with_reducible rfl)); simp only [Act.put, List.setIfInBounds_toArray, List.set_cons_zero, List.set_cons_succ])
           | (refine reg_off (by rfl) (by rfl) ?_; simp only [Act.put, List.setIfInBounds_toArray, List.set_cons_zero, List.set_cons_succ])
           | (refine reg_pure_on (v := ?_) rfl (by rfl) ?_ ?_; rotate_left 1; (· (intro W; go_simp <;> with_reducible rfl)); simp only [Act.put, List.setIfInBounds_toArray, List.set_cons_zero, List.set_cons_succ])
           | (refine reg_read_on (v := ?_) rfl (by rfl) ?_ ?_; rotate_left 1; (· (intro W hW; skip; go_simp <;> with_reducible rfl)); simp only [Act.put, List.setIfInBounds_toArray, List.set_cons_zero, List.set_cons_succ])
        refine reg_ben (by rfl) (by rfl) (fun K hK => ?_)
        go_simp
        refine hK _ _ (s4.alloc _).drew ?_
        clear hK K
        repeat first
           | (refine reg_pure (v := ?_) rfl rfl ?_ ?_; rotate_left 1; (· (intro W; go_simp <;> with_reducible rfl)); simp only [Act.put, List.setIfInBounds_toArray, List.set_cons_zero, List.set_cons_succ])
           | (refine reg_read (v := ?_) rfl rfl ?_ ?_; rotate_left 1; (· (intro W hW; skip; go_simp <;> with_reducible rfl)); simp only [Act.put, List.setIfInBounds_toArray, List.set_cons_zero, List.set_cons_succ])
           | (refine reg_off (by rfl) (by rfl) ?_; simp only [Act.put, List.setIfInBounds_toArray, List.set_cons_zero, List.set_cons_succ])
           | (refine reg_pure_on (v := ?_) rfl (by rfl) ?_ ?_; rotate_left 1; (· (intro W; go_simp <;> with_reducible rfl)); simp only [Act.put, List.setIfInBounds_toArray, List.set_cons_zero, List.set_cons_succ])
           | (refine reg_read_on (v := ?_) rfl (by rfl) ?_ ?_; rotate_left 1; (· (intro W hW; skip; go_simp <;> with_reducible rfl)); simp only [Act.put, List.setIfInBounds_toArray, List.set_cons_zero, List.set_cons_succ])
        refine reg_done (qnp_normal ?_)
        go_wp2
        go_meet
        exact hcut.out
    · refine fork_ben (by rfl) (by rfl) (fun K hK => ?_)
      go_simp
      have s1 := MkSt.add (MkSt.nil (w := w) (n := n)) 3 (.int .i64 0) hnm
      refine hK _ _ s1.drew.mods ?_
      clear hK K
      generalize w.alloc (.cells (madeCells #[.int .i64 0] n) 3) = w1 at *
      generalize hgxa : w.heap.size = xa at *
      replace hgxa := Lib.hid hgxa
      try simp only [Act.put, List.setIfInBounds_toArray, List.set_cons_zero, List.set_cons_succ]
      refine ⟨?_, ?_⟩
      · refine fork_ben (by rfl) (by rfl) (fun K hK => ?_)
        go_simp
        have s2 := MkSt.add s1 4 (.bool false) hnm
        refine hK _ _ s2.drew.mods ?_
        clear hK K
        generalize w1.alloc (.cells (madeCells #[.bool false] n) 4) = w2 at *
        generalize hgxb : w1.heap.size = xb at *
        replace hgxb := Lib.hid hgxb
        try simp only [Act.put, List.setIfInBounds_toArray, List.set_cons_zero, List.set_cons_succ]
        refine tree_list ?_
        refine reg_ben (by rfl) (by rfl) (fun K hK => ?_)
        go_simp
        have s3 := MkSt.add s2 29 (.int .u64 0) hnm
        refine hK _ _ s3.drew.mods ?_
        clear hK K
        generalize w2.alloc (.cells (madeCells #[.int .u64 0] n) 29) = w3 at *
        generalize hgxc : w2.heap.size = xc at *
        replace hgxc := Lib.hid hgxc
        try simp only [Act.put, List.setIfInBounds_toArray, List.set_cons_zero, List.set_cons_succ]
        have hnd := s3.nd
        have hcut := RCut.mk s3 (ga := xb) (gm := xa) (gk := xc) (by simp) (by simp) (by simp) (by simp at hnd; omega)
        have s4 := s3.mods
        replace hcut := hcut.drew
        clear hnd s1 s2
        replace hcut := Lib.hid hcut
        repeat first
           | (refine reg_pure (v := ?_) rfl rfl ?_ ?_; rotate_left 1; (· (intro W; go_simp <;> with_reducible rfl)); simp only [Act.put, List.setIfInBounds_toArray, List.set_cons_zero, List.set_cons_succ])
           | (refine reg_read (v := ?_) rfl rfl ?_ ?_; rotate_left 1; (· (intro W hW; skip; go_simp <;> with_reducible rfl)); simp only [Act.put, List.setIfInBounds_toArray, List.set_cons_zero, List.set_cons_succ])
           | (refine reg_off (by rfl) (by rfl) ?_; simp only [Act.put, List.setIfInBounds_toArray, List.set_cons_zero, List.set_cons_succ])
           | (refine reg_pure_on (v := ?_) rfl (by rfl) ?_ ?_; rotate_left 1; (· (intro W; go_simp <;> with_reducible rfl)); simp only [Act.put, List.setIfInBounds_toArray, List.set_cons_zero, List.set_cons_succ])
           | (refine reg_read_on (v := ?_) rfl (by rfl) ?_ ?_; rotate_left 1; (· (intro W hW; skip; go_simp <;> with_reducible rfl)); simp only [Act.put, List.setIfInBounds_toArray, List.set_cons_zero, List.set_cons_succ])
        refine reg_ben (by rfl) (by rfl) (fun K hK => ?_)
        go_simp
        refine hK _ _ (s4.alloc _).drew ?_
        clear hK K
        repeat first
           | (refine reg_pure (v := ?_) rfl rfl ?_ ?_; rotate_left 1; (· (intro W; go_simp <;> with_reducible rfl)); simp only [Act.put, List.setIfInBounds_toArray, List.set_cons_zero, List.set_cons_succ])
           | (refine reg_read (v := ?_) rfl rfl ?_ ?_; rotate_left 1; (· (intro W hW; skip; go_simp <;> with_reducible rfl)); simp only [Act.put, List.setIfInBounds_toArray, List.set_cons_zero, List.set_cons_succ])
           | (refine reg_off (by rfl) (by rfl) ?_; simp only [Act.put, List.setIfInBounds_toArray, List.set_cons_zero, List.set_cons_succ])
           | (refine reg_pure_on (v := ?_) rfl (by rfl) ?_ ?_; rotate_left 1; (· (intro W; go_simp <;> with_reducible rfl)); simp only [Act.put, List.setIfInBounds_toArray, List.set_cons_zero, List.set_cons_succ])
           | (refine reg_read_on (v := ?_) rfl (by rfl) ?_ ?_; rotate_left 1; (· (intro W hW; skip; go_simp <;> with_reducible rfl)); simp only [Act.put, List.setIfInBounds_toArray, List.set_cons_zero, List.set_cons_succ])
        refine reg_done (qnp_normal ?_)
        go_wp2
        go_meet
        exact hcut.out
      · refine fork_ben (by rfl) (by rfl) (fun K hK => ?_)
        go_simp
        have s2 := MkSt.add s1 29 (.int .u64 0) hnm
        refine hK _ _ s2.drew.mods ?_
        clear hK K
        generalize w1.alloc (.cells (madeCells #[.int .u64 0] n) 29) = w2 at *
        generalize hgxb : w1.heap.size = xb at *
        replace hgxb := Lib.hid hgxb
        try simp only [Act.put, List.setIfInBounds_toArray, List.set_cons_zero, List.set_cons_succ]
        refine tree_list ?_
        refine reg_ben (by rfl) (by rfl) (fun K hK => ?_)
        go_simp
        have s3 := MkSt.add s2 4 (.bool false) hnm
        refine hK _ _ s3.drew.mods ?_
        clear hK K
        generalize w2.alloc (.cells (madeCells #[.bool false] n) 4) = w3 at *
        generalize hgxc : w2.heap.size = xc at *
        replace hgxc := Lib.hid hgxc
        try simp only [Act.put, List.setIfInBounds_toArray, List.set_cons_zero, List.set_cons_succ]
        have hnd := s3.nd
        have hcut := RCut.mk s3 (ga := xc) (gm := xa) (gk := xb) (by simp) (by simp) (by simp) (by simp at hnd; omega)
        have s4 := s3.mods
        replace hcut := hcut.drew
        clear hnd s1 s2
        replace hcut := Lib.hid hcut
        repeat first
           | (refine reg_pure (v := ?_) rfl rfl ?_ ?_; rotate_left 1; (· (intro W; go_simp <;> with_reducible rfl)); simp only [Act.put, List.setIfInBounds_toArray, List.set_cons_zero, List.set_cons_succ])
           | (refine reg_read (v := ?_) rfl rfl ?_ ?_; rotate_left 1; (· (intro W hW; skip; go_simp <;> with_reducible rfl)); simp only [Act.put, List.setIfInBounds_toArray, List.set_cons_zero, List.set_cons_succ])
           | (refine reg_off (by rfl) (by rfl) ?_; simp only [Act.put, List.setIfInBounds_toArray, List.set_cons_zero, List.set_cons_succ])
           | (refine reg_pure_on (v := ?_) rfl (by rfl) ?_ ?_; rotate_left 1; (· (intro W; go_simp <;> with_reducible rfl)); simp only [Act.put, List.setIfInBounds_toArray, List.set_cons_zero, List.set_cons_succ])
           | (refine reg_read_on (v := ?_) rfl (by rfl) ?_ ?_; rotate_left 1; (· (intro W hW; skip; go_simp <;> with_reducible rfl)); simp only [Act.put, List.setIfInBounds_toArray, List.set_cons_zero, List.set_cons_succ])
        refine reg_ben (by rfl) (by rfl) (fun K hK => ?_)
        go_simp
        refine hK _ _ (s4.alloc _).drew ?_
        clear hK K
        repeat first
           | (refine reg_pure (v := ?_) rfl rfl ?_ ?_; rotate_left 1; (· (intro W; go_simp <;> with_reducible rfl)); simp only [Act.put, List.setIfInBounds_toArray, List.set_cons_zero, List.set_cons_succ])
           | (refine reg_read (v := ?_) rfl rfl ?_ ?_; rotate_left 1; (· (intro W hW; skip; go_simp <;> with_reducible rfl)); simp only [Act.put, List.setIfInBounds_toArray, List.set_cons_zero, List.set_cons_succ])
           | (refine reg_off (by rfl) (by rfl) ?_; simp only [Act.put, List.setIfInBounds_toArray, List.set_cons_zero, List.set_cons_succ])
           | (refine reg_pure_on (v := ?_) rfl (by rfl) ?_ ?_; rotate_left 1; (· (intro W; go_simp <;> with_reducible rfl)); simp only [Act.put, List.setIfInBounds_toArray, List.set_cons_zero, List.set_cons_succ])
           | (refine reg_read_on (v := ?_) rfl (by rfl) ?_ ?_; rotate_left 1; (· (intro W hW; skip; go_simp <;> with_reducible rfl)); simp only [Act.put, List.setIfInBounds_toArray, List.set_cons_zero, List.set_cons_succ])
        refine reg_done (qnp_normal ?_)
        go_wp2
        go_meet
        exact hcut.out
    · refine fork_ben (by rfl) (by rfl) (fun K hK => ?_)
      go_simp
      have s1 := MkSt.add (MkSt.nil (w := w) (n := n)) 29 (.int .u64 0) hnm
      refine hK _ _ s1.drew.mods ?_
      clear hK K
      generalize w.alloc (.cells (madeCells #[.int .u64 0] n) 29) = w1 at *
      generalize hgxa : w.heap.size = xa at *
      replace hgxa := Lib.hid hgxa
      try simp only [Act.put, List.setIfInBounds_toArray, List.set_cons_zero, List.set_cons_succ]
      refine ⟨?_, ?_⟩
      · refine fork_ben (by rfl) (by rfl) (fun K hK => ?_)
        go_simp
        have s2 := MkSt.add s1 4 (.bool false) hnm
        refine hK _ _ s2.drew.mods ?_
        clear hK K
        generalize w1.alloc (.cells (madeCells #[.bool false] n) 4) = w2 at *
        generalize hgxb : w1.heap.size = xb at *
        replace hgxb := Lib.hid hgxb
        try simp only [Act.put, List.setIfInBounds_toArray, List.set_cons_zero, List.set_cons_succ]
        refine tree_list ?_
        refine reg_ben (by rfl) (by rfl) (fun K hK => ?_)
        go_simp
        have s3 := MkSt.add s2 3 (.int .i64 0) hnm
        refine hK _ _ s3.drew.mods ?_
        clear hK K
        generalize w2.alloc (.cells (madeCells #[.int .i64 0] n) 3) = w3 at *
        generalize hgxc : w2.heap.size = xc at *
        replace hgxc := Lib.hid hgxc
        try simp only [Act.put, List.setIfInBounds_toArray, List.set_cons_zero, List.set_cons_succ]
        have hnd := s3.nd
        have hcut := RCut.mk s3 (ga := xb) (gm := xc) (gk := xa) (by simp) (by simp) (by simp) (by simp at hnd; omega)
        have s4 := s3.mods
        replace hcut := hcut.drew
        clear hnd s1 s2
        replace hcut := Lib.hid hcut
        repeat first
           | (refine reg_pure (v := ?_) rfl rfl ?_ ?_; rotate_left 1; (· (intro W; go_simp <;> with_reducible rfl)); simp only [Act.put, List.setIfInBounds_toArray, List.set_cons_zero, List.set_cons_succ])
           | (refine reg_read (v := ?_) rfl rfl ?_ ?_; rotate_left 1; (· (intro W hW; skip; go_simp <;> with_reducible rfl)); simp only [Act.put, List.setIfInBounds_toArray, List.set_cons_zero, List.set_cons_succ])
           | (refine reg_off (by rfl) (by rfl) ?_; simp only [Act.put, List.setIfInBounds_toArray, List.set_cons_zero, List.set_cons_succ])
           | (refine reg_pure_on (v := ?_) rfl (by rfl) ?_ ?_; rotate_left 1; (· (intro W; go_simp <;> with_reducible rfl)); simp only [Act.put, List.setIfInBounds_toArray, List.set_cons_zero, List.set_cons_succ])
           | (refine reg_read_on (v := ?_) rfl (by rfl) ?_ ?_; rotate_left 1; (· (intro W hW; skip; go_simp <;> with_reducible rfl)); simp only [Act.put, List.setIfInBounds_toArray, List.set_cons_zero, List.set_cons_succ])
        refine reg_ben (by rfl) (by rfl) (fun K hK => ?_)
        go_simp
        refine hK _ _ (s4.alloc _).drew ?_
        clear hK K
        repeat first
           | (refine reg_pure (v := ?_) rfl rfl ?_ ?_; rotate_left 1; (· (intro W; go_simp <;> with_reducible rfl)); simp only [Act.put, List.setIfInBounds_toArray, List.set_cons_zero, List.set_cons_succ])
           | (refine reg_read (v := ?_) rfl rfl ?_ ?_; rotate_left 1; (· (intro W hW; skip; go_simp <;> with_reducible rfl)); simp only [Act.put, List.setIfInBounds_toArray, List.set_cons_zero, List.set_cons_succ])
           | (refine reg_off (by rfl) (by rfl) ?_; simp only [Act.put, List.setIfInBounds_toArray, List.set_cons_zero, List.set_cons_succ])
           | (refine reg_pure_on (v := ?_) rfl (by rfl) ?_ ?_; rotate_left 1; (· (intro W; go_simp <;> with_reducible rfl)); simp only [Act.put, List.setIfInBounds_toArray, List.set_cons_zero, List.set_cons_succ])
           | (refine reg_read_on (v := ?_) rfl (by rfl) ?_ ?_; rotate_left 1; (· (intro W hW; skip; go_simp <;> with_reducible rfl)); simp only [Act.put, List.setIfInBounds_toArray, List.set_cons_zero, List.set_cons_succ])
        refine reg_done (qnp_normal ?_)
        go_wp2
        go_meet
        exact hcut.out
      · refine fork_ben (by rfl) (by rfl) (fun K hK => ?_)
        go_simp
        have s2 := MkSt.add s1 3 (.int .i64 0) hnm
        refine hK _ _ s2.drew.mods ?_
        clear hK K
        generalize w1.alloc (.cells (madeCells #[.int .i64 0] n) 3) = w2 at *
        generalize hgxb : w1.heap.size = xb at *
        replace hgxb := Lib.hid hgxb
        try simp only [Act.put, List.setIfInBounds_toArray, List.set_cons_zero, List.set_cons_succ]
        refine tree_list ?_
        refine reg_ben (by rfl) (by rfl) (fun K hK => ?_)
        go_simp
        have s3 := MkSt.add s2 4 (.bool false) hnm
        refine hK _ _ s3.drew.mods ?_
        clear hK K
        generalize w2.alloc (.cells (madeCells #[.bool false] n) 4) = w3 at *
        generalize hgxc : w2.heap.size = xc at *
        replace hgxc := Lib.hid hgxc
        try simp only [Act.put, List.setIfInBounds_toArray, List.set_cons_zero, List.set_cons_succ]
        have hnd := s3.nd
        have hcut := RCut.mk s3 (ga := xc) (gm := xb) (gk := xa) (by simp) (by simp) (by simp) (by simp at hnd; omega)
        have s4 := s3.mods
        replace hcut := hcut.drew
        clear hnd s1 s2
        replace hcut := Lib.hid hcut
        repeat first
           | (refine reg_pure (v := ?_) rfl rfl ?_ ?_; rotate_left 1; (· (intro W; go_simp <;> with_reducible rfl)); simp only [Act.put, List.setIfInBounds_toArray, List.set_cons_zero, List.set_cons_succ])
           | (refine reg_read (v := ?_) rfl rfl ?_ ?_; rotate_left 1; (· (intro W hW; skip; go_simp <;> with_reducible rfl)); simp only [Act.put, List.setIfInBounds_toArray, List.set_cons_zero, List.set_cons_succ])
           | (refine reg_off (by rfl) (by rfl) ?_; simp only [Act.put, List.setIfInBounds_toArray, List.set_cons_zero, List.set_cons_succ])
           | (refine reg_pure_on (v := ?_) rfl (by rfl) ?_ ?_; rotate_left 1; (· (intro W; go_simp <;> with_reducible rfl)); simp only [Act.put, List.setIfInBounds_toArray, List.set_cons_zero, List.set_cons_succ])
           | (refine reg_read_on (v := ?_) rfl (by rfl) ?_ ?_; rotate_left 1; (· (intro W hW; skip; go_simp <;> with_reducible rfl)); simp only [Act.put, List.setIfInBounds_toArray, List.set_cons_zero, List.set_cons_succ])
        refine reg_ben (by rfl) (by rfl) (fun K hK => ?_)
        go_simp
        refine hK _ _ (s4.alloc _).drew ?_
        clear hK K
        repeat first
           | (refine reg_pure (v := ?_) rfl rfl ?_ ?_; rotate_left 1; (· (intro W; go_simp <;> with_reducible rfl)); simp only [Act.put, List.setIfInBounds_toArray, List.set_cons_zero, List.set_cons_succ])
           | (refine reg_read (v := ?_) rfl rfl ?_ ?_; rotate_left 1; (· (intro W hW; skip; go_simp <;> with_reducible rfl)); simp only [Act.put, List.setIfInBounds_toArray, List.set_cons_zero, List.set_cons_succ])
           | (refine reg_off (by rfl) (by rfl) ?_; simp only [Act.put, List.setIfInBounds_toArray, List.set_cons_zero, List.set_cons_succ])
           | (refine reg_pure_on (v := ?_) rfl (by rfl) ?_ ?_; rotate_left 1; (· (intro W; go_simp <;> with_reducible rfl)); simp only [Act.put, List.setIfInBounds_toArray, List.set_cons_zero, List.set_cons_succ])
           | (refine reg_read_on (v := ?_) rfl (by rfl) ?_ ?_; rotate_left 1; (· (intro W hW; skip; go_simp <;> with_reducible rfl)); simp only [Act.put, List.setIfInBounds_toArray, List.set_cons_zero, List.set_cons_succ])
        refine reg_done (qnp_normal ?_)
        go_wp2
        go_meet
        exact hcut.out
  case rest =>
    obtain ⟨rb, ga, gm, gk, rfl, hap, hst0⟩ := hcut
    replace hst0 := Lib.hid (hst0 c)
    replace hap := Lib.hid hap
    clear hmB hmI hmU i1 i2 i3 i4 i5 i6
    go_wp2_with fail
    go_loopw [9] (fun s9 wr => ∃ (k : Nat) (L : List Pt) (pa : Option Addr) (pc : Nat), k ≤ m ∧ s9 = .int .i64 k ∧ Hid (RNewSt w wr rb ga gm gk n c k L pa pc)) (fun s9 _ => m - (intOf s9).toNat)
    case atStart => exact ⟨0, [], none, 0, by omega, rfl, hst0⟩
    case round =>
      clear hst0
      obtain ⟨k, L, pa, pc, hk, rfl, hst⟩ := hrel
      obtain ⟨wo, rfl⟩ : ∃ wo : World, wo = wr := ⟨_, rfl⟩
      by_cases hlt : k < m
      · have hltH := Lib.hid hlt
        have k6 : k < 6 := by omega
        go_wp2_with fail
        go_loopw [10, 11] (fun s10 s11 wr => ∃ (j : Nat) (l : List Nat) (oa : Option Addr) (oc : Nat), j ≤ n ∧ s11 = .int .i64 j ∧ s10 = .slice oa l.length oc ∧ l.length ≤ j * 5 ∧ Hid (l = refN n c k j) ∧ Hid (NewSl wo.heap.size wr 3 1 oa l.length oc (ints (natI l))) ∧ Hid (Mods Nil wo wr)) (fun _ s11 _ => n - (intOf s11).toNat)
        case atStart => exact ⟨0, [], none, 0, by omega, rfl, rfl, by simp, Lib.hid rfl, Lib.hid NewSl.nil, Lib.hid Mods.refl⟩
        case round =>
          obtain ⟨j, l, oa, oc, hj, rfl, rfl, hll, hl, hN, hm⟩ := hrel
          obtain ⟨wm, rfl⟩ : ∃ wm : World, wm = wr := ⟨_, rfl⟩
          by_cases hjn : j < n
          · have hjnH := Lib.hid hjn
            go_wp2_with fail
            go_loopw [10, 12] (fun s10 s12 wr => ∃ (i : Nat) (l : List Nat) (oa : Option Addr) (oc : Nat), i ≤ c ∧ s12 = .int .i64 i ∧ s10 = .slice oa l.length oc ∧ l.length ≤ j * 5 + i ∧ Hid (l = refN n c k j ++ rowN n c k j i) ∧ Hid (NewSl wo.heap.size wr 3 1 oa l.length oc (ints (natI l))) ∧ Hid (Mods Nil wo wr)) (fun _ s12 _ => c - (intOf s12).toNat)
            case atStart => exact ⟨0, l, oa, oc, by omega, rfl, rfl, by omega, Lib.hid (by rw [hl.out]; simp [rowN]), hN, hm⟩
            case round =>
              clear hN hm hl hll
              obtain ⟨i, l, oa, oc, hi, rfl, rfl, hll, hl, hN, hm⟩ := hrel
              by_cases hic : i < c
              · have hicH := Lib.hid hic
                have hn0 : ¬ (n : Int) = 0 := by omega
                have hki : (0 : Int) ≤ (k : Int) + (i : Int) := by omega
                have hrow := Lib.hid (row_next n c k j i)
                by_cases he : (k + i) % n = j
                · have hb : (((k : Int) + (i : Int)) % (n : Int) == (j : Int)) = true := by
                    rw [beq_iff_eq, ← Int.natCast_add, ← Int.natCast_emod, he]
                  have hrow2 : Hid (rowN n c k j (i + 1) = rowN n c k j i ++ [j]) := Lib.hid (by rw [hrow.out, if_pos he])
                  clear he
                  go_upto_region 15 with fail
                  apply wp_region_lit
                  repeat ((fail_if_success at_builtin); go_step)
                  have hal : Mods Nil wr (wr.alloc (.cells #[.int .i64 (j : Int)] 3)) := Mods.refl.alloc _
                  refine wpList_append_sl (n := l.length) (xs := ints (natI l)) (m := 1) (news := [.int .i64 (j : Int)]) (by rfl) (.tmp 66) (.tmp 68) (by rfl) elInt (by rfl) (hN.out.keep hal (fun _ _ => id)).1 (by rfl) (Rd.blk (cs := [.int .i64 (j : Int)]) (heap_new' _ (by simp)) rfl) (by simp [Value.oneCell']) (by simp only [maxLen]; omega) (by omega) ?_
                  intro v' w5 h5 hg5 ho5 _
                  obtain ⟨fa, fc, rfl, hN5, hm5⟩ := NewSl.app (W := wo) (hN.out.keep hal (fun _ _ => id)) (by simp; have := hm.out.size; omega) h5 hg5 ho5 (hm.out.trans hal (fun _ _ h => h)) (Nat.le_refl _)
                  have hN6 : Hid (NewSl wo.heap.size w5 3 1 fa (l ++ [j]).length fc (ints (natI (l ++ [j])))) := Lib.hid (by
                    rw [natI_app]
                    simpa [ints, natI] using hN5)
                  have hl6 : Hid (l ++ [j] = refN n c k j ++ rowN n c k j (i + 1)) := Lib.hid (by rw [hl.out, hrow2.out, List.append_assoc])
                  have hm5H := Lib.hid hm5
                  clear hm5 hN5 h5 hg5 ho5 hal hN
                  go_wp2
                  exact ⟨⟨i + 1, l ++ [j], fa, fc, hicH.out, by go_num, by simp, by simp; omega, hl6, hN6, hm5H⟩, by have := hicH.out; simp [intOf]; omega⟩
                · have hb : (((k : Int) + (i : Int)) % (n : Int) == (j : Int)) = false := by
                    rw [beq_eq_false_iff_ne, ne_eq, ← Int.natCast_add, ← Int.natCast_emod]
                    omega
                  have hl6 : Hid (l = refN n c k j ++ rowN n c k j (i + 1)) := Lib.hid (by rw [hrow.out, if_neg he]; exact hl.out)
                  clear he
                  go_wp2
                  exact ⟨⟨i + 1, l, oa, oc, hicH.out, by go_num, rfl, by omega, hl6, hN, hm⟩, by have := hicH.out; simp [intOf]; omega⟩
              · obtain rfl : i = c := by omega
                clear hic
                have hl6 : Hid (l = refN n i k (j + 1)) := Lib.hid (by rw [ref_next]; exact hl.out)
                go_wp2
                exact ⟨⟨j + 1, l, oa, oc, hjnH.out, by go_num, rfl, by omega, hl6, hN, hm⟩, by have := hjnH.out; simp [intOf]; omega⟩
          · obtain rfl : j = n := by omega
            clear hjn
            have hNl := ref_onL (n := j) (c := c) hn5 k6 hcn
            rw [← hl.out] at hNl
            have hlc : l.length = c := by
              have := congrArg List.length hNl
              rw [onL_c hn5 k6 hcn] at this
              simpa [natI] using this
            rw [hNl, hlc] at hN
            rw [hlc]
            clear hNl hlc hl hll
            have hst2 := hst.out.keep hm.out
            have hal : Mods Nil wm (wm.alloc (.cells #[.int .i64 (-1), .int .i64 0, .int .i64 0, .slice oa c oc, .slice oa c oc, .slice none 0 0] 99)) := Mods.refl.alloc _
            have hn4 := heap_new wm (.cells #[.int .i64 (-1), .int .i64 0, .int .i64 0, .slice oa c oc, .slice oa c oc, .slice none 0 0] 99)
            have hm04 := Lib.hid (hm.out.trans hal (fun _ _ h => h))
            have hN4 := Lib.hid (hN.out.keep hal (fun _ _ => id))
            have hst4 := hst.out.keep hm04.out
            have hsl4 := hst4.sl.1
            have cb := cellOf hst2.box
            have lb := ltOf hst2.box
            clear hm hN hal hst2
            replace hst4 := Lib.hid hst4
            replace hsl4 := Lib.hid hsl4
            replace hn4 := Lib.hid hn4
            go_upto_region 16 with fail
            apply wp_region_lit
            repeat ((fail_if_success at_builtin); go_step)
            clear cb lb
            generalize wm.alloc (.cells #[.int .i64 (-1), .int .i64 0, .int .i64 0, .slice oa c oc, .slice oa c oc, .slice none 0 0] 99) = w4 at *
            generalize wm.heap.size = B3 at *
            refine wpList_append_sl (n := k) (xs := L.flatMap Pt.cells) (m := 1) (news := [.int .i64 (-1), .int .i64 0, .int .i64 0, .slice oa c oc, .slice oa c oc, .slice none 0 0]) (by rfl) (.tmp 74) (.tmp 78) (by rfl) elPart (by rfl) hsl4.out (by rfl) (Rd.blk (cs := [.int .i64 (-1), .int .i64 0, .int .i64 0, .slice oa c oc, .slice oa c oc, .slice none 0 0]) hn4.out rfl) (by simp [Value.oneCell']) (by simp only [maxLen]; omega) (by omega) ?_
            intro v' w5 h5 hg5 ho5 _
            have hbi5 := (hg5.block rb (ltOf hst4.out.box) (fun e => by
              obtain ⟨x, hx, hxe⟩ := ownOf e.symm
              exact (hst4.out.apart x hx).1 hxe)).trans hst4.out.box
            obtain ⟨qa, qc, L2, rfl, hst5⟩ := hst.out.step hn5 k6 hcn hap.out hm04.out hN4.out h5 hg5 ho5
            have c5 := cellOf hbi5
            have f5 := frzOf hbi5
            have l5 := ltOf hbi5
            replace hst5 := Lib.hid hst5
            clear hst4 hn4 hsl4 h5 hg5 ho5 hbi5
            go_wp2
            exact ⟨⟨k + 1, L2, qa, qc, hltH.out, by go_num, by first | exact hst5 | exact Lib.hid (hst5.out.keep (by repeat (first | exact Mods.refl | apply Mods.drew)))⟩, by have := hltH.out; simp [intOf]; omega⟩
      · obtain rfl : k = m := by omega
        clear hlt
        go_wp2
        go_ret2
        exact hst.out.post hn5 hm hap.out
end Go.Proofs.Ytnnoicacpcahfaa
