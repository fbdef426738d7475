/- Reference of layer 9: Apply, walked. No condition. -/
import Derived.Test.YtnnoicacpcahfaaProdSame
namespace Go.Proofs.Ytnnoicacpcahfaa
open Go.RowKit

/-- The reference's table is the list of what was applied. -/
def RefT (w : World) (bt : Nat) (l : List Bt) (F : Nat → Prop) : Prop :=
  F bt ∧ (∀ k, F k → k < w.heap.size) ∧ ∃ la lc, w.heap[bt]? = some (.cells #[.slice la l.length lc] 27) ∧ Sl w 32 9 (.slice la l.length lc) l.length (l.flatMap Bt.cells) ∧ ∀ a, la = some a → F a.block ∧ a.block ≠ bt
theorem RefT.keep {w w' : World} {bt : Nat} {l : List Bt} {F S : Nat → Prop} (h : RefT w bt l F) (hm : Mods S w w') (hn : ∀ k, F k → ¬ S k) : RefT w' bt l F := by
  obtain ⟨h1, h2, la, lc, h3, h4, h5⟩ := h
  exact ⟨h1, fun k hk => hm.lt (h2 k hk), la, lc, hm.keep h3 (hn _ h1), slKeep h4 hm (fun a ha => hn _ (h5 a ha).1), h5⟩

set_option maxRecDepth 100000 in
set_option maxHeartbeats 1600000 in
theorem refApply_zero (w : World) (bt : Nat) (b : Bt) (hp : b.pid = 0) :
    Calls Try.prog 10 #[.pointer (some ⟨bt, 0, none⟩), .agg #[.int .i64 b.base, .int .i64 b.ep, .int .u64 b.pid, .int .i64 b.pe, .int .i64 b.sq, .bool b.txn, .bool b.ctl, .bool b.com, .slice b.va b.vn b.vc]] w
      fun e w' => e = .returned (.tuple #[]) ∧ Mods Nil w w' := by
  rw [hp]
  go_enter Try.func10, Try.ntmps10
  go_wp2
  go_end0
  exact ⟨rfl, Mods.refl.alloc _⟩

set_option maxRecDepth 100000 in
set_option maxHeartbeats 1600000 in
theorem refApply_walk (w : World) (bt : Nat) (l : List Bt) (F : Nat → Prop) (b : Bt) (h : RefT w bt l F) (hp : 0 < b.pid) (hn : (l.length + 1) * 72 ≤ 140737488355328) :
    Calls Try.prog 10 #[.pointer (some ⟨bt, 0, none⟩), .agg #[.int .i64 b.base, .int .i64 b.ep, .int .u64 b.pid, .int .i64 b.pe, .int .i64 b.sq, .bool b.txn, .bool b.ctl, .bool b.com, .slice b.va b.vn b.vc]] w
      fun e w' => e = .returned (.tuple #[]) ∧ ∃ F', RefT w' bt (l ++ [b]) F' ∧ Mods F w w' ∧ ∀ j, F' j → F j ∨ w.heap.size ≤ j := by
  obtain ⟨hF, hFl, la, lc, hb, hsl, hla⟩ := h
  have lb := ltOf hb
  have cb := cellOf hb
  go_enter Try.func10, Try.ntmps10
  go_wp2
  have hm1 : Mods Nil w (w.alloc (.cells #[Value.int .i64 b.base, .int .i64 b.ep, .int .u64 b.pid, .int .i64 b.pe, .int .i64 b.sq, .bool b.txn, .bool b.ctl, .bool b.com, .slice b.va b.vn b.vc] 32)) := Mods.refl.alloc _
  have hp1 := heap_new w (.cells #[Value.int .i64 b.base, .int .i64 b.ep, .int .u64 b.pid, .int .i64 b.pe, .int .i64 b.sq, .bool b.txn, .bool b.ctl, .bool b.com, .slice b.va b.vn b.vc] 32)
  generalize hw1 : w.alloc (.cells #[Value.int .i64 b.base, .int .i64 b.ep, .int .u64 b.pid, .int .i64 b.pe, .int .i64 b.sq, .bool b.txn, .bool b.ctl, .bool b.com, .slice b.va b.vn b.vc] 32) = w1 at *
  clear hw1
  have hb1 := hm1.keep hb id
  have cb1 := cellOf hb1
  have cp1 := cellOf hp1
  have lb1 := ltOf hb1
  have lp1 := ltOf hp1
  have hsl1 := slKeep hsl hm1 (fun _ _ => id)
  refine wp_region_plan [(.pure, 0), (.pure, 1), (.pure, 2), (.pure, 3), (.read, 4), (.read, 5), (.ben, 6), (.eff, 7), (.pure, 8), (.pure, 9), (.eff, 10)] 7 (fun W => Mods Nil _ W) mixed (by kernel_rfl) (by kernel_rfl) Mods.refl.drew ?_
  repeat first
     | (refine reg_pure (v := ?_) rfl rfl ?_ ?_; rotate_left 1; (· (intro W; go_simp <;> with_reducible rfl)); simp only [Act.put, List.setIfInBounds_toArray, List.set_cons_zero, List.set_cons_succ])
     | (refine reg_read (v := ?_) rfl rfl ?_ ?_; rotate_left 1; (· (intro W hW; have hW' := Mods.cells hW; go_simp <;> with_reducible rfl)); simp only [Act.put, List.setIfInBounds_toArray, List.set_cons_zero, List.set_cons_succ])
     | (refine reg_off (by rfl) (by rfl) ?_; simp only [Act.put, List.setIfInBounds_toArray, List.set_cons_zero, List.set_cons_succ])
     | (refine reg_pure_on (v := ?_) rfl (by rfl) ?_ ?_; rotate_left 1; (· (intro W; go_simp <;> with_reducible rfl)); simp only [Act.put, List.setIfInBounds_toArray, List.set_cons_zero, List.set_cons_succ])
     | (refine reg_read_on (v := ?_) rfl (by rfl) ?_ ?_; rotate_left 1; (· (intro W hW; have hW' := Mods.cells hW; go_simp <;> with_reducible rfl)); simp only [Act.put, List.setIfInBounds_toArray, List.set_cons_zero, List.set_cons_succ])
  refine reg_ben (by rfl) (by rfl) (fun K hK => ?_)
  go_simp
  refine hK _ _ (by repeat (first | exact Mods.refl | apply Mods.drew | apply Mods.alloc)) ?_
  clear hK K
  have hm2 : Mods Nil w1 (w1.alloc (.cells (Bt.cells b).toArray 32)) := Mods.refl.alloc _
  have hn2 := heap_new w1 (.cells (Bt.cells b).toArray 32)
  change wpReg _ _ _ _ _ _ (w1.alloc (.cells (Bt.cells b).toArray 32)).drew
  generalize hw2 : w1.alloc (.cells (Bt.cells b).toArray 32) = w2 at *
  clear hw2
  have hb2 := hm2.keep hb1 id
  have hsl2 := slKeep hsl1 hm2 (fun _ _ => id)
  refine reg_eff (by rfl) (by rfl) (fun K hK => ?_)
  refine wp_append_sl (.tmp 11) (.tmp 13) (by rfl) elBatch (by rfl) (w := w2.drew) hsl2 (by rfl) (Rd.blk (cs := Bt.cells b) hn2 rfl) (by simp [Value.oneCell', Bt.cells]) (by simp only [maxLen]; omega) hn ?_
  intro lv' w3 hsl3 hg3 ho3 _
  refine hK _ _ ?_
  clear hK K
  obtain ⟨la', lc', rfl⟩ := hsl3.form
  try simp only [Act.put, List.setIfInBounds_toArray, List.set_cons_zero, List.set_cons_succ]
  repeat first
     | (refine reg_pure (v := ?_) rfl rfl ?_ ?_; rotate_left 1; (· (intro W; go_simp <;> with_reducible rfl)); simp only [Act.put, List.setIfInBounds_toArray, List.set_cons_zero, List.set_cons_succ])
     | (refine reg_read (v := ?_) rfl rfl ?_ ?_; rotate_left 1; (· (intro W hW; skip; go_simp <;> with_reducible rfl)); simp only [Act.put, List.setIfInBounds_toArray, List.set_cons_zero, List.set_cons_succ])
     | (refine reg_off (by rfl) (by rfl) ?_; simp only [Act.put, List.setIfInBounds_toArray, List.set_cons_zero, List.set_cons_succ])
     | (refine reg_pure_on (v := ?_) rfl (by rfl) ?_ ?_; rotate_left 1; (· (intro W; go_simp <;> with_reducible rfl)); simp only [Act.put, List.setIfInBounds_toArray, List.set_cons_zero, List.set_cons_succ])
     | (refine reg_read_on (v := ?_) rfl (by rfl) ?_ ?_; rotate_left 1; (· (intro W hW; skip; go_simp <;> with_reducible rfl)); simp only [Act.put, List.setIfInBounds_toArray, List.set_cons_zero, List.set_cons_succ])
  refine reg_eff (by rfl) (by rfl) (fun K hK => ?_)
  have hb3 : w3.heap[bt]? = some (.cells #[.slice la l.length lc] 27) := (hg3.block bt (ltOf hb2) (fun e => by
    obtain ⟨x, hx, hxa⟩ := ownOf e.symm
    exact (hla x hx).2 hxa)).trans hb2
  have cb3 := cellOf hb3
  have fb3 := frzOf hb3
  go_simp
  refine hK _ _ (reg_done (qnp_normal ?_))
  clear hK K
  go_wp2_with fail
  go_end0
  have hm12 : Mods Nil w w2.drew := hm1.trans hm2.drew (fun _ _ h => h)
  have hm3 : Mods F w (w3.setCell ⟨bt, 0, none⟩ (.slice la' (l.length + 1) lc')) := by
    refine ((hm12.mono (fun _ h => h.elim)).grown hg3 (fun k hk _ => ?_)).setCell _ (fun _ => hF)
    obtain ⟨x, hx, rfl⟩ := ownOf hk
    exact (hla x hx).1
  have hla' : ∀ a, la' = some a → (F a.block ∨ (w.heap.size ≤ a.block ∧ a.block < w3.heap.size)) ∧ a.block ≠ bt := by
    intro a ha
    subst ha
    have hlt := hsl3.lt a.block rfl
    have := hm12.size
    rcases ho3 with ho | ho
    · obtain ⟨x, hx, hxa⟩ := ownOf (k := a.block) (by rw [← ho]; rfl)
      rw [← hxa]; exact ⟨.inl (hla x hx).1, (hla x hx).2⟩
    · simp [Value.ownBlock] at ho
      have h3 := hm1.size
      have h4 := hm2.size
      exact ⟨.inr ⟨by omega, hlt⟩, by omega⟩
  refine ⟨rfl, fun j => F j ∨ (w.heap.size ≤ j ∧ j < w3.heap.size), ⟨.inl hF, fun k hk => ?_, la', lc', ?_, ?_, hla'⟩, hm3, fun j hj => hj.imp id (·.1)⟩
  · rw [size_setCell]
    rcases hk with h | h
    · have := hm3.lt (hFl k h); rw [size_setCell] at this; exact this
    · exact h.2
  · have := heap_setCell_same hb3 0 (.slice la' (l.length + 1) lc')
    simpa using this
  · have := slKeep hsl3 (Mods.refl.setCell (a := ⟨bt, 0, none⟩) (S := fun k => k = bt) (.slice la' (l.length + 1) lc') (fun _ => rfl)) (fun a ha => (hla' a ha).2)
    simpa using this
end Go.Proofs.Ytnnoicacpcahfaa
