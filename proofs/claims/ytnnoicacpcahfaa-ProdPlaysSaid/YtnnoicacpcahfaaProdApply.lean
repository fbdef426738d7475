/- Package prod: Apply, walked. No condition. -/
import Derived.Test.YtnnoicacpcahfaaProdSize
import Derived.WalkKit
import Derived.Lib.Hide
import Derived.WalkSpells
import Derived.WalkLawsBesides
import Derived.Deep.DeepCutAuto
import Derived.Deep.Cut
namespace Go.Proofs.Ytnnoicacpcahfaa
open Go.RowKit
theorem zeroPtrProducer (w : World) : (zeroValue 71).run Try.prog w = .ok (.pointer none) w := by kernel_rfl

theorem TabRep.look {w : World} {bt : Nat} {T : Tab} {addr : Int → Nat} {F : Nat → Prop} (h : TabRep w bt T addr F) {mb : Nat} {v : Value} (hb : w.heap[bt]? = some (.cells #[.map (some mb), v] 70)) {pid : Int} (hwf : (Lit.int .u64 pid).wf = true) :
    (Instr.lookup 68 (.map (some mb)) (.int .u64 pid) false).run Try.prog w = .ok (.pointer (if pid ∈ T.keys then some ⟨addr pid, 0, none⟩ else none)) w := by
  obtain ⟨h1, h2, h3, h4, mb', aa, ac, lab, h5, h6, h7, h8, h9, h10, h11, h12, h13⟩ := h
  have e : mb' = mb := by
    rw [h5] at hb
    simp at hb
    exact hb.1
  subst e
  have hkey := Maps.keyOf_int_mk (P := Try.prog) Try.underlying29 hwf
  by_cases hk : pid ∈ T.keys
  · rw [if_pos hk]
    exact h7.lookup_some keyU64 Try.underlying68 (zeroPtrProducer w) hkey (List.mem_map.2 ⟨pid, hk, rfl⟩)
  · rw [if_neg hk]
    refine h7.lookup_none keyU64 Try.underlying68 (zeroPtrProducer w) hkey (fun x hx e => ?_)
    obtain ⟨k, hk', rfl⟩ := List.mem_map.1 hx
    simp at e
    exact hk (e ▸ hk')

theorem Tab.set_self (T : Tab) (pid : Int) : T.set pid (T.prod pid) = T := by
  cases T
  simp only [Tab.set, Tab.mk.injEq, true_and, and_true]
  funext k
  split
  · rename_i h; rw [h]
  · rfl

theorem TabRep.cells {w : World} {bt : Nat} {T : Tab} {addr : Int → Nat} {F : Nat → Prop} (h : TabRep w bt T addr F) : ∃ mb aa ac, w.heap[bt]? = some (.cells #[.map (some mb), .slice aa T.aborts.length ac] 70) ∧ Sl w 39 3 (.slice aa T.aborts.length ac) T.aborts.length (T.aborts.flatMap Ab.cells) ∧ ∀ a, aa = some a → F a.block ∧ a.block ≠ bt := by
  obtain ⟨_, _, _, _, mb, aa, ac, _, h5, h6, _, _, _, h10, _⟩ := h
  exact ⟨mb, aa, ac, h5, h6, fun a ha => ⟨(h10 a ha).1, (h10 a ha).2.1⟩⟩

theorem TabRep.opn {w : World} {bt : Nat} {T : Tab} {addr : Int → Nat} {F : Nat → Prop} (h : TabRep w bt T addr F) {pid : Int} (hk : pid ∈ T.keys) :
    ∃ la lc, w.heap[addr pid]? = some (.cells #[.int .i64 (T.prod pid).epoch, .int .i64 (T.prod pid).next, .slice la (T.prod pid).last.length lc, .int .i64 (T.prod pid).opn] 74) ∧ F (addr pid) ∧ addr pid ≠ bt ∧
      ∀ v : Int, ∃ F', TabRep (w.setCell ⟨addr pid, 3, none⟩ (.int .i64 v)) bt (T.set pid ⟨(T.prod pid).epoch, (T.prod pid).next, (T.prod pid).last, v⟩) addr F' ∧ Mods F w (w.setCell ⟨addr pid, 3, none⟩ (.int .i64 v)) ∧ ∀ j, F' j → F j ∨ w.heap.size ≤ j := by
  obtain ⟨G, hP, hG, hclose⟩ := h.focus hk
  obtain ⟨hG1, hG2, la, lc, hq, hsl, hla⟩ := id hP
  refine ⟨la, lc, hq, (hG _ hG1).1, (hG _ hG1).2, fun v => ?_⟩
  have hms : Mods G w (w.setCell ⟨addr pid, 3, none⟩ (.int .i64 v)) := Mods.refl.setCell _ (fun _ => hG1)
  have hq2 := heap_setCell_same hq 3 (.int .i64 v)
  simp at hq2
  obtain ⟨F2, r1, r2⟩ := hclose _ ⟨_, _, _, v⟩ G hms ⟨hG1, fun k hk => hms.lt (hG2 k hk), la, lc, hq2, slKeep hsl (Mods.refl.setCell (S := fun k => k = addr pid) _ (fun _ => rfl)) (fun a ha => (hla a ha).2), hla⟩ (fun j hj => .inl hj)
  exact ⟨F2, r1, hms.mono (fun k hk => (hG k hk).1), r2⟩

theorem flat_drop1 : ∀ l : List Seen, (l.flatMap Seen.cells).drop 3 = (l.drop 1).flatMap Seen.cells
  | [] => rfl
  | x :: r => by simp [Seen.cells]



theorem MapL.inj {P : Program} {k : TypeId} {w : World} {mb : Nat} {L L' : List (Value × Value)} (h : MapL P k w mb L) (h' : MapL P k w mb L') : L = L' := by
  obtain ⟨es, clock, hb, _, _, rfl⟩ := h
  obtain ⟨es', clock', hb', _, _, rfl⟩ := h'
  rw [hb] at hb'
  simp at hb'
  rw [hb'.1]

theorem TabRep.upd {w : World} {bt : Nat} {T : Tab} {addr : Int → Nat} {F : Nat → Prop} (h : TabRep w bt T addr F) {mb : Nat} {v : Value} (hb : w.heap[bt]? = some (.cells #[.map (some mb), v] 70)) {pid : Int} (hwf : (Lit.int .u64 pid).wf = true) (hk : pid ∉ T.keys) (val : Value) :
    ∃ w', (Instr.mapUpdate 68 (.map (some mb)) (.int .u64 pid) val).run Try.prog w = .ok () w' ∧ Mods (fun k => k = mb) w w' ∧ ∀ L, MapL Try.prog 29 w mb L → MapL Try.prog 29 w' mb (L ++ [(.int .u64 pid, val)]) := by
  obtain ⟨h1, h2, h3, h4, mb', aa, ac, lab, h5, h6, h7, h8, h9, h10, h11, h12, h13⟩ := h
  have e : mb' = mb := by
    rw [h5] at hb
    simp at hb
    exact hb.1
  subst e
  obtain ⟨w', a, b, c⟩ := h7.update_new keyU64 Try.underlying68 (Maps.keyOf_int_mk (P := Try.prog) Try.underlying29 hwf) (fun x hx e => by
    obtain ⟨k, hk', rfl⟩ := List.mem_map.1 hx
    simp at e
    exact hk (e ▸ hk')) val
  exact ⟨w', a, c, fun L hL => by rw [hL.inj h7]; exact b⟩

set_option maxRecDepth 100000 in
set_option maxHeartbeats 1600000 in
theorem apply_walk (w : World) (bt : Nat) (T : Tab) (addr : Int → Nat) (F : Nat → Prop) (b : Bt)
    (h : TabRep w bt T addr F) (hbound : (T.aborts.length + 1) * 24 ≤ 140737488355328) (hlast : ∀ k ∈ T.keys, (T.prod k).last.length ≤ 5) (hwf : (Lit.int .u64 b.pid).wf = true) (hp0 : (b.pid == 0) = false) :
    Calls Try.prog 8 #[.pointer (some ⟨bt, 0, none⟩), .agg #[.int .i64 b.base, .int .i64 b.ep, .int .u64 b.pid, .int .i64 b.pe, .int .i64 b.sq, .bool b.txn, .bool b.ctl, .bool b.com, .slice b.va b.vn b.vc]] w
      fun e w' => e = .returned (.tuple #[]) ∧ ∃ addr' F', TabRep w' bt (T.apply b) addr' F' ∧ Mods F w w' ∧ ∀ j, F' j → F j ∨ w.heap.size ≤ j := by
  obtain ⟨mb, aa, ac, hb⟩ : ∃ mb aa ac, w.heap[bt]? = some (.cells #[.map (some mb), .slice aa T.aborts.length ac] 70) := by
    obtain ⟨_, _, _, _, mb, aa, ac, _, h5, _⟩ := h
    exact ⟨mb, aa, ac, h5⟩
  have lb := ltOf hb
  have hno : ∀ j, F j → j < w.heap.size := h.2.1
  obtain ⟨T1, hT1⟩ : ∃ T1, T1 = T.ensure b := ⟨_, rfl⟩
  replace hT1 := Lib.hid hT1
  go_enter Try.func8, Try.ntmps8
  go_wp2_with fail
  generalize hX : Obj.cells #[Value.int .i64 b.base, .int .i64 b.ep, .int .u64 b.pid, .int .i64 b.pe, .int .i64 b.sq, .bool b.txn, .bool b.ctl, .bool b.com, .slice b.va b.vn b.vc] 32 = X
  have hm1 : Mods Nil w (w.alloc X) := Mods.refl.alloc _
  have hp1 := heap_new w X
  generalize hw1 : w.alloc X = w1 at *
  subst hX
  clear hw1
  have h1 := h.keep hm1 (fun _ _ => id)
  have hb1 := hm1.keep hb id
  have cb := cellOf hb1
  have cp := cellOf hp1
  have lb1 := ltOf hb1
  have lp1 := ltOf hp1
  generalize hbp : w.heap.size = bp at *
  obtain ⟨po, hpo⟩ : ∃ po : Option Addr, po = if b.pid ∈ T.keys then some ⟨addr b.pid, 0, none⟩ else none := ⟨_, rfl⟩
  have hlook : ∀ W, Mods Nil w1 W → (Instr.lookup 68 (.map (some mb)) (.int .u64 b.pid) false).run Try.prog W = .ok (.pointer po) W :=
    fun W hW => by rw [hpo]; exact (h1.keep hW (fun _ _ => id)).look (hW.keep hb1 id) hwf
  replace hpo := Lib.hid hpo
  refine wp_region_plan [(.pure, 0), (.pure, 1), (.pure, 2), (.read, 3), (.pure, 4), (.read, 5), (.read, 6), (.pure, 7)] 8 (fun W => Mods Nil (w1) W) mixed (by kernel_rfl) (by kernel_rfl) (by repeat (first | exact Mods.refl | apply Mods.drew)) ?_
  repeat first
     | (refine reg_pure (v := ?_) rfl rfl ?_ ?_; rotate_left 1; (· (intro W; go_simp <;> with_reducible rfl)); simp only [Act.put, List.setIfInBounds_toArray, List.set_cons_zero, List.set_cons_succ])
     | (refine reg_read (v := ?_) rfl rfl ?_ ?_; rotate_left 1; (· (intro W hW; have hW' := Mods.cells hW; go_simp <;> with_reducible rfl)); simp only [Act.put, List.setIfInBounds_toArray, List.set_cons_zero, List.set_cons_succ])
     | (refine reg_off (by rfl) (by rfl) ?_; simp only [Act.put, List.setIfInBounds_toArray, List.set_cons_zero, List.set_cons_succ])
     | (refine reg_pure_on (v := ?_) rfl (by rfl) ?_ ?_; rotate_left 1; (· (intro W; go_simp <;> with_reducible rfl)); simp only [Act.put, List.setIfInBounds_toArray, List.set_cons_zero, List.set_cons_succ])
     | (refine reg_read_on (v := ?_) rfl (by rfl) ?_ ?_; rotate_left 1; (· (intro W hW; have hW' := Mods.cells hW; go_simp <;> with_reducible rfl)); simp only [Act.put, List.setIfInBounds_toArray, List.set_cons_zero, List.set_cons_succ])
  refine reg_done (qnp_normal ?_)
  clear hlook
  go_upto_if 20 with fail
  go_cut [4] (fun s4 wc => ∃ addr1 F1, s4 = .pointer (some ⟨addr1 b.pid, 0, none⟩) ∧ b.pid ∈ T1.keys ∧ TabRep wc bt T1 addr1 F1 ∧ Mods F w1 wc ∧ ∀ j, F1 j → F j ∨ w1.heap.size ≤ j)
  case first =>
    by_cases hk : b.pid ∈ T.keys
    · obtain rfl : po = some ⟨addr b.pid, 0, none⟩ := by rw [hpo.out, if_pos hk]
      clear hpo
      go_wp2
      go_meet
      have e1 : T1 = T := by rw [hT1.out]; simp [Tab.ensure, hk]
      rw [e1]
      exact ⟨addr, F, rfl, hk, h1, Mods.refl.drew, fun j hj => .inl hj⟩
    · obtain rfl : po = none := by rw [hpo.out, if_neg hk]
      clear hpo
      go_wp2_with fail
      generalize hX : Obj.cells #[Value.int .i64 b.pe, .int .i64 0, .slice none 0 0, .int .i64 (-1)] 74 = X
      have hm2 : Mods Nil w1 (w1.alloc X) := Mods.refl.alloc _
      have hq2 := heap_new w1 X
      generalize hw2 : w1.alloc X = w2 at *
      subst hX
      clear hw2
      have hb2 := hm2.keep hb1 id
      have hp2 := hm2.keep hp1 id
      have cb2 := cellOf hb2
      have cp2 := cellOf hp2
      have lb2 := ltOf hb2
      have lp2 := ltOf hp2
      obtain ⟨w3, hrun, hm3, hmap⟩ := TabRep.upd (w := w2.drew.drew) (h1.keep hm2.drew.drew (fun _ _ => id)) hb2 hwf hk (.pointer (some ⟨w1.heap.size, 0, none⟩))
      refine wp_region_plan [(.pure, 0), (.pure, 1), (.pure, 2), (.read, 3), (.pure, 4), (.read, 5), (.pure, 6), (.eff, 7)] 7 (fun W => Mods Nil (w2) W) mixed (by kernel_rfl) (by kernel_rfl) (by repeat (first | exact Mods.refl | apply Mods.drew)) ?_
      repeat first
         | (refine reg_pure (v := ?_) rfl rfl ?_ ?_; rotate_left 1; (· (intro W; go_simp <;> with_reducible rfl)); simp only [Act.put, List.setIfInBounds_toArray, List.set_cons_zero, List.set_cons_succ])
         | (refine reg_read (v := ?_) rfl rfl ?_ ?_; rotate_left 1; (· (intro W hW; have hW' := Mods.cells hW; go_simp <;> with_reducible rfl)); simp only [Act.put, List.setIfInBounds_toArray, List.set_cons_zero, List.set_cons_succ])
         | (refine reg_off (by rfl) (by rfl) ?_; simp only [Act.put, List.setIfInBounds_toArray, List.set_cons_zero, List.set_cons_succ])
         | (refine reg_pure_on (v := ?_) rfl (by rfl) ?_ ?_; rotate_left 1; (· (intro W; go_simp <;> with_reducible rfl)); simp only [Act.put, List.setIfInBounds_toArray, List.set_cons_zero, List.set_cons_succ])
         | (refine reg_read_on (v := ?_) rfl (by rfl) ?_ ?_; rotate_left 1; (· (intro W hW; have hW' := Mods.cells hW; go_simp <;> with_reducible rfl)); simp only [Act.put, List.setIfInBounds_toArray, List.set_cons_zero, List.set_cons_succ])
      refine reg_eff (by rfl) (by rfl) (fun K hK => ?_)
      go_simp
      refine hK _ _ (reg_done (qnp_normal ?_))
      clear hK K
      go_wp2_with fail
      go_meet
      obtain ⟨r1, r2⟩ := h1.added hk hwf (w1 := w2.drew.drew) hm2.drew.drew (Nat.le_refl _) hq2 hb1 hm3 hmap
      have e1 : T1 = T.add b.pid ⟨b.pe, 0, [], -1⟩ := by rw [hT1.out]; simp [Tab.ensure, hk]
      rw [e1]
      exact ⟨_, _, by simp, by simp [Tab.add], r1, r2, fun j hj => hj.imp id (fun e => by omega)⟩
  case rest =>
    obtain ⟨addr1, F1, rfl, hin, h2, hm2, hF1⟩ := hcut
    obtain ⟨wb, rfl⟩ : ∃ x : World, x = wc := ⟨_, rfl⟩
    clear po hpo
    have hpc := hm2.keep hp1 (fun e => by have := hno _ e; omega)
    have hFb : ∀ j, F1 j → j ≠ bp := fun j hj e => by
      rcases hF1 j hj with h | h
      · have := hno _ h; omega
      · omega
    clear cb cp lb1 lp1 hp1 hb1 h1
    obtain ⟨mbc, aac, acc, hbc, hslc, hac⟩ := h2.cells
    obtain ⟨G, hP, hG, hclose⟩ := h2.focus hin
    obtain ⟨hG1, hG2, la, lc, hq, hsl, hla⟩ := id hP
    obtain ⟨T2, hT2⟩ : ∃ T2, T2 = T1.set b.pid ((T1.prod b.pid).raise b) := ⟨_, rfl⟩
    replace hT2 := Lib.hid hT2
    generalize hp : T1.prod b.pid = p at *
    replace hp := Lib.hid hp
    have cq := cellOf hq
    have fq := frzOf hq
    have cp := cellOf hpc
    have lq := ltOf hq
    have lp := ltOf hpc
    go_wp2_with fail
    refine wp_region_plan [(.pure, 0), (.read, 1), (.pure, 2), (.pure, 3), (.pure, 4), (.read, 5), (.pure, 6)] 7 (fun W => Mods Nil (wb) W) mixed (by kernel_rfl) (by kernel_rfl) (by repeat (first | exact Mods.refl | apply Mods.drew)) ?_
    repeat first
       | (refine reg_pure (v := ?_) rfl rfl ?_ ?_; rotate_left 1; (· (intro W; go_simp <;> with_reducible rfl)); simp only [Act.put, List.setIfInBounds_toArray, List.set_cons_zero, List.set_cons_succ])
       | (refine reg_read (v := ?_) rfl rfl ?_ ?_; rotate_left 1; (· (intro W hW; have hW' := Mods.cells hW; go_simp <;> with_reducible rfl)); simp only [Act.put, List.setIfInBounds_toArray, List.set_cons_zero, List.set_cons_succ])
       | (refine reg_off (by rfl) (by rfl) ?_; simp only [Act.put, List.setIfInBounds_toArray, List.set_cons_zero, List.set_cons_succ])
       | (refine reg_pure_on (v := ?_) rfl (by rfl) ?_ ?_; rotate_left 1; (· (intro W; go_simp <;> with_reducible rfl)); simp only [Act.put, List.setIfInBounds_toArray, List.set_cons_zero, List.set_cons_succ])
       | (refine reg_read_on (v := ?_) rfl (by rfl) ?_ ?_; rotate_left 1; (· (intro W hW; have hW' := Mods.cells hW; go_simp <;> with_reducible rfl)); simp only [Act.put, List.setIfInBounds_toArray, List.set_cons_zero, List.set_cons_succ])
    refine reg_done (qnp_normal ?_)
    go_upto_if 38 with fail
    go_cut [] (fun wc => ∃ F2, TabRep wc bt T2 addr1 F2 ∧ Mods F1 wb wc ∧ ∀ j, F2 j → F1 j ∨ wb.heap.size ≤ j)
    case first =>
      by_cases hlt : p.epoch < b.pe
      · go_wp2
        go_meet
        have e1 : T2 = T1.set b.pid ⟨b.pe, 0, [], p.opn⟩ := by rw [hT2.out, Prod.raise, if_pos hlt]
        rw [e1]
        have hms : Mods G wb (((wb.setCell ⟨addr1 b.pid, 0, none⟩ (.int .i64 b.pe)).setCell ⟨addr1 b.pid, 1, none⟩ (.int .i64 0)).setCell ⟨addr1 b.pid, 2, none⟩ (.slice none 0 0)).drew :=
          (((Mods.refl.setCell _ (fun _ => hG1)).setCell _ (fun _ => hG1)).setCell _ (fun _ => hG1)).drew
        have hq2 := heap_setCell_same (heap_setCell_same (heap_setCell_same hq 0 (.int .i64 b.pe)) 1 (.int .i64 0)) 2 (.slice none 0 0)
        simp at hq2
        obtain ⟨F2, r1, r2⟩ := hclose _ ⟨b.pe, 0, [], p.opn⟩ G hms ⟨hG1, fun k hk => hms.lt (hG2 k hk), none, 0, hq2, Sl.nil _ _ _, by simp⟩ (fun j hj => .inl hj)
        exact ⟨F2, r1, hms.mono (fun k hk => (hG k hk).1), r2⟩
      · go_wp2
        go_meet
        have e1 : T2 = T1 := by rw [hT2.out, Prod.raise, if_neg (by omega), ← hp.out, Tab.set_self]
        rw [e1]
        exact ⟨F1, h2, Mods.refl.drew, fun j hj => .inl hj⟩
    case rest =>
      obtain ⟨F2, h3, hm3, hF2⟩ := hcut
      have hin2 : b.pid ∈ T2.keys := by rw [hT2.out]; exact hin
      have hpd := hm3.keep hpc (fun e => hFb _ e rfl)
      have hF2b : ∀ j, F2 j → j ≠ bp := fun j hj e => by
        rcases hF2 j hj with h | h
        · exact hFb _ h e
        · omega
      clear cp cq fq hclose hP hq hsl hslc hbc hac hpc hG hG1 hG2 hla lq lp
      have hmw : Mods F w wb := (hm1.mono (fun _ h => h.elim)).trans hm2 (fun _ _ h => h)
      have hmd : Mods F w wc := hmw.trans hm3 (fun j hj h => (hF1 j h).elim id (fun h => by have := hm1.size; omega))
      have hF2w : ∀ j, F2 j → F j ∨ bp ≤ j := fun j hj => by
        have := hm2.size; have := hm1.size
        rcases hF2 j hj with h | h
        · rcases hF1 j h with h | h
          · exact .inl h
          · exact .inr (by omega)
        · exact .inr (by have := hmw.size; omega)
      have hab2 : T2.aborts.length = T.aborts.length := by
        rw [hT2.out, hT1.out]; simp only [Tab.set, Tab.ensure]; split <;> rfl
      rw [← hab2] at hbound
      clear hab2
      have hlast2 : (T2.prod b.pid).last.length ≤ 5 := by
        have e2 : T2.prod b.pid = p.raise b := by rw [hT2.out]; simp [Tab.set]
        rw [e2, Prod.raise]
        split
        · simp
        · rw [← hp.out, hT1.out, Tab.ensure]
          split
          · exact hlast _ (by assumption)
          · simp [Tab.add]
      have hap : T.apply b = if b.ctl then T2.mark b (T2.prod b.pid) else T2.set b.pid ((T2.prod b.pid).step b) := by
        have e0 : b.pid ≠ 0 := by simpa using hp0
        rw [Tab.apply, if_neg e0]
        simp only [← hT1.out, hp.out, ← hT2.out]
        have e2 : T2.prod b.pid = p.raise b := by rw [hT2.out]; simp [Tab.set]
        rw [e2]
      replace hap := Lib.hid hap
      clear hT1 hT2 hp hm3 hm2 hm1 hF2 hF1 hFb h2 hmw

      obtain ⟨wb, rfl⟩ : ∃ x : World, x = wc := ⟨_, rfl⟩
      obtain ⟨mb2, aa2, ac2, hb2, hsl2, ha2⟩ := h3.cells
      by_cases hc : b.ctl = true
      ·
        obtain ⟨T3, hT3⟩ : ∃ T3, T3 = if 0 ≤ (T2.prod b.pid).opn ∧ b.com = false then T2.abort ⟨b.pid, (T2.prod b.pid).opn, b.base⟩ else T2 := ⟨_, rfl⟩
        obtain ⟨la2, lc2, hq, hF2q, hqb, hset⟩ := h3.opn hin2
        have hap3 : Hid (T.apply b = T3.set b.pid ⟨(T3.prod b.pid).epoch, (T3.prod b.pid).next, (T3.prod b.pid).last, -1⟩ ∧ b.pid ∈ T3.keys ∧ T3.prod b.pid = T2.prod b.pid) := by
          have e3 : T3.prod b.pid = T2.prod b.pid ∧ b.pid ∈ T3.keys := by rw [hT3]; split <;> exact ⟨rfl, hin2⟩
          refine ⟨?_, e3.2, e3.1⟩
          rw [hap.out, if_pos hc, Tab.mark, e3.1, hT3]
        replace hT3 := Lib.hid hT3
        generalize hp : T2.prod b.pid = p at *
        replace hp := Lib.hid hp
        have cq := cellOf hq
        have fq := frzOf hq
        have cb := cellOf hb2
        have cp := cellOf hpd
        have lq := ltOf hq
        have lb := ltOf hb2
        have lp := ltOf hpd
        by_cases ho : 0 ≤ p.opn ∧ b.com = false
        · obtain ⟨ho, hco⟩ := ho
          go_upto_region 10 with fail
          refine wp_region_plan [(.pure, 0), (.pure, 1), (.pure, 2), (.pure, 3), (.read, 4), (.pure, 5), (.read, 6), (.pure, 7), (.pure, 8), (.pure, 9), (.read, 10), (.pure, 11), (.read, 12), (.pure, 13), (.ben, 14), (.eff, 15), (.pure, 16), (.pure, 17), (.eff, 18)] 15 (fun W => Mods Nil (wb) W) mixed (by kernel_rfl) (by kernel_rfl) (by repeat (first | exact Mods.refl | apply Mods.drew)) ?_
          repeat first
             | (refine reg_pure (v := ?_) rfl rfl ?_ ?_; rotate_left 1; (· (intro W; go_simp <;> with_reducible rfl)); simp only [Act.put, List.setIfInBounds_toArray, List.set_cons_zero, List.set_cons_succ])
             | (refine reg_read (v := ?_) rfl rfl ?_ ?_; rotate_left 1; (· (intro W hW; have hW' := Mods.cells hW; go_simp <;> with_reducible rfl)); simp only [Act.put, List.setIfInBounds_toArray, List.set_cons_zero, List.set_cons_succ])
             | (refine reg_off (by rfl) (by rfl) ?_; simp only [Act.put, List.setIfInBounds_toArray, List.set_cons_zero, List.set_cons_succ])
             | (refine reg_pure_on (v := ?_) rfl (by rfl) ?_ ?_; rotate_left 1; (· (intro W; go_simp <;> with_reducible rfl)); simp only [Act.put, List.setIfInBounds_toArray, List.set_cons_zero, List.set_cons_succ])
             | (refine reg_read_on (v := ?_) rfl (by rfl) ?_ ?_; rotate_left 1; (· (intro W hW; have hW' := Mods.cells hW; go_simp <;> with_reducible rfl)); simp only [Act.put, List.setIfInBounds_toArray, List.set_cons_zero, List.set_cons_succ])
          refine reg_ben (by rfl) (by rfl) (fun K hK => ?_)
          go_simp
          refine hK _ _ (by repeat (first | exact Mods.refl | apply Mods.drew | apply Mods.alloc)) ?_
          clear hK K
          have hm4 : Mods Nil wb (wb.alloc (.cells #[.int .u64 b.pid, .int .i64 p.opn, .int .i64 b.base] 39)) := Mods.refl.alloc _
          have hn4 := heap_new wb (.cells #[.int .u64 b.pid, .int .i64 p.opn, .int .i64 b.base] 39)
          generalize hw4 : wb.alloc (.cells #[.int .u64 b.pid, .int .i64 p.opn, .int .i64 b.base] 39) = w4 at *
          clear hw4
          have hb4 := hm4.keep hb2 id
          have hsl4 := slKeep hsl2 hm4 (fun _ _ => id)
          have hm4' : Mods Nil wb w4.drew := hm4.drew
          refine reg_eff (by rfl) (by rfl) (fun K hK => ?_)
          refine wp_append_sl (.tmp 66) (.tmp 76) (by rfl) elAbort (by rfl) (w := w4.drew) hsl4 (by rfl) (Rd.blk (cs := Ab.cells ⟨b.pid, p.opn, b.base⟩) hn4 rfl) (by simp [Value.oneCell', Ab.cells]) (by simp only [maxLen]; omega) hbound ?_
          intro lv5 w5 hsl5 hg5 ho5 _
          refine hK _ _ ?_
          clear hK K
          obtain ⟨la5, lc5, rfl⟩ := hsl5.form
          try simp only [Act.put, List.setIfInBounds_toArray, List.set_cons_zero, List.set_cons_succ]
          repeat first
             | (refine reg_pure (v := ?_) rfl rfl ?_ ?_; rotate_left 1; (· (intro W; go_simp <;> with_reducible rfl)); simp only [Act.put, List.setIfInBounds_toArray, List.set_cons_zero, List.set_cons_succ])
             | (refine reg_read (v := ?_) rfl rfl ?_ ?_; rotate_left 1; (· (intro W hW; skip; go_simp <;> with_reducible rfl)); simp only [Act.put, List.setIfInBounds_toArray, List.set_cons_zero, List.set_cons_succ])
             | (refine reg_off (by rfl) (by rfl) ?_; simp only [Act.put, List.setIfInBounds_toArray, List.set_cons_zero, List.set_cons_succ])
             | (refine reg_pure_on (v := ?_) rfl (by rfl) ?_ ?_; rotate_left 1; (· (intro W; go_simp <;> with_reducible rfl)); simp only [Act.put, List.setIfInBounds_toArray, List.set_cons_zero, List.set_cons_succ])
             | (refine reg_read_on (v := ?_) rfl (by rfl) ?_ ?_; rotate_left 1; (· (intro W hW; skip; go_simp <;> with_reducible rfl)); simp only [Act.put, List.setIfInBounds_toArray, List.set_cons_zero, List.set_cons_succ])
          refine reg_eff (by rfl) (by rfl) (fun K hK => ?_)
          have hb5 : w5.heap[bt]? = some (.cells #[.map (some mb2), .slice aa2 T2.aborts.length ac2] 70) := (hg5.block bt (ltOf hb4) (fun e => by
            cases aa2 with
            | none => simp [Value.ownBlock] at e
            | some x => simp [Value.ownBlock] at e; exact (ha2 x rfl).2 e.symm)).trans hb4
          have cb5 := cellOf hb5
          have fb5 := frzOf hb5
          go_simp
          refine hK _ _ (reg_done (qnp_normal ?_))
          clear hK K
          have hm5 : Mods (fun k => (Value.slice aa2 T2.aborts.length ac2).ownBlock = some k) wb w5 := (hm4'.mono (fun _ h => h.elim)).grown hg5 (fun k hk _ => hk)
          have hb6 := heap_setCell_same hb5 1 (.slice la5 (T2.aborts.length + 1) lc5)
          simp at hb6
          have hm6 : Mods (fun k => k = bt) w5 (w5.setCell ⟨bt, 1, none⟩ (.slice la5 (T2.aborts.length + 1) lc5)) := Mods.refl.setCell _ (fun _ => rfl)
          obtain ⟨F3, h4, hmf, hF3⟩ := h3.aborted ⟨b.pid, p.opn, b.base⟩ hb2 hm5 hsl5 (ho5.imp id (fun h => ⟨_, by have := hm4.size; exact this, h⟩)) hm6 hb6
          have e3 : T3 = T2.abort ⟨b.pid, p.opn, b.base⟩ := by rw [hT3.out, if_pos ⟨ho, hco⟩]
          rw [← e3] at h4
          generalize hw6 : w5.setCell ⟨bt, 1, none⟩ (.slice la5 (T2.aborts.length + 1) lc5) = w6 at *
          clear hw6
          have hq6 := h4.opn hap3.out.2.1
          rw [hap3.out.2.2] at hq6
          obtain ⟨la6, lc6, hq6, _, _, hset6⟩ := hq6
          have cq6 := cellOf hq6
          have fq6 := frzOf hq6
          go_wp2
          ((try simp only [Exit.inBlock, Exit.then]); refine bodyPost_ret (results_none rfl _ _ _) rfl ?_)
          obtain ⟨F4, r1, r2, r3⟩ := hset6 (-1)
          rw [hap3.out.1, hap3.out.2.2]
          have hmd6 : Mods F w w6 := hmd.trans hmf (fun j hj h => (hF2w j h).elim id (fun h => by omega))
          refine ⟨rfl, addr1, F4, r1, hmd6.trans r2 (fun j hj h => (hF3 j h).elim (fun h => (hF2w j h).elim id (fun h => by omega)) (fun h => by have := hmd.size; omega)), fun j hj => ?_⟩
          have := hmd.size
          have := hmd6.size
          rcases r3 j hj with h | h
          · rcases hF3 j h with h | h
            · rcases hF2w j h with h | h
              · exact .inl h
              · exact .inr (by omega)
            · exact .inr (by omega)
          · exact .inr (by omega)
        · have e3 : T3 = T2 := by rw [hT3.out, if_neg ho]
          subst e3
          have ho' : ¬ 0 ≤ p.opn ∨ b.com = true := by
            rcases Decidable.em (0 ≤ p.opn) with h | h
            · exact .inr (by cases hb : b.com with | true => rfl | false => exact absurd ⟨h, hb⟩ ho)
            · exact .inl h
          clear ho
          rcases ho' with ho | hco
          all_goals go_wp2
          all_goals
            ((try simp only [Exit.inBlock, Exit.then]); refine bodyPost_ret (results_none rfl _ _ _) rfl ?_)
            obtain ⟨F3, r1, r2, r3⟩ := hset (-1)
            rw [hap3.out.1, hap3.out.2.2]
            refine ⟨rfl, addr1, F3, r1, hmd.trans r2 (fun j hj h => (hF2w j h).elim id (fun h => by omega)), fun j hj => ?_⟩
            have := hmd.size
            rcases r3 j hj with h | h
            · rcases hF2w j h with h | h
              · exact .inl h
              · exact .inr (by omega)
            · exact .inr (by omega)
      · replace hc : b.ctl = false := by simpa using hc
        obtain ⟨G, hP, hG, hclose⟩ := h3.focus hin2
        obtain ⟨hG1, hG2, la, lc, hq, hsl, hla⟩ := id hP
        have hap3 : Hid (T.apply b = T2.set b.pid ((T2.prod b.pid).step b)) := by
          rw [hap.out, hc]; exact rfl
        have hl5 := hlast2
        clear hap hP
        generalize hp : T2.prod b.pid = p at *
        replace hp := Lib.hid hp
        have cq := cellOf hq
        have fq := frzOf hq
        have cp := cellOf hpd
        have lq := ltOf hq
        have lp := ltOf hpd
        have hGp : ∀ j, G j → j ≠ bp := fun j hj => hF2b j (hG j hj).1
        go_upto_region 12 with fail
        refine wp_region_plan [(.pure, 0), (.pure, 1), (.read, 2), (.read, 3), (.ben, 4), (.pure, 5), (.pure, 6), (.pure, 7), (.eff, 8)] 8 (fun W => Mods Nil (wb) W) mixed (by kernel_rfl) (by kernel_rfl) (by repeat (first | exact Mods.refl | apply Mods.drew)) ?_
        repeat first
           | (refine reg_pure (v := ?_) rfl rfl ?_ ?_; rotate_left 1; (· (intro W; go_simp <;> with_reducible rfl)); simp only [Act.put, List.setIfInBounds_toArray, List.set_cons_zero, List.set_cons_succ])
           | (refine reg_read (v := ?_) rfl rfl ?_ ?_; rotate_left 1; (· (intro W hW; have hW' := Mods.cells hW; go_simp <;> with_reducible rfl)); simp only [Act.put, List.setIfInBounds_toArray, List.set_cons_zero, List.set_cons_succ])
           | (refine reg_off (by rfl) (by rfl) ?_; simp only [Act.put, List.setIfInBounds_toArray, List.set_cons_zero, List.set_cons_succ])
           | (refine reg_pure_on (v := ?_) rfl (by rfl) ?_ ?_; rotate_left 1; (· (intro W; go_simp <;> with_reducible rfl)); simp only [Act.put, List.setIfInBounds_toArray, List.set_cons_zero, List.set_cons_succ])
           | (refine reg_read_on (v := ?_) rfl (by rfl) ?_ ?_; rotate_left 1; (· (intro W hW; have hW' := Mods.cells hW; go_simp <;> with_reducible rfl)); simp only [Act.put, List.setIfInBounds_toArray, List.set_cons_zero, List.set_cons_succ])
        refine reg_ben (by rfl) (by rfl) (fun K hK => ?_)
        go_simp
        refine (size_any _ _ _ _ _ _ _ _ _ _ _ _).mono ?_
        rintro e w4 ⟨rfl, hm4⟩
        have hm4' : Mods Nil wb w4 := Mods.drew_left hm4
        refine hK _ _ hm4' ?_
        clear hK K
        try simp only [Act.put, List.setIfInBounds_toArray, List.set_cons_zero, List.set_cons_succ]
        repeat first
           | (refine reg_pure (v := ?_) rfl rfl ?_ ?_; rotate_left 1; (· (intro W; go_simp <;> with_reducible rfl)); simp only [Act.put, List.setIfInBounds_toArray, List.set_cons_zero, List.set_cons_succ])
           | (refine reg_read (v := ?_) rfl rfl ?_ ?_; rotate_left 1; (· (intro W hW; have hW' := Mods.cells hW; go_simp <;> with_reducible rfl)); simp only [Act.put, List.setIfInBounds_toArray, List.set_cons_zero, List.set_cons_succ])
           | (refine reg_off (by rfl) (by rfl) ?_; simp only [Act.put, List.setIfInBounds_toArray, List.set_cons_zero, List.set_cons_succ])
           | (refine reg_pure_on (v := ?_) rfl (by rfl) ?_ ?_; rotate_left 1; (· (intro W; go_simp <;> with_reducible rfl)); simp only [Act.put, List.setIfInBounds_toArray, List.set_cons_zero, List.set_cons_succ])
           | (refine reg_read_on (v := ?_) rfl (by rfl) ?_ ?_; rotate_left 1; (· (intro W hW; have hW' := Mods.cells hW; go_simp <;> with_reducible rfl)); simp only [Act.put, List.setIfInBounds_toArray, List.set_cons_zero, List.set_cons_succ])
        have hq4 := hm4'.keep hq id
        have cq4 := cellOf hq4
        have fq4 := frzOf hq4
        refine reg_eff (by rfl) (by rfl) (fun K hK => ?_)
        go_simp
        refine hK _ _ (reg_done (qnp_normal ?_))
        clear hK K
        have hm5 : Mods G wb (w4.setCell ⟨addr1 b.pid, 1, none⟩ (.int .i64 (IntKind.i64.wrap (b.sq + ↑b.vn)))) := (hm4'.mono (fun _ h => h.elim)).setCell _ (fun _ => hG1)
        have hq5 := heap_setCell_same hq4 1 (.int .i64 (IntKind.i64.wrap (b.sq + ↑b.vn)))
        have hsl5 : Sl (w4.setCell ⟨addr1 b.pid, 1, none⟩ (.int .i64 (IntKind.i64.wrap (b.sq + ↑b.vn)))) 79 3 (.slice la p.last.length lc) p.last.length (p.last.flatMap Seen.cells) :=
          slKeep hsl ((hm4'.mono (S' := fun k => k = addr1 b.pid) (fun _ h => h.elim)).setCell _ (fun _ => rfl)) (fun a ha => (hla a ha).2)
        have hpd5 := hm5.keep hpd (fun e => hGp _ e rfl)
        simp at hq5
        generalize hw5 : w4.setCell ⟨addr1 b.pid, 1, none⟩ (.int .i64 (IntKind.i64.wrap (b.sq + ↑b.vn))) = w5 at *
        clear hw5 cq4 fq4 hq4 hm4 hm4' cq fq cp hq hsl lq lp
        have cq5 := cellOf hq5
        have cp5 := cellOf hpd5
        have lq := ltOf hq5
        have lp := ltOf hpd5
        go_upto_region 13 with fail
        refine wp_region_plan [(.pure, 0), (.pure, 1), (.pure, 2), (.pure, 3), (.read, 4), (.pure, 5), (.read, 6), (.read, 7), (.pure, 10), (.read, 11), (.ben, 8), (.pure, 9), (.pure, 12), (.ben, 13), (.eff, 14), (.pure, 15), (.pure, 16), (.eff, 17)] 14 (fun W => Mods Nil (w5) W) mixed (by kernel_rfl) (by kernel_rfl) (by repeat (first | exact Mods.refl | apply Mods.drew)) ?_
        repeat first
           | (refine reg_pure (v := ?_) rfl rfl ?_ ?_; rotate_left 1; (· (intro W; go_simp <;> with_reducible rfl)); simp only [Act.put, List.setIfInBounds_toArray, List.set_cons_zero, List.set_cons_succ])
           | (refine reg_read (v := ?_) rfl rfl ?_ ?_; rotate_left 1; (· (intro W hW; have hW' := Mods.cells hW; go_simp <;> with_reducible rfl)); simp only [Act.put, List.setIfInBounds_toArray, List.set_cons_zero, List.set_cons_succ])
           | (refine reg_off (by rfl) (by rfl) ?_; simp only [Act.put, List.setIfInBounds_toArray, List.set_cons_zero, List.set_cons_succ])
           | (refine reg_pure_on (v := ?_) rfl (by rfl) ?_ ?_; rotate_left 1; (· (intro W; go_simp <;> with_reducible rfl)); simp only [Act.put, List.setIfInBounds_toArray, List.set_cons_zero, List.set_cons_succ])
           | (refine reg_read_on (v := ?_) rfl (by rfl) ?_ ?_; rotate_left 1; (· (intro W hW; have hW' := Mods.cells hW; go_simp <;> with_reducible rfl)); simp only [Act.put, List.setIfInBounds_toArray, List.set_cons_zero, List.set_cons_succ])
        refine reg_ben (by rfl) (by rfl) (fun K hK => ?_)
        go_simp
        refine (size_any _ _ _ _ _ _ _ _ _ _ _ _).mono ?_
        rintro e w6 ⟨rfl, hm6⟩
        have hm6' : Mods Nil w5 w6 := Mods.drew_left hm6
        refine hK _ _ hm6' ?_
        clear hK K
        repeat first
           | (refine reg_pure (v := ?_) rfl rfl ?_ ?_; rotate_left 1; (· (intro W; go_simp <;> with_reducible rfl)); simp only [Act.put, List.setIfInBounds_toArray, List.set_cons_zero, List.set_cons_succ])
           | (refine reg_read (v := ?_) rfl rfl ?_ ?_; rotate_left 1; (· (intro W hW; have hW' := Mods.cells hW; go_simp <;> with_reducible rfl)); simp only [Act.put, List.setIfInBounds_toArray, List.set_cons_zero, List.set_cons_succ])
           | (refine reg_off (by rfl) (by rfl) ?_; simp only [Act.put, List.setIfInBounds_toArray, List.set_cons_zero, List.set_cons_succ])
           | (refine reg_pure_on (v := ?_) rfl (by rfl) ?_ ?_; rotate_left 1; (· (intro W; go_simp <;> with_reducible rfl)); simp only [Act.put, List.setIfInBounds_toArray, List.set_cons_zero, List.set_cons_succ])
           | (refine reg_read_on (v := ?_) rfl (by rfl) ?_ ?_; rotate_left 1; (· (intro W hW; have hW' := Mods.cells hW; go_simp <;> with_reducible rfl)); simp only [Act.put, List.setIfInBounds_toArray, List.set_cons_zero, List.set_cons_succ])
        refine reg_ben (by rfl) (by rfl) (fun K hK => ?_)
        go_simp
        refine hK _ _ (by first | exact hm6'.alloc _ | exact (hm6'.alloc _).drew) ?_
        clear hK K
        have hm7 : Mods Nil w5 (w6.alloc (.cells #[.int .i64 b.sq, .int .i64 b.vn, .int .i64 b.base] 79)) := hm6'.alloc _
        have hn7 := heap_new w6 (.cells #[.int .i64 b.sq, .int .i64 b.vn, .int .i64 b.base] 79)
        generalize hw7 : w6.alloc (.cells #[.int .i64 b.sq, .int .i64 b.vn, .int .i64 b.base] 79) = w7 at *
        clear hw7
        have hq7 := hm7.keep hq5 id
        have hsl7 := slKeep hsl5 hm7 (fun _ _ => id)
        refine reg_eff (by rfl) (by rfl) (fun K hK => ?_)
        refine wp_append_sl (.tmp 95) (.tmp 104) (by rfl) elSeen (by rfl) (w := w7) hsl7 (by rfl) (Rd.blk (cs := Seen.cells ⟨b.sq, b.vn, b.base⟩) hn7 rfl) (by simp [Value.oneCell', Seen.cells]) (by simp only [maxLen]; omega) (by omega) ?_
        intro lv8 w8 hsl8 hg8 ho8 _
        refine hK _ _ ?_
        clear hK K
        obtain ⟨la8, lc8, rfl⟩ := hsl8.form
        try simp only [Act.put, List.setIfInBounds_toArray, List.set_cons_zero, List.set_cons_succ]
        repeat first
           | (refine reg_pure (v := ?_) rfl rfl ?_ ?_; rotate_left 1; (· (intro W; go_simp <;> with_reducible rfl)); simp only [Act.put, List.setIfInBounds_toArray, List.set_cons_zero, List.set_cons_succ])
           | (refine reg_read (v := ?_) rfl rfl ?_ ?_; rotate_left 1; (· (intro W hW; skip; go_simp <;> with_reducible rfl)); simp only [Act.put, List.setIfInBounds_toArray, List.set_cons_zero, List.set_cons_succ])
           | (refine reg_off (by rfl) (by rfl) ?_; simp only [Act.put, List.setIfInBounds_toArray, List.set_cons_zero, List.set_cons_succ])
           | (refine reg_pure_on (v := ?_) rfl (by rfl) ?_ ?_; rotate_left 1; (· (intro W; go_simp <;> with_reducible rfl)); simp only [Act.put, List.setIfInBounds_toArray, List.set_cons_zero, List.set_cons_succ])
           | (refine reg_read_on (v := ?_) rfl (by rfl) ?_ ?_; rotate_left 1; (· (intro W hW; skip; go_simp <;> with_reducible rfl)); simp only [Act.put, List.setIfInBounds_toArray, List.set_cons_zero, List.set_cons_succ])
        refine reg_eff (by rfl) (by rfl) (fun K hK => ?_)
        have hq8 : w8.heap[addr1 b.pid]? = some (.cells #[.int .i64 p.epoch, .int .i64 (IntKind.i64.wrap (b.sq + ↑b.vn)), .slice la p.last.length lc, .int .i64 p.opn] 74) := (hg8.block _ (ltOf hq7) (fun e => by
            cases la with
            | none => simp [Value.ownBlock] at e
            | some x => simp [Value.ownBlock] at e; exact (hla x rfl).2 e.symm)).trans hq7
        have cq8 := cellOf hq8
        have fq8 := frzOf hq8
        go_simp
        refine hK _ _ (reg_done (qnp_normal ?_))
        clear hK K
        have hm9 : Mods G wb (w8.setCell ⟨addr1 b.pid, 2, none⟩ (.slice la8 (p.last.length + 1) lc8)) := by
          refine ((hm5.trans hm7 (S' := Nil) (fun _ _ h => h.elim)).grown hg8 (fun k hk _ => ?_)).setCell _ (fun _ => hG1)
          cases la with
          | none => simp [Value.ownBlock] at hk
          | some x => simp [Value.ownBlock] at hk; subst hk; exact (hla x rfl).1
        have hq9 := heap_setCell_same hq8 2 (.slice la8 (p.last.length + 1) lc8)
        simp at hq9
        have hla8 : ∀ a, la8 = some a → (G a.block ∨ (wb.heap.size ≤ a.block ∧ a.block < w8.heap.size)) ∧ a.block ≠ addr1 b.pid := by
          intro a ha
          subst ha
          have hlt := hsl8.lt a.block rfl
          rcases ho8 with h | h
          · cases la with
            | none => simp [Value.ownBlock] at h
            | some x => simp [Value.ownBlock] at h; rw [h]; exact ⟨.inl (hla x rfl).1, (hla x rfl).2⟩
          · simp [Value.ownBlock] at h
            have h1 := hm5.size
            have h2 := hm7.size
            have h3 := hG2 _ hG1
            exact ⟨.inr ⟨by omega, hlt⟩, by omega⟩
        have hsl9 : Sl (w8.setCell ⟨addr1 b.pid, 2, none⟩ (.slice la8 (p.last.length + 1) lc8)) 79 3 (.slice la8 (p.last.length + 1) lc8) (p.last.length + 1) (p.last.flatMap Seen.cells ++ Seen.cells ⟨b.sq, b.vn, b.base⟩) :=
          slKeep hsl8 (Mods.refl.setCell (S := fun k => k = addr1 b.pid) _ (fun _ => rfl)) (fun a ha => (hla8 a ha).2)
        have hsz9 : (w8.setCell ⟨addr1 b.pid, 2, none⟩ (.slice la8 (p.last.length + 1) lc8)).heap.size = w8.heap.size := by simp [World.setCell]
        generalize hw9 : w8.setCell ⟨addr1 b.pid, 2, none⟩ (.slice la8 (p.last.length + 1) lc8) = w9 at *
        have hpd9 := hm9.keep hpd (fun e => hGp _ e rfl)
        clear hw9 cq8 fq8 hq8 hsl8 hg8 ho8 hsl7 hq7 hn7 hm7 cq5 cp5 lq lp hq5 hsl5 hpd5 hm5 hm6 hm6' hsl2 ha2 hb2
        obtain ⟨G9, hG9⟩ : ∃ G9 : Nat → Prop, G9 = fun j => G j ∨ (wb.heap.size ≤ j ∧ j < w9.heap.size) := ⟨_, rfl⟩
        have hP9 : PRep w9 (addr1 b.pid) ⟨p.epoch, IntKind.i64.wrap (b.sq + ↑b.vn), p.last ++ [⟨b.sq, b.vn, b.base⟩], p.opn⟩ G9 := by
          refine ⟨by rw [hG9]; exact .inl hG1, fun k hk => ?_, la8, lc8, ?_, ?_, fun a ha => ?_⟩
          · rw [hG9] at hk
            rcases hk with h | h
            · exact hm9.lt (hG2 k h)
            · exact h.2
          · simpa using hq9
          · simpa using hsl9
          · rw [hG9, hsz9]; exact hla8 a ha
        replace hG9 := Lib.hid hG9
        have cq := cellOf hq9
        have fq := frzOf hq9
        go_upto_if 113 with fail
        go_cut [] (fun wd => ∃ G', PRep wd (addr1 b.pid) ⟨p.epoch, IntKind.i64.wrap (b.sq + ↑b.vn), last5 (p.last ++ [⟨b.sq, b.vn, b.base⟩]), p.opn⟩ G' ∧ Mods G w9 wd ∧ ∀ j, G' j → G9 j)
        case first =>
          by_cases h5 : p.last.length = 5
          · obtain ⟨g8, off8, rfl, hcap8, hdrop⟩ := hsl9.drop1
            have hcap6 : 6 ≤ lc8 := by omega
            have hne8 : ¬ lc8 = 1 := by omega
            go_wp2
            go_meet
            have e5 : last5 (p.last ++ [⟨b.sq, b.vn, b.base⟩]) = List.drop 1 (p.last ++ [(⟨b.sq, b.vn, b.base⟩ : Seen)]) := by rw [last5, if_pos (by simp; omega)]
            have e6 : (List.drop 1 (p.last ++ [(⟨b.sq, b.vn, b.base⟩ : Seen)])).length = 5 := by simp; omega
            rw [e5]
            have hq10 := heap_setCell_same hq9 2 (.slice (some ⟨g8, off8 + 3, none⟩) 5 (lc8 - 1))
            simp at hq10
            have hsl10 := slKeep hdrop (Mods.refl.setCell (a := ⟨addr1 b.pid, 2, none⟩) (S := fun k => k = addr1 b.pid) (.slice (some ⟨g8, off8 + 3, none⟩) 5 (lc8 - 1)) (fun _ => rfl)) (fun a ha => by
              simp at ha; subst ha; exact (hla8 ⟨g8, off8, none⟩ rfl).2)
            refine ⟨G9, ⟨hP9.1, fun k hk => by rw [size_setCell]; exact hP9.2.1 k hk, some ⟨g8, off8 + 3, none⟩, lc8 - 1, ?_, ?_, fun a ha => ?_⟩, Mods.refl.setCell _ (fun _ => hG1), fun j hj => hj⟩
            · rw [e6]; exact hq10
            · rw [e6, ← flat_drop1]
              rw [h5] at hsl10
              simpa using hsl10
            · simp at ha; subst ha
              rw [hG9.out, hsz9]
              exact hla8 ⟨g8, off8, none⟩ rfl
          · have h5' : p.last.length < 5 := by omega
            clear h5
            go_wp2
            go_meet
            have e5 : last5 (p.last ++ [⟨b.sq, b.vn, b.base⟩]) = p.last ++ [⟨b.sq, b.vn, b.base⟩] := by rw [last5, if_neg (by simp; omega)]
            rw [e5]
            exact ⟨G9, hP9, Mods.refl, fun j hj => hj⟩
        case rest =>
          obtain ⟨G', hP10, hm10, hG'⟩ := hcut
          obtain ⟨wd, rfl⟩ : ∃ x : World, x = wc := ⟨_, rfl⟩
          obtain ⟨hq1, hq2, la10, lc10, hq10, hsl10, hla10⟩ := id hP10
          have hpd10 := hm10.keep hpd9 (fun e => hGp _ e rfl)
          have hm11 : Mods G wb wd := hm9.trans hm10 (fun _ _ h => h)
          clear cq fq hP9 hq9 hsl9
          have cq := cellOf hq10
          have fq := frzOf hq10
          have cp := cellOf hpd10
          have hnew : ∀ j, G' j → G j ∨ wb.heap.size ≤ j := fun j hj => by
            have := hG' j hj
            rw [hG9.out] at this
            exact this.imp id (·.1)
          by_cases ht : b.txn = true ∧ p.opn < 0
          · obtain ⟨ht, hop⟩ := ht
            have est : p.step b = ⟨p.epoch, IntKind.i64.wrap (b.sq + ↑b.vn), last5 (p.last ++ [⟨b.sq, b.vn, b.base⟩]), b.base⟩ := by simp [Prod.step, ht, hop]
            replace est := Lib.hid est
            go_wp2
            go_end0
            have hms : Mods G wb (wd.setCell ⟨addr1 b.pid, 3, none⟩ (.int .i64 b.base)) := hm11.setCell _ (fun _ => hG1)
            have hq11 := heap_setCell_same hq10 3 (.int .i64 b.base)
            simp at hq11
            obtain ⟨F3, r1, r2⟩ := hclose _ (p.step b) G' hms (by
              rw [est.out]
              exact ⟨hq1, fun k hk => by rw [size_setCell]; exact hq2 k hk, la10, lc10, hq11, slKeep hsl10 (Mods.refl.setCell (S := fun k => k = addr1 b.pid) _ (fun _ => rfl)) (fun a ha => (hla10 a ha).2), hla10⟩) hnew
            rw [hap3.out]
            refine ⟨rfl, addr1, F3, r1, hmd.trans hms (fun j hj h => (hF2w j (hG j h).1).elim id (fun h => by omega)), fun j hj => ?_⟩
            have := hmd.size
            rcases r2 j hj with h | h
            · rcases hF2w j h with h | h
              · exact .inl h
              · exact .inr (by omega)
            · exact .inr (by omega)
          · have est : p.step b = ⟨p.epoch, IntKind.i64.wrap (b.sq + ↑b.vn), last5 (p.last ++ [⟨b.sq, b.vn, b.base⟩]), p.opn⟩ := by
              have hx : (b.txn && decide (p.opn < 0)) = false := by
                cases htx : b.txn with
                | false => rfl
                | true =>
                  have : ¬ p.opn < 0 := fun h => ht ⟨htx, h⟩
                  simpa using this
              simp [Prod.step, hx]
            replace est := Lib.hid est
            have ht' : b.txn = false ∨ ¬ p.opn < 0 := by
              cases htx : b.txn with
              | false => exact .inl rfl
              | true => exact .inr (fun h => ht ⟨htx, h⟩)
            clear ht
            rcases ht' with ht | ht
            all_goals go_wp2
            all_goals
              go_end0
              obtain ⟨F3, r1, r2⟩ := hclose _ (p.step b) G' hm11 (by rw [est.out]; exact hP10) hnew
              rw [hap3.out]
              refine ⟨rfl, addr1, F3, r1, hmd.trans hm11 (fun j hj h => (hF2w j (hG j h).1).elim id (fun h => by omega)), fun j hj => ?_⟩
              have := hmd.size
              rcases r2 j hj with h | h
              · rcases hF2w j h with h | h
                · exact .inl h
                · exact .inr (by omega)
              · exact .inr (by omega)
end Go.Proofs.Ytnnoicacpcahfaa
