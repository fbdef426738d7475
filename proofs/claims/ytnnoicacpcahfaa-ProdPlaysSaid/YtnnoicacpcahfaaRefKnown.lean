/- Reference of layer 9: Known, walked. No condition. -/
import Derived.Test.YtnnoicacpcahfaaProdSize
import Derived.Test.YtnnoicacpcahfaaRefModel
import Derived.WalkKit
import Derived.WalkSpells
import Derived.WalkLawsBesides
import Derived.Lib.Hide
import Derived.Deep.DeepCutAuto
namespace Go.Proofs.Ytnnoicacpcahfaa
open Go.RowKit

set_option maxRecDepth 100000 in
set_option maxHeartbeats 1600000 in
theorem refKnown_walk (w : World) (bt : Nat) (la : Option Addr) (lc : Nat) (l : List Bt) (pid : Int)
    (hb : w.heap[bt]? = some (.cells #[.slice la l.length lc] 27)) (hsl : Rd w 9 (.slice la l.length lc) l.length (l.flatMap Bt.cells)) (hlen : l.length ≤ 4611686018427387904) :
    Calls Try.prog 27 #[.pointer (some ⟨bt, 0, none⟩), .int .u64 pid] w
      fun e w' => e = .returned (known l pid).out ∧ Mods Nil w w' := by
  have lb := ltOf hb
  have cb := cellOf hb
  obtain ⟨R, hR⟩ : ∃ R, R = (known l pid).out := ⟨_, rfl⟩
  rw [← hR]
  replace hR := Lib.hid hR
  go_enter Try.func27, Try.ntmps27
  go_wp2_with fail
  go_loopw [8, 9, 10, 11, 12] (fun s8 s9 s10 s11 s12 wr => ∃ (k : Nat) (st : KSt), k ≤ l.length ∧ s12 = .int .i64 k ∧ Hid (st = known (l.take k) pid) ∧ s8 = .int .i64 st.epoch ∧ s9 = .int .i64 st.next ∧ s10 = .int .i64 st.opn ∧ s11 = .bool st.is ∧ Mods Nil w wr) (fun _ _ _ _ s12 _ => l.length - (intOf s12).toNat)
  case atStart => exact ⟨0, ⟨0, 0, -1, false⟩, by omega, rfl, rfl, rfl, rfl, rfl, rfl, Mods.refl⟩
  case round =>
    obtain ⟨k, st, hk, rfl, hst, rfl, rfl, rfl, rfl, hm⟩ := hrel
    have cbr := cellOf (hm.keep hb id)
    clear cb
    by_cases hlt : k < l.length
    · obtain ⟨g, off, rfl, hg, hcells⟩ := (hsl.keep hm (fun _ _ => id)).form (by omega) (by omega)
      obtain ⟨b, hbk⟩ : ∃ b, l[k]? = some b := ⟨_, List.getElem?_eq_getElem hlt⟩
      obtain ⟨c0, c1, c2, c3, c4, c5, c6, c7, c8⟩ := btCells hcells rfl hbk
      have hnext : Hid (kstep pid st b = known (l.take (k + 1)) pid) := by rw [hst.out]; exact (known_take l k b pid hbk).symm
      replace hbk := Lib.hid hbk
      clear hcells
      by_cases hskip : b.pid ≠ pid ∨ pid = 0
      · have hnext' : Hid (st = known (l.take (k + 1)) pid) := by rw [← hnext.out, kstep, if_pos hskip]; exact rfl
        have hs : (b.pid != pid) = true ∨ (b.pid != pid) = false ∧ (pid == 0) = true := by
          by_cases h : b.pid = pid
          · exact .inr ⟨by simpa using h, by rcases hskip with h' | h'; exact absurd h h'; simpa using h'⟩
          · exact .inl (by simpa using h)
        clear hskip
        rcases hs with hs | ⟨hs, hs'⟩
        all_goals go_wp2
        all_goals exact ⟨⟨k + 1, st, by omega, by go_num, hnext', rfl, rfl, rfl, rfl, hm.alloc _⟩, by simp [intOf]; omega⟩
      · have hnext' : Hid ((st.up b).on b = known (l.take (k + 1)) pid) := by rw [← hnext.out, kstep, if_neg hskip]; exact rfl
        have hs : (b.pid != pid) = false := by
          have : b.pid = pid := Decidable.byContradiction fun h => hskip (.inl h)
          simpa using this
        have hs' : (pid == 0) = false := by
          have : ¬ pid = 0 := fun h => hskip (.inr h)
          simpa using this
        clear hskip
        have h3 : st.is = false ∨ (st.is = true ∧ st.epoch < b.pe) ∨ (st.is = true ∧ ¬ st.epoch < b.pe) := by
          cases st.is
          · exact .inl rfl
          · by_cases h : st.epoch < b.pe
            · exact .inr (.inl ⟨rfl, h⟩)
            · exact .inr (.inr ⟨rfl, h⟩)
        by_cases hc : b.ctl = true
        · rcases h3 with his | ⟨his, hup⟩ | ⟨his, hup⟩
          all_goals go_wp2
          all_goals exact ⟨⟨k + 1, (st.up b).on b, by omega, by go_num, hnext', by simp [KSt.up, KSt.on, *], by simp [KSt.up, KSt.on, *], by simp [KSt.up, KSt.on, *], by simp [KSt.up, KSt.on, *], hm.alloc _⟩, by simp [intOf]; omega⟩
        · replace hc : b.ctl = false := by simpa using hc
          obtain ⟨ob, hob⟩ : ∃ o, o = (if b.txn && decide (st.opn < 0) then b.base else st.opn) := ⟨_, rfl⟩
          replace hob := Lib.hid hob
          have ht3 : (b.txn = false ∨ (b.txn = true ∧ st.opn < 0)) ∨ (b.txn = true ∧ ¬ st.opn < 0) := by
            cases b.txn
            · exact .inl (.inl rfl)
            · by_cases h : st.opn < 0
              · exact .inl (.inr ⟨rfl, h⟩)
              · exact .inr ⟨rfl, h⟩
          rcases h3 with his | ⟨his, hup⟩ | ⟨his, hup⟩
          all_goals go_upto_region 13 with fail
          all_goals
            refine wp_region_plan [(.pure, 0), (.read, 1), (.read, 2), (.ben, 3), (.pure, 4), (.pure, 5)] 6 (fun W => Mods Nil _ W) mixed (by kernel_rfl) (by kernel_rfl) Mods.refl.drew ?_
            repeat first
               | (refine reg_pure (v := ?_) rfl rfl ?_ ?_; rotate_left 1; (· (intro W; go_simp <;> with_reducible rfl)); simp only [Act.put, List.setIfInBounds_toArray, List.set_cons_zero, List.set_cons_succ])
               | (refine reg_read (v := ?_) rfl rfl ?_ ?_; rotate_left 1; (· (intro W hW; have hW' := Mods.cells hW; go_simp <;> with_reducible rfl)); simp only [Act.put, List.setIfInBounds_toArray, List.set_cons_zero, List.set_cons_succ])
               | (refine reg_off (by rfl) (by rfl) ?_; simp only [Act.put, List.setIfInBounds_toArray, List.set_cons_zero, List.set_cons_succ])
               | (refine reg_pure_on (v := ?_) rfl (by rfl) ?_ ?_; rotate_left 1; (· (intro W; go_simp <;> with_reducible rfl)); simp only [Act.put, List.setIfInBounds_toArray, List.set_cons_zero, List.set_cons_succ])
               | (refine reg_read_on (v := ?_) rfl (by rfl) ?_ ?_; rotate_left 1; (· (intro W hW; have hW' := Mods.cells hW; go_simp <;> with_reducible rfl)); simp only [Act.put, List.setIfInBounds_toArray, List.set_cons_zero, List.set_cons_succ])
            refine reg_ben (by rfl) (by rfl) (fun K hK => ?_)
            go_simp
            refine (refsize_any _ _ _ _ _ _ _ _ _ _ _ _).mono ?_
            rintro e w4 ⟨rfl, hm4⟩
            refine hK _ _ (Mods.drew_left hm4) ?_
            clear hK K
            repeat first
               | (refine reg_pure (v := ?_) rfl rfl ?_ ?_; rotate_left 1; (· (intro W; go_simp <;> with_reducible rfl)); simp only [Act.put, List.setIfInBounds_toArray, List.set_cons_zero, List.set_cons_succ])
               | (refine reg_read (v := ?_) rfl rfl ?_ ?_; rotate_left 1; (· (intro W hW; skip; go_simp <;> with_reducible rfl)); simp only [Act.put, List.setIfInBounds_toArray, List.set_cons_zero, List.set_cons_succ])
               | (refine reg_off (by rfl) (by rfl) ?_; simp only [Act.put, List.setIfInBounds_toArray, List.set_cons_zero, List.set_cons_succ])
               | (refine reg_pure_on (v := ?_) rfl (by rfl) ?_ ?_; rotate_left 1; (· (intro W; go_simp <;> with_reducible rfl)); simp only [Act.put, List.setIfInBounds_toArray, List.set_cons_zero, List.set_cons_succ])
               | (refine reg_read_on (v := ?_) rfl (by rfl) ?_ ?_; rotate_left 1; (· (intro W hW; skip; go_simp <;> with_reducible rfl)); simp only [Act.put, List.setIfInBounds_toArray, List.set_cons_zero, List.set_cons_succ])
            refine reg_done (qnp_normal ?_)
            have hm5 : Mods Nil w w4 := (hm.alloc _).trans (Mods.drew_left hm4) (fun _ _ h => h)
            have l5 := Mods.cells (Mods.drew_left hm4)
            clear hm4
            rcases ht3 with (htx | ⟨htx, hopx⟩) | ⟨htx, hopx⟩
            all_goals go_wp2
            all_goals exact ⟨⟨k + 1, (st.up b).on b, by omega, by go_num, hnext', by simp [KSt.up, KSt.on, *], by simp [KSt.up, KSt.on, *], by simp [KSt.up, KSt.on, *], by simp [KSt.up, KSt.on, *], hm5⟩, by simp [intOf]; omega⟩
    · obtain rfl : k = l.length := by omega
      have hst2 : st = known l pid := by rw [hst.out, List.take_length]
      have hout : Hid (R = st.out) := by rw [hR.out, hst2]; exact rfl
      clear hst2
      cases his : st.is
      · go_wp2
        ((try simp only [Exit.inBlock, Exit.then]); refine bodyPost_ret (results_tmp4 rfl _ _ _) rfl ?_)
        exact ⟨by rw [hout.out, KSt.out, his]; rfl, hm⟩
      · go_wp2
        ((try simp only [Exit.inBlock, Exit.then]); refine bodyPost_ret (results_tmp4 rfl _ _ _) rfl ?_)
        exact ⟨by rw [hout.out, KSt.out, his]; rfl, hm⟩
end Go.Proofs.Ytnnoicacpcahfaa
