/- Two equal lists of aborted transactions are told to be one. No condition. -/
import Derived.Test.YtnnoicacpcahfaaProdAbs
namespace Go.Proofs.Ytnnoicacpcahfaa
open Go.RowKit

set_option maxRecDepth 100000 in
set_option maxHeartbeats 1600000 in
theorem sameAborts_walk (w : World) (la la' : Option Addr) (lc lc' : Nat) (l : List Ab) (hlen : l.length ≤ 4611686018427387904)
    (h1 : Rd w 3 (.slice la l.length lc) l.length (l.flatMap Ab.cells)) (h2 : Rd w 3 (.slice la' l.length lc') l.length (l.flatMap Ab.cells)) :
    Calls Try.prog 12 #[.slice la l.length lc, .slice la' l.length lc'] w
      fun e w' => e = .returned (.bool true) ∧ Mods Nil w w' := by
  go_enter Try.func12, Try.ntmps12
  go_wp2_with fail
  go_loopw [5] (fun s5 wr => ∃ k : Nat, k ≤ l.length ∧ s5 = .int .i64 k ∧ Mods Nil w wr) (fun s5 _ => l.length - (intOf s5).toNat)
  case atStart => exact ⟨0, by omega, rfl, Mods.refl⟩
  case round =>
    obtain ⟨k, hk, rfl, hm⟩ := hrel
    by_cases hlt : k < l.length
    · obtain ⟨g, off, rfl, hg, hcells⟩ := (h1.keep hm (fun _ _ => id)).form (by omega) (by omega)
      obtain ⟨g', off', rfl, hg', hcells'⟩ := (h2.keep hm (fun _ _ => id)).form (by omega) (by omega)
      obtain ⟨b, hbk⟩ : ∃ b, l[k]? = some b := ⟨_, List.getElem?_eq_getElem hlt⟩
      obtain ⟨c0, c1, c2⟩ := abCells hcells rfl hbk
      obtain ⟨d0, d1, d2⟩ := abCells hcells' rfl hbk
      replace hbk := Lib.hid hbk
      clear hcells hcells'
      have i0 : (0 : Int) ≤ (k : Int) := by omega
      have i1 : (k : Int) < (l.length : Int) := by omega
      go_upto_region 6 with fail
      refine wp_region_plan [(.pure, 0), (.pure, 1), (.pure, 2), (.read, 3), (.pure, 4), (.pure, 5), (.pure, 6), (.read, 7), (.pure, 8)] 9 (fun W => Mods Nil _ W) mixed (by kernel_rfl) (by kernel_rfl) Mods.refl.drew ?_
      repeat first
         | (refine reg_pure (v := ?_) rfl rfl ?_ ?_; rotate_left 1; (· (intro W; go_simp <;> with_reducible rfl)); simp only [Act.put, List.setIfInBounds_toArray, List.set_cons_zero, List.set_cons_succ])
         | (refine reg_read (v := ?_) rfl rfl ?_ ?_; rotate_left 1; (· (intro W hW; have hW' := Mods.cells hW; go_simp <;> with_reducible rfl)); simp only [Act.put, List.setIfInBounds_toArray, List.set_cons_zero, List.set_cons_succ])
         | (refine reg_off (by rfl) (by rfl) ?_; simp only [Act.put, List.setIfInBounds_toArray, List.set_cons_zero, List.set_cons_succ])
         | (refine reg_pure_on (v := ?_) rfl (by rfl) ?_ ?_; rotate_left 1; (· (intro W; go_simp <;> with_reducible rfl)); simp only [Act.put, List.setIfInBounds_toArray, List.set_cons_zero, List.set_cons_succ])
         | (refine reg_read_on (v := ?_) rfl (by rfl) ?_ ?_; rotate_left 1; (· (intro W hW; have hW' := Mods.cells hW; go_simp <;> with_reducible rfl)); simp only [Act.put, List.setIfInBounds_toArray, List.set_cons_zero, List.set_cons_succ])
      refine reg_done (qnp_normal ?_)
      go_wp2
      exact ⟨⟨k + 1, by omega, by go_num, hm.drew⟩, by simp [intOf]; omega⟩
    · obtain rfl : k = l.length := by omega
      go_wp2
      go_ret
      exact ⟨rfl, hm⟩
end Go.Proofs.Ytnnoicacpcahfaa
