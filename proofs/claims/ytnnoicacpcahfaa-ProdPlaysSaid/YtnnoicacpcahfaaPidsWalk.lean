/- (*Table).Pids walked: its contract, PidsOk; the law ProdPlays. No condition. -/
import Derived.Test.YtnnoicacpcahfaaPidsIter
import Derived.Test.YtnnoicacpcahfaaProdPlaysProof
namespace Go.Proofs.Ytnnoicacpcahfaa
open Go Go.RowKit Go.Shelf

theorem mods_below {w w' : World} (h : Below w.heap.size w w') : Mods Nil w w' :=
  ⟨h.os, h.tape, h.output, h.size, fun k hk _ => h.block k hk⟩
theorem sl_row {w : World} {base e size : Nat} {v : Value} {n : Nat} {xs : List Value} (h : w.ownsRow base e size v n xs) : ∃ la lc, v = .slice la n lc ∧ NewSl base w e size la n lc xs := by
  obtain ⟨hl, ⟨rfl, rfl⟩ | ⟨g, cap, cur, rfl, h1, h2, h3, h4, h5, h6⟩⟩ := h
  · have hx : xs = [] := by simpa using hl
    subst hx
    exact ⟨none, 0, rfl, NewSl.nil⟩
  · refine ⟨some ⟨g, 0, none⟩, cap, rfl, ⟨hl, .inr ⟨g, 0, cap, cur, rfl, h2, h3, h4, by omega, fun j hj => ?_⟩⟩, fun a ha => by cases ha; exact h1⟩
    rw [← h6, List.getElem?_take, if_pos hj, Nat.zero_add]
    simp

set_option maxRecDepth 100000 in
set_option maxHeartbeats 1600000 in
theorem pidsOk : PidsOk := by
  intro w bt T addr F hT hlen
  obtain ⟨-, hlt, -, -, mb, aa, ac, lab, hbt, -, hM, -⟩ := hT
  have hmx : T.keys.length ≤ maxLen := by unfold maxLen; omega
  have hMl := hM.lt
  have cbt := cellOf hbt
  have lbt := ltOf hbt
  have hKeys : Calls Try.prog 61 #[.map (some mb)] w fun e w' => e = .returned (.func (.func 76) #[] #[.pointer (some ⟨w.heap.size, 0, none⟩)]) ∧ w' = w.alloc (.cells #[.map (some mb)] 68) := by
    go_enter Try.func61, Try.ntmps61
    go_wp2
    go_ret
    exact ⟨rfl, rfl⟩
  obtain ⟨w1, hw1⟩ : ∃ w1, w1 = w.alloc (.cells #[.map (some mb)] 68) := ⟨_, rfl⟩
  have hm1 : Mods Nil w w1 := by rw [hw1]; exact Mods.refl.alloc _
  have hc1 : w1.cell? ⟨w.heap.size, 0, none⟩ = some (.map (some mb)) := by rw [hw1]; exact (Boxed.new w 68 (.map (some mb))).cell
  have hs1 : w.heap.size < w1.heap.size := by rw [hw1]; simp
  have hM1 := hM.keep hm1 id
  replace hw1 := Lib.hid hw1
  have hseq := keys_stops Fence.wide 5 trivial rfl (by omega) w.heap.size mb T.keys addr w1 hs1 hc1 hM1
  have hApp := callsIn_wide.1 (appendSeq_in Fence.wide 6 trivial rfl (by omega) 76 #[.pointer (some ⟨w.heap.size, 0, none⟩)] trivial (enters_of Try.func76 (by kernel_rfl) rfl) _ _ T.keys.length hmx hlen w1 hseq)
  have hCol : Calls Try.prog 74 #[.func (.func 76) #[] #[.pointer (some ⟨w.heap.size, 0, none⟩)]] w1 fun e w' => ∃ la lc ss, e = .returned (.slice la T.keys.length lc) ∧ ss.Perm T.keys ∧ NewSl w1.heap.size w' 29 1 la T.keys.length lc (u64s ss) ∧ Mods Nil w1 w' := by
    go_enter Try.func74, Try.ntmps74
    go_wp2_with (go_at_call 95; refine hApp.mono ?_; rintro e w2 ⟨v, ss, rfl, hp, hrow, hb⟩)
    obtain ⟨la, lc, rfl, hN⟩ := sl_row hrow
    go_ret
    refine ⟨la, lc, ss, ?_, hp, ?_, mods_below hb⟩
    · rw [hp.length_eq]; rfl
    · rw [← hp.length_eq]; exact hN
  clear hApp hseq
  have hSrt : Calls Try.prog 60 #[.func (.func 76) #[] #[.pointer (some ⟨w.heap.size, 0, none⟩)]] w1 fun e w' => ∃ la lc, e = .returned (.slice la T.keys.length lc) ∧ NewSl w1.heap.size w' 29 1 la T.keys.length lc (u64s (sortI T.keys)) ∧ Mods Nil w1 w' := by
    go_enter Try.func60, Try.ntmps60
    go_wp2_with (go_at_call 74; refine hCol.mono ?_; rintro e w2 ⟨la, lc, ss, rfl, hp, hN, hm2⟩)
    have hsort : Calls Try.prog 75 #[.slice la T.keys.length lc] w2 fun e w' => e = .returned (.tuple #[]) ∧ NewSl w1.heap.size w' 29 1 la T.keys.length lc (u64s (sortI T.keys)) ∧ Mods Nil w1 w' := by
      have hsi : sortI ss = sortI T.keys := sorted_unique ((sortI_perm ss).trans (hp.trans (sortI_perm T.keys).symm)) (sortI_sorted _) (sortI_sorted _)
      rcases hN.1.2 with ⟨h1, h2⟩ | ⟨g, off, cap, cur, h1, h2, h3, h4, h5, h6⟩
      · simp only [Value.slice.injEq] at h1
        obtain ⟨rfl, h3, rfl⟩ := h1
        have hk : T.keys = [] := List.eq_nil_of_length_eq_zero h2
        rw [hk]
        refine (sortNil_walk w2 none 0).mono ?_
        rintro e w3 ⟨rfl, rfl⟩
        exact ⟨rfl, by simpa [sortI, u64s] using (NewSl.nil : NewSl w1.heap.size w2 29 1 none 0 0 []), hm2⟩
      · simp only [Value.slice.injEq] at h1
        obtain ⟨rfl, -, rfl⟩ := h1
        have hgb := hN.2 _ rfl
        refine (sort_walk w2 g off T.keys.length lc ss hN.1 (by omega)).mono ?_
        rintro e w3 ⟨rfl, hS, hm3⟩
        rw [hsi] at hS
        exact ⟨rfl, ⟨hS, hN.2⟩, hm2.trans hm3 (fun k hk e => by subst e; simp at hgb; omega)⟩
    clear hN hp hm2
    go_wp2_with (go_at_call 75; refine hsort.mono ?_; rintro e w3 ⟨rfl, hN, hm3⟩)
    go_ret
    exact ⟨la, lc, rfl, hN, hm3⟩
  clear hCol
  go_enter Try.func35, Try.ntmps35
  go_wp2_with (first | (go_at_call 61; refine hKeys.mono ?_; rintro e w' ⟨rfl, h⟩; rw [← hw1.out] at h; subst h) | (go_at_call 60; refine hSrt.mono ?_; rintro e w3 ⟨la, lc, rfl, hN, hm3⟩))
  go_ret
  exact ⟨la, lc, rfl, ⟨hN.1, fun a ha => Nat.le_trans hm1.size (hN.2 a ha)⟩, hm1.trans hm3 (fun _ _ h => h)⟩

theorem prodPlays_holds : Rows.ProdPlaysSaid := prodPlays_holds_of pidsOk
#print axioms prodPlays_holds
end Go.Proofs.Ytnnoicacpcahfaa
