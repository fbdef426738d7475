/- The lists of aborted transactions: Aborts, SameAborts, walked. No condition. -/
import Derived.Test.YtnnoicacpcahfaaProdSize
import Derived.Test.YtnnoicacpcahfaaRefModel
import Derived.WalkKit
import Derived.WalkSpells
import Derived.WalkLawsBesides
import Derived.Lib.Hide
import Derived.Deep.DeepCutAuto
namespace Go.Proofs.Ytnnoicacpcahfaa
open Go.RowKit

theorem Ab.len (b : Ab) : b.cells.length = 3 := rfl
theorem abCells {w : World} {g off k n : Nat} {l : List Ab} {b : Ab} (h : ∀ j, j < n * 3 → w.cell? ⟨g, off + j, none⟩ = (l.flatMap Ab.cells)[j]?) (hn : l.length = n) (hb : l[k]? = some b) :
    w.cell? ⟨g, off + k * 3, none⟩ = some (.int .u64 b.pid) ∧ w.cell? ⟨g, off + k * 3 + 1, none⟩ = some (.int .i64 b.first) ∧ w.cell? ⟨g, off + k * 3 + 2, none⟩ = some (.int .i64 b.last) := by
  have hk : k < l.length := (List.getElem?_eq_some_iff.1 hb).1
  have key : ∀ j, j < 3 → w.cell? ⟨g, off + k * 3 + j, none⟩ = b.cells[j]? := fun j hj => by
    rw [Nat.add_assoc, h _ (by omega), flat_get Ab.cells Ab.len l k j b hb hj]
  exact ⟨key 0 (by omega), key 1 (by omega), key 2 (by omega)⟩

def within (lo hi : Int) (a : Ab) : Bool := decide (lo ≤ a.last) && decide (a.first < hi)
theorem filter_take {α : Type} (p : α → Bool) (l : List α) (k : Nat) (a : α) (h : l[k]? = some a) : (l.take (k + 1)).filter p = (l.take k).filter p ++ if p a then [a] else [] := by
  rw [List.take_add_one, h, List.filter_append]
  congr 1
  simp [List.filter_cons]

set_option maxRecDepth 100000 in
set_option maxHeartbeats 1600000 in
theorem aborts_walk (w : World) (bt : Nat) (v0 : Value) (la : Option Addr) (lc : Nat) (l : List Ab) (lo hi : Int)
    (hb : w.heap[bt]? = some (.cells #[v0, .slice la l.length lc] 70)) (hsl : Rd w 3 (.slice la l.length lc) l.length (l.flatMap Ab.cells)) (hlen : l.length * 24 ≤ 140737488355328) :
    Calls Try.prog 11 #[.pointer (some ⟨bt, 0, none⟩), .int .i64 lo, .int .i64 hi] w
      fun e w' => ∃ la' lc', e = .returned (.slice la' (l.filter (within lo hi)).length lc') ∧ NewSl w.heap.size w' 39 3 la' (l.filter (within lo hi)).length lc' ((l.filter (within lo hi)).flatMap Ab.cells) ∧ Mods Nil w w' := by
  have lb := ltOf hb
  have cb := cellOf hb
  obtain ⟨R, hR⟩ : ∃ R, R = l.filter (within lo hi) := ⟨_, rfl⟩
  rw [← hR]
  replace hR := Lib.hid hR
  go_enter Try.func11, Try.ntmps11
  go_wp2_with fail
  go_loopw [7, 17] (fun s7 s17 wr => ∃ (k : Nat) (r : List Ab) (ra : Option Addr) (rc : Nat), k ≤ l.length ∧ s17 = .int .i64 k ∧ Hid (r = (l.take k).filter (within lo hi)) ∧ r.length ≤ k ∧ s7 = .slice ra r.length rc ∧ NewSl w.heap.size wr 39 3 ra r.length rc (r.flatMap Ab.cells) ∧ Mods Nil w wr) (fun _ s17 _ => l.length - (intOf s17).toNat)
  case atStart => exact ⟨0, [], none, 0, by omega, rfl, rfl, by simp, rfl, NewSl.nil, Mods.refl⟩
  case round =>
    obtain ⟨k, r, ra, rc, hk, rfl, hr, hrk, rfl, hns, hm⟩ := hrel
    by_cases hlt : k < l.length
    · obtain ⟨g, off, rfl, hg, hcells⟩ := (hsl.keep hm (fun _ _ => id)).form (by omega) (by omega)
      obtain ⟨b, hbk⟩ : ∃ b, l[k]? = some b := ⟨_, List.getElem?_eq_getElem hlt⟩
      obtain ⟨c0, c1, c2⟩ := abCells hcells rfl hbk
      have hnext : Hid ((l.take (k + 1)).filter (within lo hi) = r ++ if within lo hi b then [b] else []) := by rw [hr.out]; exact filter_take _ l k b hbk
      replace hbk := Lib.hid hbk
      clear hcells cb
      by_cases hw : lo ≤ b.last ∧ b.first < hi
      · obtain ⟨hw1, hw2⟩ := hw
        have hnext' : Hid (r ++ [b] = (l.take (k + 1)).filter (within lo hi)) := by
          have : within lo hi b = true := by simp [within, hw1, hw2]
          rw [hnext.out, this]; exact rfl
        clear hnext
        have hsz := hm.size
        go_upto_region 8 with fail
        apply wp_region_lit
        repeat ((fail_if_success at_builtin); go_step)
        refine wpList_append_sl (n := r.length) (xs := r.flatMap Ab.cells) (m := 1) (news := Ab.cells b) (by rfl) (.tmp 31) (.tmp 33) (by rfl) elAbort (by rfl) ?c1 (by rfl) ?c2 ?c3 ?c4 ?c5 ?_
        rotate_right 1
        intro v' w4 h4 hg4 ho4 _
        case c1 => exact ((hns.keep (Mods.refl.alloc _) (fun _ _ => id)).keep (Mods.refl.alloc _) (fun _ _ => id)).1
        case c2 => exact Rd.blk (cs := Ab.cells b) (heap_new' _ (by simp)) rfl
        case c3 => simp [Value.oneCell', Ab.cells]
        case c4 => simp only [maxLen]; omega
        case c5 => omega
        have hmm : Mods Nil w ((wr.alloc (Obj.cells #[.int .u64 b.pid, .int .i64 b.first, .int .i64 b.last] 39)).alloc (Obj.cells #[.int .u64 b.pid, .int .i64 b.first, .int .i64 b.last] 39)) := (hm.alloc _).alloc _
        obtain ⟨la', lc', rfl, hns', hm'⟩ := NewSl.app (W := w) ((hns.keep (Mods.refl.alloc _) (fun _ _ => id)).keep (Mods.refl.alloc _) (fun _ _ => id)) (by simp; omega) h4 hg4 ho4 hmm (Nat.le_refl _)
        go_wp2
        exact ⟨⟨k + 1, r ++ [b], la', lc', by omega, by go_num, hnext', by simp; omega, by simp, by simpa using hns', hm'⟩, by simp [intOf]; omega⟩
      · have hnext' : Hid (r = (l.take (k + 1)).filter (within lo hi)) := by
          rw [hnext.out]
          have : within lo hi b = false := by
            unfold within
            by_cases h : lo ≤ b.last
            · have : ¬ b.first < hi := fun h' => hw ⟨h, h'⟩
              simp [this]
            · simp [h]
          rw [this]; show r = r ++ (if false = true then [b] else []); simp
        have hw' : ¬ lo ≤ b.last ∨ (lo ≤ b.last ∧ ¬ b.first < hi) := by
          by_cases h : lo ≤ b.last
          · exact .inr ⟨h, fun h' => hw ⟨h, h'⟩⟩
          · exact .inl h
        clear hnext hw
        rcases hw' with hw | ⟨hw, hw2⟩
        all_goals go_wp2
        all_goals exact ⟨⟨k + 1, r, ra, rc, by omega, by go_num, hnext', by omega, rfl, hns.keep (Mods.refl.alloc _) (fun _ _ => id), hm.alloc _⟩, by simp [intOf]; omega⟩
    · obtain rfl : k = l.length := by omega
      have e1 : r = R := by rw [hr.out, hR.out, List.take_length]
      subst e1
      go_wp2
      go_ret
      exact ⟨ra, rc, rfl, hns, hm⟩
end Go.Proofs.Ytnnoicacpcahfaa
