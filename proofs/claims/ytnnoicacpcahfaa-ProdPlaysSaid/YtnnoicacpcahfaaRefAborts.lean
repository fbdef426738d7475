/- Reference of layer 9: Aborts, walked. No condition. -/
import Derived.Test.YtnnoicacpcahfaaRefKnown
import Derived.Test.YtnnoicacpcahfaaProdAbs
namespace Go.Proofs.Ytnnoicacpcahfaa
open Go.RowKit

/-- The aborted transaction that a batch behind l ends. -/
def abNext (l : List Bt) (b : Bt) : List Ab :=
  if b.ctl = true ∧ b.com = false ∧ (known l b.pid).is = true ∧ 0 ≤ (known l b.pid).opn then [⟨b.pid, (known l b.pid).opn, b.base⟩] else []
def abUpTo (l : List Bt) : Nat → List Ab
  | 0 => []
  | k + 1 => abUpTo l k ++ (match l[k]? with | some b => abNext (l.take k) b | none => [])
def abAll (l : List Bt) : List Ab := abUpTo l l.length
theorem abNext_len (l : List Bt) (b : Bt) : (abNext l b).length ≤ 1 := by unfold abNext; split <;> simp
theorem abUpTo_len (l : List Bt) : ∀ k, (abUpTo l k).length ≤ k
  | 0 => by simp [abUpTo]
  | k + 1 => by
    have h := abUpTo_len l k
    rw [abUpTo, List.length_append]
    split
    · have := abNext_len (l.take k) ‹_›; omega
    · simp; omega

theorem Rd.take {w : World} {la : Option Addr} {lc n : Nat} {l : List Bt} (h : Rd w 9 (.slice la n lc) n (l.flatMap Bt.cells)) (hn : l.length = n) (k : Nat) (hk : k ≤ n) (hpos : 0 < n) : Rd w 9 (.slice la k lc) k ((l.take k).flatMap Bt.cells) := by
  obtain ⟨g, off, rfl, hg, hc⟩ := h.form (by omega) hpos
  have hlen : ((l.take k).flatMap Bt.cells).length = k * 9 := by rw [flen Bt.cells Bt.len, List.length_take]; congr 1; omega
  refine ⟨hlen, .inr ⟨_, _, rfl, fun j u hu => ?_⟩⟩
  have hj : j < k * 9 := by rw [← hlen]; exact (List.getElem?_eq_some_iff.1 hu).1
  rw [addo, hc j (by omega), ← hu]
  have e : l.flatMap Bt.cells = (l.take k).flatMap Bt.cells ++ (l.drop k).flatMap Bt.cells := by rw [← List.flatMap_append, List.take_append_drop]
  rw [e, List.getElem?_append_left (by omega)]

theorem refKnown_walk' (w : World) (bt : Nat) (la : Option Addr) (lc n : Nat) (l : List Bt) (pid : Int) (hl : l.length = n)
    (hb : w.heap[bt]? = some (.cells #[.slice la n lc] 27)) (hsl : Rd w 9 (.slice la n lc) n (l.flatMap Bt.cells)) (hlen : n ≤ 4611686018427387904) :
    Calls Try.prog 27 #[.pointer (some ⟨bt, 0, none⟩), .int .u64 pid] w
      fun e w' => e = .returned (known l pid).out ∧ Mods Nil w w' := by
  subst hl
  exact refKnown_walk w bt la lc l pid hb hsl hlen

set_option maxRecDepth 100000 in
set_option maxHeartbeats 1600000 in
theorem refAborts_walk (w : World) (bt : Nat) (la : Option Addr) (lc : Nat) (l : List Bt) (lo hi : Int)
    (hb : w.heap[bt]? = some (.cells #[.slice la l.length lc] 27)) (hsl : Rd w 9 (.slice la l.length lc) l.length (l.flatMap Bt.cells)) (hcap : l.length ≤ lc) (hlen : l.length * 72 ≤ 140737488355328) :
    Calls Try.prog 13 #[.pointer (some ⟨bt, 0, none⟩), .int .i64 lo, .int .i64 hi] w
      fun e w' => ∃ la' lc', e = .returned (.slice la' ((abAll l).filter (within lo hi)).length lc') ∧ NewSl w.heap.size w' 39 3 la' ((abAll l).filter (within lo hi)).length lc' (((abAll l).filter (within lo hi)).flatMap Ab.cells) ∧ Mods Nil w w' := by
  have lb := ltOf hb
  have cb := cellOf hb
  obtain ⟨R, hR⟩ : ∃ R, R = (abAll l).filter (within lo hi) := ⟨_, rfl⟩
  rw [← hR]
  replace hR := Lib.hid hR
  go_enter Try.func13, Try.ntmps13
  go_wp2_with fail
  go_loopw [7, 8] (fun s7 s8 wr => ∃ (k : Nat) (r : List Ab) (ra : Option Addr) (rc : Nat), k ≤ l.length ∧ s8 = .int .i64 k ∧ Hid (r = (abUpTo l k).filter (within lo hi)) ∧ r.length ≤ k ∧ s7 = .slice ra r.length rc ∧ NewSl w.heap.size wr 39 3 ra r.length rc (r.flatMap Ab.cells) ∧ Mods Nil w wr) (fun _ s8 _ => l.length - (intOf s8).toNat)
  case atStart => exact ⟨0, [], none, 0, by omega, rfl, rfl, by simp, rfl, NewSl.nil, Mods.refl⟩
  case round =>
    obtain ⟨k, r, ra, rc, hk, rfl, hr, hrk, rfl, hns, hm⟩ := hrel
    have cbr := cellOf (hm.keep hb id)
    clear cb
    by_cases hlt : k < l.length
    · have hslr := hsl.keep hm (fun _ _ => id)
      have hslk := hslr.take rfl k hk (by omega)
      obtain ⟨g, off, rfl, hg, hcells⟩ := hslr.form (by omega) (by omega)
      obtain ⟨b, hbk⟩ : ∃ b, l[k]? = some b := ⟨_, List.getElem?_eq_getElem hlt⟩
      obtain ⟨c0, c1, c2, c3, c4, c5, c6, c7, c8⟩ := btCells hcells rfl hbk
      have hnext : Hid ((abUpTo l (k + 1)).filter (within lo hi) = r ++ (abNext (l.take k) b).filter (within lo hi)) := by
        rw [abUpTo, hbk, List.filter_append, ← hr.out]; exact rfl
      replace hbk := Lib.hid hbk
      have hsz := hm.size
      have lbr := hm.lt lb
      clear hcells
      by_cases hcc : b.ctl = true ∧ b.com = false
      · obtain ⟨hc, hco⟩ := hcc
        have hcapk : k ≤ lc := by omega
        go_wp2_with fail
        refine (refKnown_walk' _ _ (some ⟨g, off, none⟩) lc k (l.take k) b.pid (by simp; omega) (heap_new' _ (by simp)) ((hslk.keep (Mods.refl.alloc _) (fun _ _ => id)).keep (Mods.refl.alloc _) (fun _ _ => id)) (by omega)).mono ?_
        rintro e w4 ⟨rfl, hm4⟩
        have hmA : Mods Nil wr w4 := ((Mods.refl.alloc _).alloc _).trans hm4 (fun _ _ h => h)
        have hm5 : Mods Nil w w4 := hm.trans hmA (fun _ _ h => h)
        have hns4 := hns.keep hmA (fun _ _ => id)
        have hp4 := cellOf (hm4.keep (heap_old (heap_new wr _)) id)
        have hpl : wr.heap.size < w4.heap.size := by
          have := hm4.size
          simp at this
          omega
        have hsz4 : w.heap.size ≤ w4.heap.size := by omega
        clear hm4
        generalize hst : known (l.take k) b.pid = st at *
        have habn : Hid (abNext (l.take k) b = if st.is = true ∧ 0 ≤ st.opn then [⟨b.pid, st.opn, b.base⟩] else []) := by
          rw [abNext, hst]; show _ = _; simp only [hc, hco, true_and]
        clear hst
        by_cases hit : st.is = true ∧ 0 ≤ st.opn ∧ lo ≤ b.base ∧ st.opn < hi
        · obtain ⟨h1, h2, h3, h4⟩ := hit
          have hnext' : Hid (r ++ [⟨b.pid, st.opn, b.base⟩] = (abUpTo l (k + 1)).filter (within lo hi)) := by
            have e1 : within lo hi ⟨b.pid, st.opn, b.base⟩ = true := by simp [within, h3, h4]
            rw [hnext.out, habn.out, if_pos ⟨h1, h2⟩]
            show _ = _
            simp only [List.filter_cons, e1, if_true, List.filter_nil]
          have hout : st.out = .tuple #[.int .i64 st.epoch, .int .i64 st.next, .int .i64 st.opn, .bool true] := by rw [KSt.out, if_pos h1]
          rw [hout]
          clear hnext habn hout
          go_upto_region 10 with fail
          apply wp_region_lit
          repeat ((fail_if_success at_builtin); go_step)
          refine wpList_append_sl (n := r.length) (xs := r.flatMap Ab.cells) (m := 1) (news := Ab.cells ⟨b.pid, st.opn, b.base⟩) (by rfl) (.tmp 71) (.tmp 78) (by rfl) elAbort (by rfl) (hns4.keep (Mods.refl.alloc _) (fun _ _ => id)).1 (by rfl) (Rd.blk (cs := Ab.cells ⟨b.pid, st.opn, b.base⟩) (heap_new' _ (by simp)) rfl) (by simp [Value.oneCell', Ab.cells]) (by simp only [maxLen]; omega) (by omega) ?_
          intro v' w5 h5 hg5 ho5 _
          obtain ⟨la', lc', rfl, hns', hm'⟩ := NewSl.app (W := w) (hns4.keep (Mods.refl.alloc _) (fun _ _ => id)) (by simp; omega) h5 hg5 ho5 (hm5.alloc _) (Nat.le_refl _)
          go_wp2
          exact ⟨⟨k + 1, r ++ [⟨b.pid, st.opn, b.base⟩], la', lc', by omega, by go_num, hnext', by simp; omega, by simp, by simpa using hns', hm'⟩, by simp [intOf]; omega⟩
        · have hnext' : Hid (r = (abUpTo l (k + 1)).filter (within lo hi)) := by
            rw [hnext.out, habn.out]
            show r = _
            split
            · rename_i h
              have e1 : within lo hi ⟨b.pid, st.opn, b.base⟩ = false := by
                unfold within
                by_cases h3 : lo ≤ b.base
                · have : ¬ st.opn < hi := fun h4 => hit ⟨h.1, h.2, h3, h4⟩
                  simp [this]
                · simp [h3]
              simp [e1]
            · simp
          have h5 : st.is = false ∨ (st.is = true ∧ ¬ 0 ≤ st.opn) ∨ (st.is = true ∧ 0 ≤ st.opn ∧ ¬ lo ≤ b.base) ∨ (st.is = true ∧ 0 ≤ st.opn ∧ lo ≤ b.base ∧ ¬ st.opn < hi) := by
            cases h1 : st.is
            · exact .inl rfl
            · by_cases h2 : 0 ≤ st.opn
              · by_cases h3 : lo ≤ b.base
                · exact .inr (.inr (.inr ⟨rfl, h2, h3, fun h4 => hit ⟨h1, h2, h3, h4⟩⟩))
                · exact .inr (.inr (.inl ⟨rfl, h2, h3⟩))
              · exact .inr (.inl ⟨rfl, h2⟩)
          clear hit hnext habn
          have hout : st.out = if st.is then .tuple #[.int .i64 st.epoch, .int .i64 st.next, .int .i64 st.opn, .bool true] else .tuple #[.int .i64 0, .int .i64 0, .int .i64 0, .bool false] := rfl
          rw [hout]
          clear hout
          rcases h5 with h1 | ⟨h1, h2⟩ | ⟨h1, h2, h3⟩ | ⟨h1, h2, h3, h4⟩
          all_goals simp only [h1, if_true, if_false, Bool.false_eq_true]
          all_goals go_wp2
          all_goals exact ⟨⟨k + 1, r, ra, rc, by omega, by go_num, hnext', by omega, rfl, hns4, hm5⟩, by simp [intOf]; omega⟩
      · have hnext' : Hid (r = (abUpTo l (k + 1)).filter (within lo hi)) := by
          have e : abNext (l.take k) b = [] := by rw [abNext, if_neg (fun h => hcc ⟨h.1, h.2.1⟩)]
          rw [hnext.out, e]; show r = r ++ []; simp
        have hc3 : b.ctl = false ∨ (b.ctl = true ∧ b.com = true) := by
          cases h1 : b.ctl
          · exact .inl rfl
          · cases h2 : b.com
            · exact absurd ⟨h1, h2⟩ hcc
            · exact .inr ⟨rfl, rfl⟩
        clear hnext hcc
        rcases hc3 with hc | ⟨hc, hco⟩
        all_goals go_wp2
        all_goals exact ⟨⟨k + 1, r, ra, rc, by omega, by go_num, hnext', by omega, rfl, hns.keep (Mods.refl.alloc _) (fun _ _ => id), hm.alloc _⟩, by simp [intOf]; omega⟩
    · obtain rfl : k = l.length := by omega
      have e1 : r = R := by rw [hr.out, hR.out]; exact rfl
      subst e1
      go_wp2
      go_ret
      exact ⟨ra, rc, rfl, hns, hm⟩
end Go.Proofs.Ytnnoicacpcahfaa
