/- Reference of layer 9: last, walked. No condition. -/
import Derived.Test.YtnnoicacpcahfaaRefRose
import Derived.Test.YtnnoicacpcahfaaRefAborts
namespace Go.Proofs.Ytnnoicacpcahfaa
open Go.RowKit

/-- Down from place m: the batches of pid, the latest first, at most five, as long as the epoch had been reached. -/
def lastGo (l : List Bt) (pid ep : Int) : Nat → List Bt → List Bt
  | 0, acc => acc
  | i + 1, acc =>
    if 5 ≤ acc.length then acc else
    match l[i]? with
    | none => acc
    | some b => if b.pid ≠ pid then lastGo l pid ep i acc else if b.pe < ep ∧ roseB l i b.pid ep = true then acc else lastGo l pid ep i (if b.ctl then acc else acc ++ [b])
def lastL (l : List Bt) (pid : Int) : List Bt := lastGo l pid (known l pid).epoch l.length []

def KSt.ep0 (s : KSt) : Int := if s.is then s.epoch else 0
theorem KSt.out_ep (s : KSt) : ∃ a b c, s.out = .tuple #[.int .i64 s.ep0, a, b, c] := by
  cases h : s.is
  · exact ⟨.int .i64 0, .int .i64 0, .bool false, by simp [KSt.out, KSt.ep0, h]⟩
  · exact ⟨.int .i64 s.next, .int .i64 s.opn, .bool true, by simp [KSt.out, KSt.ep0, h]⟩

set_option maxRecDepth 100000 in
set_option maxHeartbeats 1600000 in
theorem last_walk (w : World) (bt : Nat) (la : Option Addr) (lc : Nat) (l : List Bt) (pid : Int)
    (hb : w.heap[bt]? = some (.cells #[.slice la l.length lc] 27)) (hsl : Rd w 9 (.slice la l.length lc) l.length (l.flatMap Bt.cells)) (hlen : l.length * 72 ≤ 140737488355328) :
    Calls Try.prog 30 #[.pointer (some ⟨bt, 0, none⟩), .int .u64 pid] w
      fun e w' => ∃ la' lc', e = .returned (.slice la' (lastGo l pid (known l pid).ep0 l.length []).length lc') ∧ NewSl w.heap.size w' 32 9 la' (lastGo l pid (known l pid).ep0 l.length []).length lc' ((lastGo l pid (known l pid).ep0 l.length []).flatMap Bt.cells) ∧ Mods Nil w w' := by
  have lb := ltOf hb
  obtain ⟨a1, a2, a3, hout⟩ := (known l pid).out_ep
  generalize (known l pid).ep0 = ep at *
  obtain ⟨R, hR⟩ : ∃ R, R = lastGo l pid ep l.length [] := ⟨_, rfl⟩
  rw [← hR]
  replace hR := Lib.hid hR
  go_enter Try.func30, Try.ntmps30
  go_wp2_with fail
  refine (refKnown_walk _ bt la lc l pid hb hsl (by omega)).mono ?_
  rintro e w1 ⟨rfl, hm1⟩
  rw [hout]
  have hb1 := hm1.keep hb id
  have cb1 := cellOf hb1
  have lb1 := ltOf hb1
  go_wp2_with fail
  go_loopw [9, 10] (fun s9 s10 wr => ∃ (m : Nat) (acc : List Bt) (ra : Option Addr) (rc : Nat), m ≤ l.length ∧ s10 = .int .i64 ((m : Int) - 1) ∧ Hid (R = lastGo l pid ep m acc) ∧ acc.length ≤ 5 ∧ s9 = .slice ra acc.length rc ∧ NewSl w1.heap.size wr 32 9 ra acc.length rc (acc.flatMap Bt.cells) ∧ Mods Nil w1 wr) (fun _ s10 _ => (intOf s10 + 1).toNat)
  case atStart => exact ⟨l.length, [], none, 0, by omega, rfl, hR.out, by simp, rfl, NewSl.nil, Mods.refl⟩
  case round =>
    clear hR
    obtain ⟨m, acc, ra, rc, hm, rfl, hR, hacc, rfl, hns, hmr⟩ := hrel
    have cbr := cellOf (hmr.keep hb1 id)
    have lbr := ltOf (hmr.keep hb1 id)
    by_cases hstop : m = 0 ∨ acc.length = 5
    · have e1 : R = acc := by
        rw [hR.out]
        rcases hstop with h | h
        · subst h; rfl
        · cases m with
          | zero => rfl
          | succ m => rw [lastGo, if_pos (by omega)]
      subst e1
      rcases hstop with h | h
      · subst h
        clear hR
        go_wp2
        go_ret
        exact ⟨ra, rc, rfl, ⟨hns.1, fun a ha => Nat.le_trans hm1.size (hns.2 a ha)⟩, hm1.trans hmr (fun _ _ h => h)⟩
      · have h5 : (5 : Int) ≤ (R.length : Int) := by omega
        clear hR h
        by_cases h0 : m = 0
        · subst h0
          go_wp2
          go_ret
          exact ⟨ra, rc, rfl, ⟨hns.1, fun a ha => Nat.le_trans hm1.size (hns.2 a ha)⟩, hm1.trans hmr (fun _ _ h => h)⟩
        · have h1 : (1 : Int) ≤ (m : Int) := by omega
          clear h0
          go_wp2
          go_ret
          exact ⟨ra, rc, rfl, ⟨hns.1, fun a ha => Nat.le_trans hm1.size (hns.2 a ha)⟩, hm1.trans hmr (fun _ _ h => h)⟩
    · obtain ⟨m, rfl⟩ : ∃ m', m = m' + 1 := ⟨m - 1, by omega⟩
      obtain ⟨g, off, rfl, hg, hcells⟩ := (rdKeep hsl (hm1.trans hmr (fun _ _ h => h)) (fun _ _ => id)).form (by omega) (by omega)
      obtain ⟨b, hbk⟩ : ∃ b, l[m]? = some b := ⟨_, List.getElem?_eq_getElem (by omega)⟩
      obtain ⟨c0, c1, c2, c3, c4, c5, c6, c7, c8⟩ := btCells hcells rfl hbk
      have hR2 : R = if b.pid ≠ pid then lastGo l pid ep m acc else if b.pe < ep ∧ roseB l m b.pid ep = true then acc else lastGo l pid ep m (if b.ctl then acc else acc ++ [b]) := by
        rw [hR.out, lastGo, if_neg (by omega), hbk]
      replace hbk := Lib.hid hbk
      replace hR2 := Lib.hid hR2
      have h1 : (0 : Int) ≤ (m : Int) := by omega
      have h2 : (m : Int) < (l.length : Int) := by omega
      have h5 : (acc.length : Int) < 5 := by omega
      clear hcells hR hstop
      obtain ⟨base, bep, bpid, pe, sq, txn, ctl, com, va, vn, vc⟩ := b
      dsimp only at *
      have hm4 : Mods Nil wr (wr.alloc (.cells #[.int .i64 base, .int .i64 bep, .int .u64 bpid, .int .i64 pe, .int .i64 sq, .bool txn, .bool ctl, .bool com, .slice va vn vc] 32)) := Mods.refl.alloc _
      by_cases hpid : bpid = pid
      · subst hpid
        have hR2 : R = if pe < ep ∧ roseB l m bpid ep = true then acc else lastGo l bpid ep m (if ctl then acc else acc ++ [⟨base, bep, bpid, pe, sq, txn, ctl, com, va, vn, vc⟩]) := by rw [hR2.out, if_neg (by simp)]
        replace hR2 := Lib.hid hR2
        by_cases hpe : pe < ep
        · go_wp2_with fail
          refine (rose_walk _ bt _ lc l m ⟨base, bep, bpid, pe, sq, txn, ctl, com, va, vn, vc⟩ ep hbk.out ((hmr.trans hm4 (fun _ _ h => h)).keep hb1 id) (rdKeep hsl ((hm1.trans hmr (fun _ _ h => h)).trans hm4 (fun _ _ h => h)) (fun _ _ => id)) hlen).mono ?_
          rintro e w5 ⟨rfl, hm5⟩
          have hm45 := hm4.trans hm5 (fun _ _ h => h)
          have cb5 := cellOf (hm5.keep (heap_new wr _) id)
          have lb5 := ltOf (hm5.keep (heap_new wr _) id)
          cases hro : roseB l m bpid ep with
          | true =>
            have e1 : R = acc := by rw [hR2.out, hro, if_pos ⟨hpe, rfl⟩]
            subst e1
            clear hR2 hpe
            go_wp2
            go_ret
            exact ⟨ra, rc, rfl, ⟨(hns.keep hm45 (fun _ _ => id)).1, fun a ha => Nat.le_trans hm1.size (hns.2 a ha)⟩, (hm1.trans hmr (fun _ _ h => h)).trans hm45 (fun _ _ h => h)⟩
          | false =>
            have hR2 : R = lastGo l bpid ep m (if ctl then acc else acc ++ [⟨base, bep, bpid, pe, sq, txn, ctl, com, va, vn, vc⟩]) := by rw [hR2.out, hro, if_neg (by simp)]
            replace hR2 := Lib.hid hR2
            clear hpe
            cases ctl with
            | true =>
              have e1 : R = lastGo l bpid ep m acc := by rw [hR2.out]; rfl
              replace e1 := Lib.hid e1
              clear hR2
              go_wp2
              exact ⟨⟨m, acc, ra, rc, by omega, by go_num, e1.out, hacc, rfl, hns.keep hm45 (fun _ _ => id), hmr.trans hm45 (fun _ _ h => h)⟩, by simp [intOf] <;> omega⟩
            | false =>
              have e1 : R = lastGo l bpid ep m (acc ++ [⟨base, bep, bpid, pe, sq, txn, false, com, va, vn, vc⟩]) := by rw [hR2.out]; rfl
              replace e1 := Lib.hid e1
              clear hR2
              go_upto_region 10 with fail
              apply wp_region_lit
              repeat ((fail_if_success at_builtin); go_step)
              have hns5 := (hns.keep hm45 (fun _ _ => id)).keep (Mods.refl.alloc (.cells #[.int .i64 base, .int .i64 bep, .int .u64 bpid, .int .i64 pe, .int .i64 sq, .bool txn, .bool false, .bool com, .slice va vn vc] 32)) (fun _ _ => id)
              have hszr := hmr.size
              have hsz4 := hm45.size
              refine wpList_append_sl (n := acc.length) (xs := acc.flatMap Bt.cells) (m := 1) (news := Bt.cells ⟨base, bep, bpid, pe, sq, txn, false, com, va, vn, vc⟩) (by rfl) (.tmp 59) (.tmp 61) (by rfl) elBatch (by rfl) hns5.1 (by rfl) (Rd.blk (cs := Bt.cells ⟨base, bep, bpid, pe, sq, txn, false, com, va, vn, vc⟩) (heap_new' _ (by simp)) rfl) (by simp [Value.oneCell', Bt.cells]) (by simp only [maxLen]; omega) (by omega) ?_
              intro v6 w6 h6 hg6 ho6 _
              obtain ⟨a6, c6, rfl, hns6, hm6⟩ := NewSl.app (W := w1) hns5 (by simp; omega) h6 hg6 ho6 ((hmr.trans hm45 (fun _ _ h => h)).alloc _) (Nat.le_refl _)
              go_wp2
              exact ⟨⟨m, acc ++ [⟨base, bep, bpid, pe, sq, txn, false, com, va, vn, vc⟩], a6, c6, by omega, by go_num, e1, by simp; omega, by simp, by simpa using hns6, hm6⟩, by simp [intOf] <;> omega⟩
        · have hR2 : R = lastGo l bpid ep m (if ctl then acc else acc ++ [⟨base, bep, bpid, pe, sq, txn, ctl, com, va, vn, vc⟩]) := by rw [hR2.out, if_neg (fun h => hpe h.1)]
          replace hR2 := Lib.hid hR2
          cases ctl with
          | true =>
            have e1 : R = lastGo l bpid ep m acc := by rw [hR2.out]; rfl
            replace e1 := Lib.hid e1
            clear hR2
            go_wp2
            exact ⟨⟨m, acc, ra, rc, by omega, by go_num, e1.out, hacc, rfl, hns.keep hm4 (fun _ _ => id), hmr.trans hm4 (fun _ _ h => h)⟩, by simp [intOf] <;> omega⟩
          | false =>
            have e1 : R = lastGo l bpid ep m (acc ++ [⟨base, bep, bpid, pe, sq, txn, false, com, va, vn, vc⟩]) := by rw [hR2.out]; rfl
            replace e1 := Lib.hid e1
            clear hR2
            go_upto_region 10 with fail
            apply wp_region_lit
            repeat ((fail_if_success at_builtin); go_step)
            have hns5 := (hns.keep hm4 (fun _ _ => id)).keep (Mods.refl.alloc (.cells #[.int .i64 base, .int .i64 bep, .int .u64 bpid, .int .i64 pe, .int .i64 sq, .bool txn, .bool false, .bool com, .slice va vn vc] 32)) (fun _ _ => id)
            have hszr := hmr.size
            have hsz4 := hm4.size
            refine wpList_append_sl (n := acc.length) (xs := acc.flatMap Bt.cells) (m := 1) (news := Bt.cells ⟨base, bep, bpid, pe, sq, txn, false, com, va, vn, vc⟩) (by rfl) (.tmp 59) (.tmp 61) (by rfl) elBatch (by rfl) hns5.1 (by rfl) (Rd.blk (cs := Bt.cells ⟨base, bep, bpid, pe, sq, txn, false, com, va, vn, vc⟩) (heap_new' _ (by simp)) rfl) (by simp [Value.oneCell', Bt.cells]) (by simp only [maxLen]; omega) (by omega) ?_
            intro v6 w6 h6 hg6 ho6 _
            obtain ⟨a6, c6, rfl, hns6, hm6⟩ := NewSl.app (W := w1) hns5 (by simp; omega) h6 hg6 ho6 ((hmr.trans hm4 (fun _ _ h => h)).alloc _) (Nat.le_refl _)
            go_wp2
            exact ⟨⟨m, acc ++ [⟨base, bep, bpid, pe, sq, txn, false, com, va, vn, vc⟩], a6, c6, by omega, by go_num, e1, by simp; omega, by simp, by simpa using hns6, hm6⟩, by simp [intOf] <;> omega⟩
      · have hpid' : (bpid != pid) = true := by simp [hpid]
        have e1 : R = lastGo l pid ep m acc := by rw [hR2.out, if_pos hpid]
        replace e1 := Lib.hid e1
        clear hpid hR2
        go_wp2
        exact ⟨⟨m, acc, ra, rc, by omega, by go_num, e1.out, hacc, rfl, hns.keep hm4 (fun _ _ => id), hmr.trans hm4 (fun _ _ h => h)⟩, by simp [intOf] <;> omega⟩
end Go.Proofs.Ytnnoicacpcahfaa
