/- Package prod: Check, walked. No condition. -/
import Derived.Test.YtnnoicacpcahfaaProdApply
import Derived.Test.YtnnoicacpcahfaaBatchCheck
namespace Go.Proofs.Ytnnoicacpcahfaa
open Go.RowKit

def seenHit (b : Bt) (s : Seen) : Bool := decide (s.seq = b.sq) && decide (s.size = b.size)
def seenPick (p : Prod) (b : Bt) : Int × Bool × Int :=
  match p.last.find? (seenHit b) with
  | some s => (s.base, true, 0)
  | none => (0, false, if b.sq ≠ p.next then 11 else 0)
def Tab.check (T : Tab) (b : Bt) (e : Int) : Int × Bool × Int :=
  if e ≠ 0 then (0, false, e) else if b.pid = 0 then (0, false, 0) else
  if b.pid ∈ T.keys ∧ b.pe < (T.prod b.pid).epoch then (0, false, 10) else if b.ctl then (0, false, 0) else
  if b.pid ∈ T.keys ∧ b.pe = (T.prod b.pid).epoch then
    seenPick (T.prod b.pid) b
  else (0, false, if b.sq ≠ 0 then 11 else 0)
def chkOut (x : Int × Bool × Int) : Value := .tuple #[.int .i64 x.1, .bool x.2.1, .int .i64 x.2.2]

theorem seenCells {w : World} {g off k n : Nat} {l : List Seen} {b : Seen} (h : ∀ j, j < n * 3 → w.cell? ⟨g, off + j, none⟩ = (l.flatMap Seen.cells)[j]?) (hn : l.length = n) (hb : l[k]? = some b) :
    w.cell? ⟨g, off + k * 3, none⟩ = some (.int .i64 b.seq) ∧ w.cell? ⟨g, off + k * 3 + 1, none⟩ = some (.int .i64 b.size) ∧ w.cell? ⟨g, off + k * 3 + 2, none⟩ = some (.int .i64 b.base) := by
  have hk : k < n := by rw [← hn]; exact (List.getElem?_eq_some_iff.1 hb).1
  have e : ∀ i, i < 3 → w.cell? ⟨g, off + k * 3 + i, none⟩ = (Seen.cells b)[i]? := fun i hi => by
    rw [show off + k * 3 + i = off + (k * 3 + i) by omega, h _ (by omega)]
    exact flat_get Seen.cells (fun _ => rfl) l k i b hb hi
  exact ⟨e 0 (by decide), e 1 (by decide), e 2 (by decide)⟩

theorem find_at {α : Type} : ∀ (l : List α) (p : α → Bool) (k : Nat) (x : α), l[k]? = some x → p x = true → (∀ (i : Nat) (s : α), i < k → l[i]? = some s → p s = false) → l.find? p = some x
  | [], _, _, _, h, _, _ => by simp at h
  | a :: l, p, 0, x, h, hp, _ => by simp at h; subst h; simp [hp]
  | a :: l, p, k + 1, x, h, hp, hn => by
    rw [List.find?_cons, hn 0 a (by omega) rfl]
    exact find_at l p k x (by simpa using h) hp (fun i s hi hs => hn (i + 1) s (by omega) (by simpa using hs))
theorem results_tmp3 {fn : Func} {t u v : Tmp} (h : fn.results = #[.tmp t, .tmp u, .tmp v]) (tmps : Array Value) (P : Program) (w : World) :
    (results fn tmps).run P w = .ok (.tuple #[tmps.getD t undef, tmps.getD u undef, tmps.getD v undef]) w := by
  simp [results, h]

set_option maxRecDepth 100000 in
set_option maxHeartbeats 1600000 in
theorem tabCheck_walk (w : World) (bt : Nat) (T : Tab) (addr : Int → Nat) (F : Nat → Prop) (b : Bt) (vals : List (List Int)) (G : Nat → Prop)
    (h : TabRep w bt T addr F) (hlast : ∀ k ∈ T.keys, (T.prod k).last.length ≤ 5) (hwf : (Lit.int .u64 b.pid).wf = true) (hv : ValsRd w b.va b.vn b.vc vals G) (hn : b.vn ≤ 4611686018427387904) (hp : 0 ≤ b.pid) :
    Calls Try.prog 14 #[.pointer (some ⟨bt, 0, none⟩), .agg #[.int .i64 b.base, .int .i64 b.ep, .int .u64 b.pid, .int .i64 b.pe, .int .i64 b.sq, .bool b.txn, .bool b.ctl, .bool b.com, .slice b.va b.vn b.vc]] w
      fun e w' => e = .returned (chkOut (T.check b (b.check vals))) ∧ Mods Nil w w' := by
  obtain ⟨R, hR⟩ : ∃ R, R = T.check b (b.check vals) := ⟨_, rfl⟩
  rw [← hR]
  obtain ⟨mb, aa, ac, hb⟩ : ∃ mb aa ac, w.heap[bt]? = some (.cells #[.map (some mb), .slice aa T.aborts.length ac] 70) := by
    obtain ⟨_, _, _, _, mb, aa, ac, _, h5, _⟩ := h
    exact ⟨mb, aa, ac, h5⟩
  have lb := ltOf hb
  have hno : ∀ j, F j → j < w.heap.size := h.2.1
  replace hR := Lib.hid hR
  go_enter Try.func14, Try.ntmps14
  go_wp2_with fail
  refine (check_walk _ b vals G (hv.keep (Mods.refl.alloc _) (fun _ _ => id)) hn hp).mono ?_
  rintro e w1 ⟨rfl, hm1'⟩
  generalize b.check vals = er at *
  have hm1 : Mods Nil w w1 := (Mods.refl.alloc _).trans hm1' (fun _ _ h => h)
  have hp1 := hm1'.keep (heap_new w _) id
  have h1 := h.keep hm1 (fun _ _ => id)
  have hb1 := hm1.keep hb id
  have cb := cellOf hb1
  have cp := cellOf hp1
  have fp := frzOf hp1
  have lb1 := ltOf hb1
  have lp1 := ltOf hp1
  have hbne : bt ≠ w.heap.size := by omega
  clear hm1' hv h
  generalize hbp : w.heap.size = bp at *
  by_cases he : er = 0
  · subst he
    obtain ⟨kn, hkn⟩ : ∃ kn : Bool, kn = decide (b.pid ∈ T.keys) := ⟨_, rfl⟩
    obtain ⟨po, hpo⟩ : ∃ po : Option Addr, po = if b.pid ∈ T.keys then some ⟨addr b.pid, 0, none⟩ else none := ⟨_, rfl⟩
    have hlook : ∀ W, Mods Nil w1 W → (Instr.lookup 68 (.map (some mb)) (.int .u64 b.pid) false).run Try.prog W = .ok (.pointer po) W :=
      fun W hW => by rw [hpo]; exact (h1.keep hW (fun _ _ => id)).look (hW.keep hb1 id) hwf
    replace hpo := Lib.hid hpo
    go_upto_region 6 with fail
    refine wp_region_plan [(.pure, 0), (.pure, 1), (.pure, 2), (.read, 3), (.pure, 4), (.read, 5), (.read, 6), (.pure, 7)] 8 (fun W => Mods Nil (w1) W) mixed (by kernel_rfl) (by kernel_rfl) (by repeat (first | exact Mods.refl | apply Mods.drew)) ?_
    repeat first
       | (refine reg_pure (v := ?_) rfl rfl ?_ ?_; rotate_left 1; (· (intro W; go_simp <;> with_reducible rfl)); simp only [Act.put, List.setIfInBounds_toArray, List.set_cons_zero, List.set_cons_succ])
       | (refine reg_read (v := ?_) rfl rfl ?_ ?_; rotate_left 1; (· (intro W hW; have hW' := Mods.cells hW; go_simp <;> with_reducible rfl)); simp only [Act.put, List.setIfInBounds_toArray, List.set_cons_zero, List.set_cons_succ])
       | (refine reg_off (by rfl) (by rfl) ?_; simp only [Act.put, List.setIfInBounds_toArray, List.set_cons_zero, List.set_cons_succ])
       | (refine reg_pure_on (v := ?_) rfl (by rfl) ?_ ?_; rotate_left 1; (· (intro W; go_simp <;> with_reducible rfl)); simp only [Act.put, List.setIfInBounds_toArray, List.set_cons_zero, List.set_cons_succ])
       | (refine reg_read_on (v := ?_) rfl (by rfl) ?_ ?_; rotate_left 1; (· (intro W hW; have hW' := Mods.cells hW; go_simp <;> with_reducible rfl)); simp only [Act.put, List.setIfInBounds_toArray, List.set_cons_zero, List.set_cons_succ])
    refine reg_done (qnp_normal ?_)
    clear hlook
    by_cases h0 : b.pid = 0
    · have e1 : R = (0, false, 0) := by rw [hR.out]; simp [Tab.check, h0]
      subst e1
      go_wp2
      ((try simp only [Exit.inBlock, Exit.then]); refine bodyPost_ret (results_tmp3 rfl _ _ _) rfl ?_)
      exact ⟨rfl, hm1.drew⟩
    · go_upto_region 9 with fail
      cases kn with
      | false =>
        have hk : b.pid ∉ T.keys := by simpa using hkn
        obtain rfl : po = none := by rw [hpo.out, if_neg hk]
        clear hpo hkn
        have e0 : R = if b.ctl then (0, false, 0) else (0, false, if b.sq ≠ 0 then 11 else 0) := by rw [hR.out]; simp [Tab.check, h0, hk]
        clear hR
        replace e0 := Lib.hid e0
        refine wp_region_plan [(.pure, 0), (.pure, 1), (.pure, 2), (.pure, 3), (.read, 4), (.pure, 5), (.pure, 6), (.pure, 7), (.read, 8), (.pure, 9), (.pure, 10), (.pure, 11)] 12 (fun W => Mods Nil (w1) W) mixed (by kernel_rfl) (by kernel_rfl) (by repeat (first | exact Mods.refl | apply Mods.drew)) ?_
        repeat first
           | (refine reg_pure (v := ?_) rfl rfl ?_ ?_; rotate_left 1; (· (intro W; go_simp <;> with_reducible rfl)); simp only [Act.put, List.setIfInBounds_toArray, List.set_cons_zero, List.set_cons_succ])
           | (refine reg_read (v := ?_) rfl rfl ?_ ?_; rotate_left 1; (· (intro W hW; have hW' := Mods.cells hW; go_simp <;> with_reducible rfl)); simp only [Act.put, List.setIfInBounds_toArray, List.set_cons_zero, List.set_cons_succ])
           | (refine reg_off (by rfl) (by rfl) ?_; simp only [Act.put, List.setIfInBounds_toArray, List.set_cons_zero, List.set_cons_succ])
           | (refine reg_pure_on (v := ?_) rfl (by rfl) ?_ ?_; rotate_left 1; (· (intro W; go_simp <;> with_reducible rfl)); simp only [Act.put, List.setIfInBounds_toArray, List.set_cons_zero, List.set_cons_succ])
           | (refine reg_read_on (v := ?_) rfl (by rfl) ?_ ?_; rotate_left 1; (· (intro W hW; have hW' := Mods.cells hW; go_simp <;> with_reducible rfl)); simp only [Act.put, List.setIfInBounds_toArray, List.set_cons_zero, List.set_cons_succ])
        refine reg_done (qnp_normal ?_)
        cases hc : b.ctl with
        | true =>
          have e1 : R = (0, false, 0) := by rw [e0.out, hc]; rfl
          subst e1
          go_wp2
          ((try simp only [Exit.inBlock, Exit.then]); refine bodyPost_ret (results_tmp3 rfl _ _ _) rfl ?_)
          exact ⟨rfl, hm1.drew.drew⟩
        | false =>
          have e2 : R = (0, false, if b.sq ≠ 0 then 11 else 0) := by rw [e0.out, hc]; rfl
          clear e0
          go_upto_region 13 with fail
          refine wp_region_plan [(.pure, 0), (.pure, 1), (.pure, 2), (.pure, 3), (.read, 4), (.pure, 5), (.pure, 6), (.pure, 7), (.read, 8), (.pure, 9), (.pure, 10), (.pure, 11)] 12 (fun W => Mods Nil (w1) W) mixed (by kernel_rfl) (by kernel_rfl) (by repeat (first | exact Mods.refl | apply Mods.drew)) ?_
          repeat first
             | (refine reg_pure (v := ?_) rfl rfl ?_ ?_; rotate_left 1; (· (intro W; go_simp <;> with_reducible rfl)); simp only [Act.put, List.setIfInBounds_toArray, List.set_cons_zero, List.set_cons_succ])
             | (refine reg_read (v := ?_) rfl rfl ?_ ?_; rotate_left 1; (· (intro W hW; have hW' := Mods.cells hW; go_simp <;> with_reducible rfl)); simp only [Act.put, List.setIfInBounds_toArray, List.set_cons_zero, List.set_cons_succ])
             | (refine reg_off (by rfl) (by rfl) ?_; simp only [Act.put, List.setIfInBounds_toArray, List.set_cons_zero, List.set_cons_succ])
             | (refine reg_pure_on (v := ?_) rfl (by rfl) ?_ ?_; rotate_left 1; (· (intro W; go_simp <;> with_reducible rfl)); simp only [Act.put, List.setIfInBounds_toArray, List.set_cons_zero, List.set_cons_succ])
             | (refine reg_read_on (v := ?_) rfl (by rfl) ?_ ?_; rotate_left 1; (· (intro W hW; have hW' := Mods.cells hW; go_simp <;> with_reducible rfl)); simp only [Act.put, List.setIfInBounds_toArray, List.set_cons_zero, List.set_cons_succ])
          refine reg_done (qnp_normal ?_)
          by_cases hs : b.sq = 0
          · have e1 : R = (0, false, 0) := by rw [e2, if_neg (by simp [hs])]
            subst e1
            go_wp2
            ((try simp only [Exit.inBlock, Exit.then]); refine bodyPost_ret (results_tmp3 rfl _ _ _) rfl ?_)
            exact ⟨rfl, hm1.drew.drew.drew⟩
          · have e1 : R = (0, false, 11) := by rw [e2, if_pos hs]
            subst e1
            go_wp2
            ((try simp only [Exit.inBlock, Exit.then]); refine bodyPost_ret (results_tmp3 rfl _ _ _) rfl ?_)
            exact ⟨rfl, hm1.drew.drew.drew⟩
      | true =>
        have hk : b.pid ∈ T.keys := by simpa using hkn
        obtain rfl : po = some ⟨addr b.pid, 0, none⟩ := by rw [hpo.out, if_pos hk]
        clear hpo hkn
        have hl5 := hlast _ hk
        obtain ⟨G1, hP, hG, hclose⟩ := h1.focus hk
        obtain ⟨hG1, hG2, la, lc, hq, hsl, hla⟩ := id hP
        clear hclose hlast hP
        have hapb : addr b.pid ≠ bp := fun e => by have := hno _ (hG _ hG1).1; omega
        have hF0 := (hG _ hG1).1
        have hF1 := hno _ hF0
        have e0 : R = if b.pe < (T.prod b.pid).epoch then (0, false, 10) else if b.ctl then (0, false, 0) else
            if b.pe = (T.prod b.pid).epoch then seenPick (T.prod b.pid) b
            else (0, false, if b.sq ≠ 0 then 11 else 0) := by rw [hR.out]; simp only [Tab.check, h0, hk, if_false, true_and, ne_eq, not_true_eq_false]
        clear hR
        replace e0 := Lib.hid e0
        generalize T.prod b.pid = p at *
        have cq := cellOf hq
        have fq := frzOf hq
        have lq := ltOf hq
        by_cases hpe : b.pe < p.epoch
        · have e1 : R = (0, false, 10) := by rw [e0.out, if_pos hpe]
          subst e1
          refine wp_region_plan [(.pure, 0), (.pure, 1), (.pure, 2), (.pure, 3), (.read, 4), (.pure, 5), (.pure, 6), (.pure, 7), (.read, 8), (.pure, 9), (.pure, 10), (.pure, 11)] 12 (fun W => Mods Nil (w1) W) mixed (by kernel_rfl) (by kernel_rfl) (by repeat (first | exact Mods.refl | apply Mods.drew)) ?_
          repeat first
             | (refine reg_pure (v := ?_) rfl rfl ?_ ?_; rotate_left 1; (· (intro W; go_simp <;> with_reducible rfl)); simp only [Act.put, List.setIfInBounds_toArray, List.set_cons_zero, List.set_cons_succ])
             | (refine reg_read (v := ?_) rfl rfl ?_ ?_; rotate_left 1; (· (intro W hW; have hW' := Mods.cells hW; go_simp <;> with_reducible rfl)); simp only [Act.put, List.setIfInBounds_toArray, List.set_cons_zero, List.set_cons_succ])
             | (refine reg_off (by rfl) (by rfl) ?_; simp only [Act.put, List.setIfInBounds_toArray, List.set_cons_zero, List.set_cons_succ])
             | (refine reg_pure_on (v := ?_) rfl (by rfl) ?_ ?_; rotate_left 1; (· (intro W; go_simp <;> with_reducible rfl)); simp only [Act.put, List.setIfInBounds_toArray, List.set_cons_zero, List.set_cons_succ])
             | (refine reg_read_on (v := ?_) rfl (by rfl) ?_ ?_; rotate_left 1; (· (intro W hW; have hW' := Mods.cells hW; go_simp <;> with_reducible rfl)); simp only [Act.put, List.setIfInBounds_toArray, List.set_cons_zero, List.set_cons_succ])
          refine reg_done (qnp_normal ?_)
          go_wp2
          ((try simp only [Exit.inBlock, Exit.then]); refine bodyPost_ret (results_tmp3 rfl _ _ _) rfl ?_)
          exact ⟨rfl, hm1.drew.drew⟩
        · refine wp_region_plan [(.pure, 0), (.pure, 1), (.pure, 2), (.pure, 3), (.read, 4), (.pure, 5), (.pure, 6), (.pure, 7), (.read, 8), (.pure, 9), (.pure, 10), (.pure, 11)] 12 (fun W => Mods Nil (w1) W) mixed (by kernel_rfl) (by kernel_rfl) (by repeat (first | exact Mods.refl | apply Mods.drew)) ?_
          repeat first
             | (refine reg_pure (v := ?_) rfl rfl ?_ ?_; rotate_left 1; (· (intro W; go_simp <;> with_reducible rfl)); simp only [Act.put, List.setIfInBounds_toArray, List.set_cons_zero, List.set_cons_succ])
             | (refine reg_read (v := ?_) rfl rfl ?_ ?_; rotate_left 1; (· (intro W hW; have hW' := Mods.cells hW; go_simp <;> with_reducible rfl)); simp only [Act.put, List.setIfInBounds_toArray, List.set_cons_zero, List.set_cons_succ])
             | (refine reg_off (by rfl) (by rfl) ?_; simp only [Act.put, List.setIfInBounds_toArray, List.set_cons_zero, List.set_cons_succ])
             | (refine reg_pure_on (v := ?_) rfl (by rfl) ?_ ?_; rotate_left 1; (· (intro W; go_simp <;> with_reducible rfl)); simp only [Act.put, List.setIfInBounds_toArray, List.set_cons_zero, List.set_cons_succ])
             | (refine reg_read_on (v := ?_) rfl (by rfl) ?_ ?_; rotate_left 1; (· (intro W hW; have hW' := Mods.cells hW; go_simp <;> with_reducible rfl)); simp only [Act.put, List.setIfInBounds_toArray, List.set_cons_zero, List.set_cons_succ])
          refine reg_done (qnp_normal ?_)
          cases hc : b.ctl with
          | true =>
            have e1 : R = (0, false, 0) := by rw [e0.out, if_neg hpe, hc]; rfl
            subst e1
            clear cq fq lq hq hsl hla hG1 hG2 hG cb lb1 hb1 hF0 hF1 hpe
            go_wp2
            ((try simp only [Exit.inBlock, Exit.then]); refine bodyPost_ret (results_tmp3 rfl _ _ _) rfl ?_)
            exact ⟨rfl, hm1.drew.drew⟩
          | false =>
            by_cases hgt : p.epoch < b.pe
            · have e2 : R = (0, false, if b.sq ≠ 0 then 11 else 0) := by rw [e0.out, if_neg hpe, hc, if_neg (by decide), if_neg (by omega)]
              clear e0
              go_upto_region 13 with fail
              refine wp_region_plan [(.pure, 0), (.pure, 1), (.pure, 2), (.pure, 3), (.read, 4), (.pure, 5), (.pure, 6), (.pure, 7), (.read, 8), (.pure, 9), (.pure, 10), (.pure, 11)] 12 (fun W => Mods Nil (w1) W) mixed (by kernel_rfl) (by kernel_rfl) (by repeat (first | exact Mods.refl | apply Mods.drew)) ?_
              repeat first
                 | (refine reg_pure (v := ?_) rfl rfl ?_ ?_; rotate_left 1; (· (intro W; go_simp <;> with_reducible rfl)); simp only [Act.put, List.setIfInBounds_toArray, List.set_cons_zero, List.set_cons_succ])
                 | (refine reg_read (v := ?_) rfl rfl ?_ ?_; rotate_left 1; (· (intro W hW; have hW' := Mods.cells hW; go_simp <;> with_reducible rfl)); simp only [Act.put, List.setIfInBounds_toArray, List.set_cons_zero, List.set_cons_succ])
                 | (refine reg_off (by rfl) (by rfl) ?_; simp only [Act.put, List.setIfInBounds_toArray, List.set_cons_zero, List.set_cons_succ])
                 | (refine reg_pure_on (v := ?_) rfl (by rfl) ?_ ?_; rotate_left 1; (· (intro W; go_simp <;> with_reducible rfl)); simp only [Act.put, List.setIfInBounds_toArray, List.set_cons_zero, List.set_cons_succ])
                 | (refine reg_read_on (v := ?_) rfl (by rfl) ?_ ?_; rotate_left 1; (· (intro W hW; have hW' := Mods.cells hW; go_simp <;> with_reducible rfl)); simp only [Act.put, List.setIfInBounds_toArray, List.set_cons_zero, List.set_cons_succ])
              refine reg_done (qnp_normal ?_)
              clear cq fq lq hq hsl hla hG1 hG2 hG cb lb1 hb1 hF0 hF1 hpe hgt
              by_cases hs : b.sq = 0
              · have e1 : R = (0, false, 0) := by rw [e2, if_neg (by simp [hs])]
                subst e1
                go_wp2
                ((try simp only [Exit.inBlock, Exit.then]); refine bodyPost_ret (results_tmp3 rfl _ _ _) rfl ?_)
                exact ⟨rfl, hm1.drew.drew.drew⟩
              · have e1 : R = (0, false, 11) := by rw [e2, if_pos hs]
                subst e1
                go_wp2
                ((try simp only [Exit.inBlock, Exit.then]); refine bodyPost_ret (results_tmp3 rfl _ _ _) rfl ?_)
                exact ⟨rfl, hm1.drew.drew.drew⟩
            · have e2 : R = seenPick p b := by rw [e0.out, if_neg hpe, hc, if_neg (by decide), if_pos (by omega)]
              clear e0
              replace e2 := Lib.hid e2
              obtain ⟨pep, pnext, plast, popn⟩ := p
              dsimp only at *
              obtain rfl : pep = b.pe := by omega
              clear hpe hgt
              have hge : ¬ b.pe < b.pe := by omega
              go_upto_region 13 with fail
              refine wp_region_plan [(.pure, 0), (.pure, 1), (.pure, 2), (.pure, 3), (.read, 4), (.pure, 5), (.pure, 6), (.pure, 7), (.read, 8), (.pure, 9), (.pure, 10), (.pure, 11)] 12 (fun W => Mods Nil (w1) W) mixed (by kernel_rfl) (by kernel_rfl) (by repeat (first | exact Mods.refl | apply Mods.drew)) ?_
              repeat first
                 | (refine reg_pure (v := ?_) rfl rfl ?_ ?_; rotate_left 1; (· (intro W; go_simp <;> with_reducible rfl)); simp only [Act.put, List.setIfInBounds_toArray, List.set_cons_zero, List.set_cons_succ])
                 | (refine reg_read (v := ?_) rfl rfl ?_ ?_; rotate_left 1; (· (intro W hW; have hW' := Mods.cells hW; go_simp <;> with_reducible rfl)); simp only [Act.put, List.setIfInBounds_toArray, List.set_cons_zero, List.set_cons_succ])
                 | (refine reg_off (by rfl) (by rfl) ?_; simp only [Act.put, List.setIfInBounds_toArray, List.set_cons_zero, List.set_cons_succ])
                 | (refine reg_pure_on (v := ?_) rfl (by rfl) ?_ ?_; rotate_left 1; (· (intro W; go_simp <;> with_reducible rfl)); simp only [Act.put, List.setIfInBounds_toArray, List.set_cons_zero, List.set_cons_succ])
                 | (refine reg_read_on (v := ?_) rfl (by rfl) ?_ ?_; rotate_left 1; (· (intro W hW; have hW' := Mods.cells hW; go_simp <;> with_reducible rfl)); simp only [Act.put, List.setIfInBounds_toArray, List.set_cons_zero, List.set_cons_succ])
              refine reg_done (qnp_normal ?_)
              clear hge
              go_wp2_with fail
              have hm3 : Mods Nil w1 w1.drew.drew.drew := Mods.refl.drew.drew.drew
              have hp3 := hm3.keep hp1 id
              have hq3 := hm3.keep hq id
              have hrd := rdKeep hsl.rd hm3 (fun _ _ => id)
              have hmw : Mods Nil w w1.drew.drew.drew := hm1.drew.drew.drew
              have hlb : bt < bp := lb
              clear hsl hp1 hq cp fp cq fq lq cb lb1 lp1 hG1 hG2 hG hF0 hF1 hm1 hm3 h1 hb1 hno hla
              generalize w1.drew.drew.drew = w2 at *
              go_loopw [64] (fun s64 wr => ∃ k : Nat, k ≤ plast.length ∧ s64 = .int .i64 k ∧ Mods Nil w2 wr ∧ Hid (∀ (i : Nat) (s : Seen), i < k → plast[i]? = some s → seenHit b s = false)) (fun s64 _ => plast.length - (intOf s64).toNat)
              case atStart => exact ⟨0, by omega, rfl, Mods.refl, by intro i x h; omega⟩
              case round =>
                obtain ⟨k, hk, rfl, hm, hqq⟩ := hrel
                by_cases hlt : k < plast.length
                · obtain ⟨g, off, rfl, hg, hcells⟩ := (rdKeep hrd hm (fun _ _ => id)).form (by omega) (by omega)
                  obtain ⟨x, hxk⟩ : ∃ x, plast[k]? = some x := ⟨_, List.getElem?_eq_getElem (by omega)⟩
                  obtain ⟨c0, c1, c2⟩ := seenCells hcells rfl hxk
                  replace hxk := Lib.hid hxk
                  clear hcells
                  have i0 : (0 : Int) ≤ (k : Int) := by omega
                  have i1 : (k : Int) < (plast.length : Int) := by omega
                  have hp5 := hm.keep hp3 id
                  have cp5 := cellOf hp5
                  go_upto_region 20 with fail
                  have hx5 := heap_new wr (.cells #[.int .i64 x.seq, .int .i64 x.size, .int .i64 x.base] 79)
                  have hm6 : Mods Nil wr (wr.alloc (.cells #[.int .i64 x.seq, .int .i64 x.size, .int .i64 x.base] 79)) := Mods.refl.alloc _
                  have hp6 := hm6.keep hp5 id
                  have hmw6 := hm.trans hm6 (fun _ _ h => h)
                  generalize hwx : wr.alloc (.cells #[.int .i64 x.seq, .int .i64 x.size, .int .i64 x.base] 79) = wx at *
                  clear hwx cp5 hp5
                  have cx := cellOf hx5
                  have cp6 := cellOf hp6
                  have fp6 := frzOf hp6
                  have lx := ltOf hx5
                  have lp6 := ltOf hp6
                  refine wp_region_plan [(.pure, 0), (.read, 1), (.pure, 2), (.read, 3), (.read, 4), (.ben, 5), (.pure, 6), (.pure, 7)] 8 (fun W => Mods Nil (wx) W) mixed (by kernel_rfl) (by kernel_rfl) (by repeat (first | exact Mods.refl | apply Mods.drew)) ?_
                  repeat first
                     | (refine reg_pure (v := ?_) rfl rfl ?_ ?_; rotate_left 1; (· (intro W; go_simp <;> with_reducible rfl)); simp only [Act.put, List.setIfInBounds_toArray, List.set_cons_zero, List.set_cons_succ])
                     | (refine reg_read (v := ?_) rfl rfl ?_ ?_; rotate_left 1; (· (intro W hW; have hW' := Mods.cells hW; go_simp <;> with_reducible rfl)); simp only [Act.put, List.setIfInBounds_toArray, List.set_cons_zero, List.set_cons_succ])
                     | (refine reg_off (by rfl) (by rfl) ?_; simp only [Act.put, List.setIfInBounds_toArray, List.set_cons_zero, List.set_cons_succ])
                     | (refine reg_pure_on (v := ?_) rfl (by rfl) ?_ ?_; rotate_left 1; (· (intro W; go_simp <;> with_reducible rfl)); simp only [Act.put, List.setIfInBounds_toArray, List.set_cons_zero, List.set_cons_succ])
                     | (refine reg_read_on (v := ?_) rfl (by rfl) ?_ ?_; rotate_left 1; (· (intro W hW; have hW' := Mods.cells hW; go_simp <;> with_reducible rfl)); simp only [Act.put, List.setIfInBounds_toArray, List.set_cons_zero, List.set_cons_succ])
                  refine reg_ben (by rfl) (by rfl) (fun K hK => ?_)
                  go_simp
                  refine (size_any _ _ _ _ _ _ _ _ _ _ _ _).mono ?_
                  rintro e w7 ⟨rfl, hm7⟩
                  have hm7' : Mods Nil wx w7 := Mods.drew_left hm7
                  refine hK _ _ hm7' ?_
                  clear hK K
                  repeat first
                     | (refine reg_pure (v := ?_) rfl rfl ?_ ?_; rotate_left 1; (· (intro W; go_simp <;> with_reducible rfl)); simp only [Act.put, List.setIfInBounds_toArray, List.set_cons_zero, List.set_cons_succ])
                     | (refine reg_read (v := ?_) rfl rfl ?_ ?_; rotate_left 1; (· (intro W hW; have hW' := Mods.cells hW; go_simp <;> with_reducible rfl)); simp only [Act.put, List.setIfInBounds_toArray, List.set_cons_zero, List.set_cons_succ])
                     | (refine reg_off (by rfl) (by rfl) ?_; simp only [Act.put, List.setIfInBounds_toArray, List.set_cons_zero, List.set_cons_succ])
                     | (refine reg_pure_on (v := ?_) rfl (by rfl) ?_ ?_; rotate_left 1; (· (intro W; go_simp <;> with_reducible rfl)); simp only [Act.put, List.setIfInBounds_toArray, List.set_cons_zero, List.set_cons_succ])
                     | (refine reg_read_on (v := ?_) rfl (by rfl) ?_ ?_; rotate_left 1; (· (intro W hW; have hW' := Mods.cells hW; go_simp <;> with_reducible rfl)); simp only [Act.put, List.setIfInBounds_toArray, List.set_cons_zero, List.set_cons_succ])
                  refine reg_pure (v := .bool (seenHit b x)) rfl rfl ?_ ?_
                  · intro W
                    go_simp
                    unfold seenHit Bt.size
                    rw [hc]
                    by_cases g1 : x.seq = b.sq <;> by_cases g2 : x.size = b.vn <;> simp [g1, g2]
                  try simp only [Act.put, List.setIfInBounds_toArray, List.set_cons_zero, List.set_cons_succ]
                  refine reg_done (qnp_normal ?_)
                  cases hh : seenHit b x with
                  | true =>
                    have e1 : R = (x.base, true, 0) := by rw [e2.out, seenPick, find_at plast (seenHit b) k x hxk.out hh hqq.out]
                    subst e1
                    have cx7 := cellOf (hm7'.keep hx5 id)
                    clear cx lx cp6 fp6 lp6 hx5 hp6
                    go_wp2
                    ((try simp only [Exit.inBlock, Exit.then]); refine bodyPost_ret (results_tmp3 rfl _ _ _) rfl ?_)
                    exact ⟨rfl, (hmw.trans hmw6 (fun _ _ h => h)).trans hm7' (fun _ _ h => h)⟩
                  | false =>
                    clear cx lx cp6 fp6 lp6 hx5 hp6
                    go_wp2
                    refine ⟨⟨u4, u5, u6, .pointer (some ⟨wr.heap.size, 0, none⟩), .int .i64 ((k : Int) + 1), ⟨k + 1, by omega, by go_num, hmw6.trans hm7' (fun _ _ h => h), ?_⟩, rfl, rfl, rfl, rfl, rfl⟩, by simp [intOf]; omega⟩
                    show _
                    intro i y hi hy
                    by_cases hik : i < k
                    · exact hqq.out i y hik hy
                    · obtain rfl : i = k := by omega
                      rw [hxk.out] at hy
                      cases hy
                      exact hh
                · obtain rfl : k = plast.length := by omega
                  have e3 : R = (0, false, if b.sq ≠ pnext then 11 else 0) := by
                    rw [e2.out, seenPick, List.find?_eq_none.2]
                    intro y hy
                    obtain ⟨i, hi⟩ := List.getElem?_of_mem hy
                    rw [hqq.out i y (by have := (List.getElem?_eq_some_iff.1 hi).1; omega) hi]
                    decide
                  clear e2 hqq hlt
                  have hq5 := hm.keep hq3 id
                  have cq5 := cellOf hq5
                  have fq5 := frzOf hq5
                  have lq5 := ltOf hq5
                  have hp5 := hm.keep hp3 id
                  have cp5 := cellOf hp5
                  have fp5 := frzOf hp5
                  have lp5 := ltOf hp5
                  clear hrd hq3 hp3
                  go_upto_region 23 with fail
                  refine wp_region_plan [(.pure, 0), (.read, 1), (.pure, 2), (.pure, 3), (.pure, 4), (.read, 5), (.pure, 6)] 7 (fun W => Mods Nil (wr) W) mixed (by kernel_rfl) (by kernel_rfl) (by repeat (first | exact Mods.refl | apply Mods.drew)) ?_
                  repeat first
                     | (refine reg_pure (v := ?_) rfl rfl ?_ ?_; rotate_left 1; (· (intro W; go_simp <;> with_reducible rfl)); simp only [Act.put, List.setIfInBounds_toArray, List.set_cons_zero, List.set_cons_succ])
                     | (refine reg_read (v := ?_) rfl rfl ?_ ?_; rotate_left 1; (· (intro W hW; have hW' := Mods.cells hW; go_simp <;> with_reducible rfl)); simp only [Act.put, List.setIfInBounds_toArray, List.set_cons_zero, List.set_cons_succ])
                     | (refine reg_off (by rfl) (by rfl) ?_; simp only [Act.put, List.setIfInBounds_toArray, List.set_cons_zero, List.set_cons_succ])
                     | (refine reg_pure_on (v := ?_) rfl (by rfl) ?_ ?_; rotate_left 1; (· (intro W; go_simp <;> with_reducible rfl)); simp only [Act.put, List.setIfInBounds_toArray, List.set_cons_zero, List.set_cons_succ])
                     | (refine reg_read_on (v := ?_) rfl (by rfl) ?_ ?_; rotate_left 1; (· (intro W hW; have hW' := Mods.cells hW; go_simp <;> with_reducible rfl)); simp only [Act.put, List.setIfInBounds_toArray, List.set_cons_zero, List.set_cons_succ])
                  refine reg_done (qnp_normal ?_)
                  clear hq5 cq5 fq5 lq5 hp5 cp5 fp5 lp5
                  by_cases hs : b.sq = pnext
                  · have e1 : R = (0, false, 0) := by rw [e3, if_neg (by simp [hs])]
                    subst e1
                    clear e3
                    go_wp2
                    ((try simp only [Exit.inBlock, Exit.then]); refine bodyPost_ret (results_tmp3 rfl _ _ _) rfl ?_)
                    exact ⟨rfl, (hmw.trans hm (fun _ _ h => h)).drew⟩
                  · have e1 : R = (0, false, 11) := by rw [e3, if_pos hs]
                    subst e1
                    clear e3
                    go_wp2
                    ((try simp only [Exit.inBlock, Exit.then]); refine bodyPost_ret (results_tmp3 rfl _ _ _) rfl ?_)
                    exact ⟨rfl, (hmw.trans hm (fun _ _ h => h)).drew⟩
  · have e1 : R = (0, false, er) := by rw [hR.out]; simp [Tab.check, he]
    subst e1
    go_wp2
    ((try simp only [Exit.inBlock, Exit.then]); refine bodyPost_ret (results_tmp3 rfl _ _ _) rfl ?_)
    exact ⟨rfl, hm1⟩
end Go.Proofs.Ytnnoicacpcahfaa
