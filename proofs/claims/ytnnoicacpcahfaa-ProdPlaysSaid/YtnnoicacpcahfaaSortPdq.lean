/- slices.pdqsortOrdered on uint64, walked: a sorted permutation of the part. No condition. -/
import Derived.Test.YtnnoicacpcahfaaSortPeq
namespace Go.Proofs.Ytnnoicacpcahfaa
open Go.RowKit Go.Sort

/-- What pdqsort does, on parts shorter than N. -/
def PdqOk (N : Nat) : Prop := ∀ (w : World) (g off sz cap a b lim n : Nat) (d : Array Int), Arr g off sz d w → d.size = n → a ≤ b → b ≤ n → n < 4611686018427387904 → b - a < N → Below lz a b d → lim < 4611686018427387904 →
  Calls Try.prog 96 #[.slice (some ⟨g, off, none⟩) n cap, .int .i64 a, .int .i64 b, .int .i64 lim] w
    fun e w' => e = .returned (.tuple #[]) ∧ ∃ d', Arr g off sz d' w' ∧ PermIn a b d d' ∧ SortedIn lz a b d' ∧ Mods (fun k => k = g) w w'

set_option maxRecDepth 100000 in
set_option maxHeartbeats 6400000 in
theorem pdq_step (N : Nat) (IH : PdqOk N) : PdqOk (N + 1) := by
  intro w g off sz cap a b lim n d hA hn hab hb hsz hN hB hlim
  have hT0 : Hid (Todo a b d a b d) := Todo.start hab (by rw [hn]; exact hb) hB
  replace hn := Lib.hid hn
  replace IH := Lib.hid IH
  clear hB
  go_enter Try.func96, Try.ntmps96
  go_wp2_with fail
  go_loopw [1, 2, 3, 8, 9] (fun s1 s2 s3 s8 s9 wr => ∃ (p q lm : Nat) (wb wp : Bool) (e : Array Int), s1 = .int .i64 p ∧ s2 = .int .i64 q ∧ s3 = .int .i64 lm ∧ s8 = .bool wb ∧ s9 = .bool wp ∧ p ≤ q ∧ q ≤ n ∧ q - p ≤ b - a ∧ lm ≤ lim ∧ Arr g off sz e wr ∧ Hid (Todo a b d p q e) ∧ Mods (fun k => k = g) w wr) (fun s1 s2 _ _ _ _ => (intOf s2 - intOf s1).toNat)
  case atStart => exact ⟨a, b, lim, true, true, d, rfl, rfl, rfl, rfl, rfl, hab, hb, Nat.le_refl _, Nat.le_refl _, hA, hT0.out, Mods.refl⟩
  case round =>
    clear hT0 hA
    obtain ⟨p, q, lm, wb, wp, e, rfl, rfl, rfl, rfl, rfl, hpq, hqn, hle, hlm, hA, hT, hm⟩ := hrel
    have hse : Hid (e.size = n) := hT.out.2.2.1.trans hn.out
    obtain ⟨l, hl⟩ : ∃ l, l = q - p := ⟨_, rfl⟩
    have e0 : Hid ((q : Int) - (p : Int) = (l : Int)) := by show _ = _; omega
    go_upto_region 3 with fail
    rw [e0.out]
    have hpl : p + l = q := by omega
    replace hpl := Lib.hid hpl
    replace hl := Lib.hid hl
    have hll : l ≤ b - a := by have := hl.out; omega
    by_cases h12 : l ≤ 12
    · have h12z : (l : Int) ≤ 12 := by omega
      have hins := insertion_walk wr g off sz cap p q e hA hpq (by rw [hse.out]; exact hqn) (by rw [hse.out]; exact hsz)
      rw [hse.out] at hins
      go_wp2_with fail
      refine hins.mono ?_
      clear hins
      rintro ev w2 ⟨rfl, f, hAf, h1, h2, hm2⟩
      have hfin := Lib.hid (hT.out.2.2.2.2 f h1 h2)
      clear h1 h2
      go_wp2
      ((try simp only [Exit.inBlock, Exit.then]); refine bodyPost_ret (results_none rfl _ _ _) rfl ?_)
      exact ⟨rfl, f, hAf, hfin.out.1, hfin.out.2, hm.trans hm2 (fun _ _ h => h)⟩
    · have h12z : (12 : Int) < (l : Int) := by omega
      have hl13 : 13 ≤ l := by omega
      have hp8 : p + 8 ≤ q := by have := hpl.out; omega
      have hplt : p < q := by omega
      clear h12
      by_cases hl0 : lm = 0
      · subst hl0
        go_wp2_with fail
        refine (heap_walk wr g off sz cap p q n e hA hse.out hplt hqn hsz).mono ?_
        rintro ev w2 ⟨rfl, hAf, hm2⟩
        have hh := heapSort_holds swo_ltInt e p q hpq (by rw [hse.out]; exact hqn)
        have hfin := Lib.hid (hT.out.2.2.2.2 _ hh.1 hh.2)
        clear hh
        go_wp2
        ((try simp only [Exit.inBlock, Exit.then]); refine bodyPost_ret (results_none rfl _ _ _) rfl ?_)
        exact ⟨rfl, _, hAf, hfin.out.1, hfin.out.2, hm.trans hm2 (fun _ _ h => h)⟩
      · have hl0z : ((lm : Int) == 0) = false := by simp; omega
        have hlp : 1 ≤ lm := by omega
        clear hl0
        go_upto_if 35 with fail
        clear hl0z
        go_cut [3] (fun s3 wc => ∃ (lm1 : Nat) (e1 : Array Int), s3 = .int .i64 lm1 ∧ lm1 ≤ lim ∧ Arr g off sz e1 wc ∧ Hid (PermIn p q e e1) ∧ Mods (fun k => k = g) wr wc)
        case first =>
          cases wb with
          | false =>
            go_wp2_with fail
            refine (break_walk wr g off sz cap p q n e hA hse.out hp8 hqn hsz).mono ?_
            rintro ev w2 ⟨rfl, f, hAf, h1, hm2⟩
            replace h1 := Lib.hid h1
            go_wp2_with fail
            go_meet
            exact ⟨lm - 1, f, by rw [show (lm : Int) - 1 = ((lm - 1 : Nat) : Int) by omega], by omega, hAf, h1.out, hm2⟩
          | true =>
            go_wp2_with fail
            go_meet
            exact ⟨lm, e, rfl, hlm, hA, permIn_refl _ _ _, Mods.refl⟩
        case rest =>
          obtain ⟨lm1, e1, rfl, hlm1, hA1, hp1, hm1⟩ := hcut
          have hT1 : Hid (Todo a b d p q e1) := hT.out.perm hp1.out
          have hse1 : Hid (e1.size = n) := hT1.out.2.2.1.trans hn.out
          have hmw1 := hm.trans hm1 (fun _ _ h => h)
          clear hT hp1 hm hm1 hA hse
          obtain ⟨w1, hw1⟩ : ∃ w1, w1 = wc := ⟨_, rfl⟩
          rw [← hw1] at hA1 hmw1 ⊢
          clear hw1
          go_wp2_with fail
          refine (pivot_walk w1 g off sz cap p q n e1 hA1 hse1.out hp8 hqn hsz).mono ?_
          rintro ev w2 ⟨pv, h, rfl, hpv1, hpv2, hh2, hm2⟩
          have hA2 := hA1.keep hm2 id
          have hmw2 := hmw1.trans hm2 (fun _ _ h => h.elim)
          clear hA1 hmw1 hm2
          go_upto_if 50 with fail
          go_cut [11, 12] (fun s11 s12 wc => ∃ (pv h : Nat) (e2 : Array Int), s11 = .int .i64 pv ∧ s12 = .int .i64 h ∧ p ≤ pv ∧ pv < q ∧ Arr g off sz e2 wc ∧ Hid (Todo a b d p q e2) ∧ Mods (fun k => k = g) w wc)
          case first =>
            by_cases h22 : h = 2
            · subst h22
              go_wp2_with fail
              refine (reverse_walk w2 g off sz cap p q n e1 hA2 hse1.out hplt hqn hsz).mono ?_
              rintro ev w3 ⟨rfl, f, hAf, h1, hm3⟩
              have hTf : Hid (Todo a b d p q f) := hT1.out.perm h1
              clear h1
              go_wp2_with fail
              go_meet
              exact ⟨q - 1 - (pv - p), 1, f, by rw [show (q : Int) - 1 - ((pv : Int) - (p : Int)) = ((q - 1 - (pv - p) : Nat) : Int) by omega], rfl, by omega, by omega, hAf, hTf.out, hmw2.trans hm3 (fun _ _ h => h)⟩
            · have h22z : ((h : Int) == 2) = false := by simp; omega
              clear h22
              go_wp2_with fail
              go_meet
              exact ⟨pv, h, e1, rfl, rfl, hpv1, hpv2, hA2, hT1.out, hmw2⟩
          case rest =>
            clear hT1 hA2 hmw2 hse1 hpv1 hpv2 hh2
            obtain ⟨pv, h, e2, rfl, rfl, hpv1, hpv2, hA2, hT2, hmw2⟩ := hcut
            have hse2 : Hid (e2.size = n) := hT2.out.2.2.1.trans hn.out
            obtain ⟨w3, hw3⟩ : ∃ w3, w3 = wc := ⟨_, rfl⟩
            rw [← hw3] at hA2 hmw2 ⊢
            clear hw3
            go_upto_region 15 with fail
            go_cut [68] (fun s68 wx => ∃ tb : Bool, s68 = .bool tb ∧ wx = w3)
            case first =>
              by_cases h1 : h = 1
              · subst h1
                cases wb <;> cases wp <;> (go_wp2_with fail; go_meet; exact ⟨_, rfl, rfl⟩)
              · have h1z : ((h : Int) == 1) = false := by simp; omega
                clear h1
                cases wb <;> cases wp <;> (go_wp2_with fail; go_meet; exact ⟨_, rfl, rfl⟩)
            case rest =>
              obtain ⟨tb, rfl, hwx⟩ := hcut
              rw [hwx]
              clear hwx
              go_upto_if 68 with fail
              go_cut [] (fun wx => ∃ e3, Arr g off sz e3 wx ∧ Hid (Todo a b d p q e3) ∧ Mods (fun k => k = g) w wx)
              case first =>
                cases tb with
                | false =>
                  go_wp2_with fail
                  go_meet
                  exact ⟨e2, hA2, hT2.out, hmw2⟩
                | true =>
                  have hpi : PermIn p q e2 (partialInsertionSort lz e2 p q).1 ∧ ((partialInsertionSort lz e2 p q).2 = true → SortedIn lz p q (partialInsertionSort lz e2 p q).1) := partialInsertionSort_holds swo_ltInt e2 p q hplt (by rw [hse2.out]; exact hqn) hT2.out.2.2.2.1
                  have hpw := partial_walk w3 g off sz cap p q n e2 hA2 hse2.out hplt hqn hsz
                  generalize partialInsertionSort lz e2 p q = z at hpi hpw
                  obtain ⟨e3, r3⟩ := z
                  dsimp only at hpi hpw
                  go_wp2_with fail
                  refine hpw.mono ?_
                  clear hpw
                  rintro ev w4 ⟨rfl, hA4, hm4⟩
                  have hT4 : Hid (Todo a b d p q e3) := hT2.out.perm hpi.1
                  have hmw4 := hmw2.trans hm4 (fun _ _ h => h)
                  cases r3 with
                  | true =>
                    have hfin := Lib.hid (hT4.out.2.2.2.2 e3 (permIn_refl _ _ _) (hpi.2 rfl))
                    clear hpi
                    go_wp2
                    ((try simp only [Exit.inBlock, Exit.then]); refine bodyPost_ret (results_none rfl _ _ _) rfl ?_)
                    exact ⟨rfl, e3, hA4, hfin.out.1, hfin.out.2, hmw4⟩
                  | false =>
                    clear hpi
                    go_wp2_with fail
                    go_meet
                    exact ⟨e3, hA4, hT4.out, hmw4⟩
              case rest =>
                clear hT2 hA2 hmw2 hse2
                obtain ⟨e3, hA3, hT3, hmw3⟩ := hcut
                have hszf : Hid (e3.size = n) := hT3.out.2.2.1.trans hn.out
                obtain ⟨w4, hw4⟩ : ∃ w4, w4 = wc := ⟨_, rfl⟩
                rw [← hw4] at hA3 hmw3 ⊢
                clear hw4
                go_upto_region 17 with fail
                go_cut [87] (fun s87 wx => ∃ tb : Bool, s87 = .bool tb ∧ Hid (tb = true → 0 < p ∧ e3[pv]! ≤ e3[p - 1]!) ∧ Mods Nil w4 wx)
                case first =>
                  by_cases hp0 : p = 0
                  · subst hp0
                    refine wp_region_plan [(.pure, 0), (.pure, 1), (.pure, 2), (.pure, 3), (.pure, 4), (.pure, 5), (.pure, 6), (.read, 7), (.pure, 8), (.pure, 9), (.pure, 10), (.read, 11), (.ben, 12), (.pure, 13), (.pure, 14)] 15 (fun W => Mods Nil (w4) W) mixed (by kernel_rfl) (by kernel_rfl) (by repeat (first | exact Mods.refl | apply Mods.drew)) ?_
                    repeat first
                       | (refine reg_pure (v := ?_) rfl rfl ?_ ?_; rotate_left 1; (· (intro W; go_simp <;> with_reducible rfl)); simp only [Act.put, List.setIfInBounds_toArray, List.set_cons_zero, List.set_cons_succ])
                       | (refine reg_read (v := ?_) rfl rfl ?_ ?_; rotate_left 1; (· (intro W hW; have hW' := Mods.cells hW; go_simp <;> with_reducible rfl)); simp only [Act.put, List.setIfInBounds_toArray, List.set_cons_zero, List.set_cons_succ])
                       | (refine reg_off (by rfl) (by rfl) ?_; simp only [Act.put, List.setIfInBounds_toArray, List.set_cons_zero, List.set_cons_succ])
                       | (refine reg_pure_on (v := ?_) rfl (by rfl) ?_ ?_; rotate_left 1; (· (intro W; go_simp <;> with_reducible rfl)); simp only [Act.put, List.setIfInBounds_toArray, List.set_cons_zero, List.set_cons_succ])
                       | (refine reg_read_on (v := ?_) rfl (by rfl) ?_ ?_; rotate_left 1; (· (intro W hW; have hW' := Mods.cells hW; go_simp <;> with_reducible rfl)); simp only [Act.put, List.setIfInBounds_toArray, List.set_cons_zero, List.set_cons_succ])
                    refine reg_done (qnp_normal ?_)
                    go_wp2_with fail
                    go_meet
                    exact ⟨false, rfl, (fun h => by cases h), Mods.refl.drew⟩
                  · obtain ⟨r, hr⟩ : ∃ r, r = p - 1 := ⟨_, rfl⟩
                    have hAf := hA3
                    -- the elements e3[r] = x and e3[pv] = y
                    have hin : r < e3.size := by rw [hszf.out]; omega
                    have hjn : pv < e3.size := by rw [hszf.out]; omega
                    have ci := hAf.cell r hin
                    have cj := hAf.cell pv hjn
                    have lg := hAf.lt
                    obtain ⟨x, hx⟩ : ∃ x, x = e3[r]! := ⟨_, rfl⟩
                    obtain ⟨y, hy⟩ : ∃ y, y = e3[pv]! := ⟨_, rfl⟩
                    rw [← hx] at ci
                    rw [← hy] at cj
                    replace hx := Lib.hid hx
                    replace hy := Lib.hid hy
                    have i1 : (0 : Int) ≤ (r : Int) := by omega
                    have i2 : (r : Int) < (n : Int) := by omega
                    have i3 : (0 : Int) ≤ (pv : Int) := by omega
                    have i4 : (pv : Int) < (n : Int) := by omega
                    have hpz : (0 : Int) < (p : Int) := by omega
                    have hpn : 0 < p := by omega
                    clear hp0
                    have hwr : IntKind.i64.wrap ((p : Int) - 1) = (r : Int) := wrapN (by omega) (by omega)
                    obtain ⟨tb, htb⟩ : ∃ tb, tb = decide (x < y) := ⟨_, rfl⟩
                    have hres : Hid ((!tb) = true → 0 < p ∧ e3[pv]! ≤ e3[p - 1]!) := by
                      intro h
                      refine ⟨by omega, ?_⟩
                      rw [htb] at h
                      rw [← hr, ← hx.out, ← hy.out]
                      simp at h
                      omega
                    replace hr := Lib.hid hr
                    replace htb := Lib.hid htb
                    refine wp_region_plan [(.pure, 0), (.pure, 1), (.pure, 2), (.pure, 3), (.pure, 4), (.pure, 5), (.pure, 6), (.read, 7), (.pure, 8), (.pure, 9), (.pure, 10), (.read, 11), (.ben, 12), (.pure, 13), (.pure, 14)] 15 (fun W => Mods Nil (w4) W) mixed (by kernel_rfl) (by kernel_rfl) (by repeat (first | exact Mods.refl | apply Mods.drew)) ?_
                    repeat first
                       | (refine reg_pure (v := ?_) rfl rfl ?_ ?_; rotate_left 1; (· (intro W; go_simp <;> with_reducible rfl)); simp only [Act.put, List.setIfInBounds_toArray, List.set_cons_zero, List.set_cons_succ])
                       | (refine reg_read (v := ?_) rfl rfl ?_ ?_; rotate_left 1; (· (intro W hW; have hW' := Mods.cells hW; go_simp <;> with_reducible rfl)); simp only [Act.put, List.setIfInBounds_toArray, List.set_cons_zero, List.set_cons_succ])
                       | (refine reg_off (by rfl) (by rfl) ?_; simp only [Act.put, List.setIfInBounds_toArray, List.set_cons_zero, List.set_cons_succ])
                       | (refine reg_pure_on (v := ?_) rfl (by rfl) ?_ ?_; rotate_left 1; (· (intro W; go_simp <;> with_reducible rfl)); simp only [Act.put, List.setIfInBounds_toArray, List.set_cons_zero, List.set_cons_succ])
                       | (refine reg_read_on (v := ?_) rfl (by rfl) ?_ ?_; rotate_left 1; (· (intro W hW; have hW' := Mods.cells hW; go_simp <;> with_reducible rfl)); simp only [Act.put, List.setIfInBounds_toArray, List.set_cons_zero, List.set_cons_succ])
                    refine reg_ben_on (by rfl) (by rfl) (fun K hK => ?_)
                    go_simp
                    refine (less_walk _ _ _).mono ?_
                    rintro ev wl ⟨rfl, rfl⟩
                    rw [← htb.out]
                    refine hK _ _ (by repeat (first | exact Mods.refl | apply Mods.drew)) ?_
                    clear hK K
                    try simp only [Act.put, List.setIfInBounds_toArray, List.set_cons_zero, List.set_cons_succ]
                    repeat first
                       | (refine reg_pure (v := ?_) rfl rfl ?_ ?_; rotate_left 1; (· (intro W; go_simp <;> with_reducible rfl)); simp only [Act.put, List.setIfInBounds_toArray, List.set_cons_zero, List.set_cons_succ])
                       | (refine reg_read (v := ?_) rfl rfl ?_ ?_; rotate_left 1; (· (intro W hW; skip; go_simp <;> with_reducible rfl)); simp only [Act.put, List.setIfInBounds_toArray, List.set_cons_zero, List.set_cons_succ])
                       | (refine reg_off (by rfl) (by rfl) ?_; simp only [Act.put, List.setIfInBounds_toArray, List.set_cons_zero, List.set_cons_succ])
                       | (refine reg_pure_on (v := ?_) rfl (by rfl) ?_ ?_; rotate_left 1; (· (intro W; go_simp <;> with_reducible rfl)); simp only [Act.put, List.setIfInBounds_toArray, List.set_cons_zero, List.set_cons_succ])
                       | (refine reg_read_on (v := ?_) rfl (by rfl) ?_ ?_; rotate_left 1; (· (intro W hW; skip; go_simp <;> with_reducible rfl)); simp only [Act.put, List.setIfInBounds_toArray, List.set_cons_zero, List.set_cons_succ])
                    refine reg_done (qnp_normal ?_)
                    go_wp2_with fail
                    go_meet
                    exact ⟨_, rfl, hres.out, Mods.refl.drew⟩
                case rest =>
                  obtain ⟨tb, rfl, htb, hmx⟩ := hcut
                  have hA5 := hA3.keep hmx id
                  have hmw5 := hmw3.trans hmx (fun _ _ h => h.elim)
                  clear hA3 hmw3 hmx
                  obtain ⟨w5, hw5⟩ : ∃ w5, w5 = wc := ⟨_, rfl⟩
                  rw [← hw5] at hA5 hmw5 ⊢
                  clear hw5
                  cases tb with
                  | true =>
                    obtain ⟨hp0, hle9⟩ := htb.out rfl
                    replace hle9 := Lib.hid hle9
                    clear htb
                    go_wp2_with fail
                    refine (partEqual_walk w5 g off sz cap p q pv n e3 hA5 hszf.out hpv1 hpv2 hqn hsz).mono ?_
                    rintro ev w6 ⟨mid, f, rfl, hAf, hE, hm6⟩
                    have hTf : Hid (Todo a b d mid q f) := hT3.out.eq hp0 hle9.out hE
                    have hE1 := hE.h1
                    have hE2 := hE.h2
                    clear hE
                    go_wp2
                    exact ⟨⟨mid, q, lm1, wb, wp, f, rfl, rfl, rfl, rfl, rfl, hE2, hqn, by omega, hlm1, hAf, hTf.out, hmw5.trans hm6 (fun _ _ h => h)⟩, by simp [intOf]; omega⟩
                  | false =>
                    clear htb
                    go_wp2_with fail
                    refine (partition_walk w5 g off sz cap p q pv n e3 hA5 hszf.out hpv1 hpv2 hqn hsz).mono ?_
                    rintro ev w6 ⟨mid, al, f, rfl, hAf, hP, hm6⟩
                    have hP1 := hP.h1
                    have hP2 := hP.h2
                    have hsf : Hid (f.size = n) := hP.perm.1.trans hszf.out
                    have hBs := Lib.hid (hP.below hT3.out.2.1 hT3.out.2.2.2.1)
                    replace hP := Lib.hid hP
                    have hmw6 := hmw5.trans hm6 (fun _ _ h => h)
                    clear hA5 hmw5 hm6
                    by_cases hlr : mid - p < q - mid
                    · have hlrz : decide ((mid : Int) - (p : Int) < (q : Int) - (mid : Int)) = true := by simp; omega
                      go_wp2_with fail
                      clear hlrz
                      refine (IH.out w6 g off sz cap p mid lm1 n f hAf hsf.out hP1 (by omega) hsz (by omega) hBs.out.1 (by omega)).mono ?_
                      rintro ev w7 ⟨rfl, L, hAL, hL, hsL, hm7⟩
                      have hTL : Hid (Todo a b d (mid + 1) q L) := hT3.out.left hP.out hL hsL
                      clear hL hsL
                      go_wp2
                      exact ⟨⟨mid + 1, q, lm1, _, al, L, by go_num, rfl, rfl, rfl, rfl, by omega, hqn, by omega, hlm1, hAL, hTL.out, hmw6.trans hm7 (fun _ _ h => h)⟩, by simp [intOf]; omega⟩
                    · have hlrz : decide ((mid : Int) - (p : Int) < (q : Int) - (mid : Int)) = false := by simp; omega
                      have hIH := IH.out w6 g off sz cap (mid + 1) q lm1 n f hAf hsf.out (by omega) hqn hsz (by omega) hBs.out.2 (by omega)
                      rw [show (((mid + 1 : Nat)) : Int) = (mid : Int) + 1 by omega] at hIH
                      go_wp2_with fail
                      clear hlrz
                      refine hIH.mono ?_
                      clear hIH
                      rintro ev w7 ⟨rfl, L, hAL, hL, hsL, hm7⟩
                      have hTL : Hid (Todo a b d p mid L) := hT3.out.right hP.out hL hsL
                      clear hL hsL
                      go_wp2
                      exact ⟨⟨p, mid, lm1, _, al, L, rfl, rfl, rfl, rfl, rfl, hP1, by omega, by omega, hlm1, hAL, hTL.out, hmw6.trans hm7 (fun _ _ h => h)⟩, by simp [intOf]; omega⟩

theorem pdq_all : ∀ N, PdqOk N
  | 0 => fun w g off sz cap a b lim n d _ _ _ _ _ h => by omega
  | N + 1 => pdq_step N (pdq_all N)
end Go.Proofs.Ytnnoicacpcahfaa
