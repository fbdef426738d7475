/- Package prod: Unstable, walked: whichever order the map is gone over in. No condition. -/
import Derived.Test.YtnnoicacpcahfaaProdPids
import Derived.Test.YtnnoicacpcahfaaMapRange
namespace Go.Proofs.Ytnnoicacpcahfaa
open Go.RowKit

def uOut (x : Int × Bool) : Value := .tuple #[.int .i64 x.1, .bool x.2]
theorem TabRep.map {w : World} {bt : Nat} {T : Tab} {addr : Int → Nat} {F : Nat → Prop} (h : TabRep w bt T addr F) :
    ∃ mb aa ac, w.heap[bt]? = some (.cells #[.map (some mb), .slice aa T.aborts.length ac] 70) ∧ MapL Try.prog 29 w mb (T.keys.map fun k => (.int .u64 k, .pointer (some ⟨addr k, 0, none⟩))) ∧
      ∀ k ∈ T.keys, ∃ la lc, w.heap[addr k]? = some (.cells #[.int .i64 (T.prod k).epoch, .int .i64 (T.prod k).next, .slice la (T.prod k).last.length lc, .int .i64 (T.prod k).opn] 74) := by
  obtain ⟨h1, h2, h3, h4, mb, aa, ac, lab, h5, h6, h7, h8, h9, h10, h11, h12, h13⟩ := h
  refine ⟨mb, aa, ac, h5, h7, fun k hk => ?_⟩
  obtain ⟨_, _, la, lc, h, _⟩ := h13 k hk
  exact ⟨la, lc, h⟩

def keyOpn (T : Tab) (x : Value × Value) : Int :=
  match x.1 with
  | .int _ k => (T.prod k).opn
  | _ => 0

set_option maxRecDepth 100000 in
set_option maxHeartbeats 1600000 in
theorem prodUnst_walk (w : World) (bt : Nat) (T : Tab) (addr : Int → Nat) (F : Nat → Prop) (h : TabRep w bt T addr F) :
    Calls Try.prog 33 #[.pointer (some ⟨bt, 0, none⟩)] w
      fun e w' => e = .returned (uOut T.unstable) ∧ Mods Nil w w' := by
  obtain ⟨mb, aa, ac, hb, hL, hP⟩ := h.map
  obtain ⟨R, hR⟩ : ∃ R, R = T.unstable := ⟨_, rfl⟩
  rw [← hR]
  obtain ⟨L, hLe⟩ : ∃ L, L = (T.keys.map fun k => ((.int .u64 k, .pointer (some ⟨addr k, 0, none⟩)) : Value × Value)) := ⟨_, rfl⟩
  rw [← hLe] at hL
  have hR1 : R = unst (L.map (keyOpn T)) := by
    rw [hR, hLe, Tab.unstable, List.map_map]; rfl
  have hmem : ∀ kx vx, (kx, vx) ∈ L → ∃ k ∈ T.keys, kx = .int .u64 k ∧ vx = .pointer (some ⟨addr k, 0, none⟩) := by
    intro kx vx hx
    rw [hLe] at hx
    obtain ⟨k, hk, he⟩ := List.mem_map.1 hx
    cases he
    exact ⟨k, hk, rfl, rfl⟩
  clear hR hLe h
  replace hR1 := Lib.hid hR1
  have cb := cellOf hb
  have lb := ltOf hb
  go_enter Try.func33, Try.ntmps33
  go_wp2_with (first | (at_range; refine wpList_range_l rfl _ rfl Try.underlying68 rfl hL ?_; intro w1 hr1 hm1 hs1) | go_in)
  go_frame
  clear hL cb lb
  obtain ⟨rb, hrb⟩ : ∃ rb, rb = w.heap.size := ⟨_, rfl⟩
  rw [← hrb] at hr1 ⊢
  clear hs1
  replace hrb := Lib.hid hrb
  go_loopw [4, 5] (fun s4 s5 wr => ∃ done todo, (done ++ todo).Perm L ∧ RangeL wr mb rb L todo ∧ Mods Nil w wr ∧ s4 = .int .i64 (unst (done.map (keyOpn T))).1 ∧ s5 = .bool (unst (done.map (keyOpn T))).2) (fun _ _ wr => wr.rangeLeft mb rb)
  case atStart => exact ⟨[], L, by simp, hr1, hm1, rfl, rfl⟩
  case round =>
    obtain ⟨done, todo, hperm, hrg, hm, rfl, rfl⟩ := hrel
    have hmeas := Lib.hid hrg.left_eq
    replace hperm := Lib.hid hperm
    go_upto_region 5 with fail
    apply wp_region_lit
    refine wpList_next_l rfl _ rfl rfl hrg ?_ ?_
    · rintro rfl
      have hfin : R = unst (done.map (keyOpn T)) := by
        rw [hR1.out]; exact unst_perm ((by simpa using hperm.out.symm : L.Perm done).map _)
      clear hR1 hperm hmeas hrg
      subst hfin
      go_frame
      go_wp2
      go_ret2
      exact ⟨rfl, hm⟩
    · intro kx vx todo' w2 hp hrg2 hm2 hs2 hen
      have hin : (kx, vx) ∈ L := hperm.out.subset (List.mem_append_right _ (hp.symm.subset (List.mem_cons_self ..)))
      obtain ⟨k, hk, rfl, rfl⟩ := hmem kx vx hin
      obtain ⟨la, lc, hq⟩ := hP k hk
      have hm02 : Mods Nil w w2 := hm.trans hm2 (fun j hj e => by have := hrb.out; omega)
      have hq2 := hm02.keep hq id
      have cq := cellOf hq2
      have lq := ltOf hq2
      have hlen : todo'.length < todo.length := by have := hp.length_eq; simp at this; omega
      have hperm2 : Hid (((done ++ [((.int .u64 k, .pointer (some ⟨addr k, 0, none⟩)) : Value × Value)]) ++ todo').Perm L) := by
        refine List.Perm.trans ?_ hperm.out
        rw [List.append_assoc]
        exact (hp.symm).append_left done
      have hmeas2 := Lib.hid hrg2.left_eq
      have hnx : Hid (unst ((done ++ [((.int .u64 k, .pointer (some ⟨addr k, 0, none⟩)) : Value × Value)]).map (keyOpn T)) = ustep (unst (done.map (keyOpn T))) (T.prod k).opn) := by
        rw [List.map_append]; exact unst_snoc _ _
      clear hs2 hq hq2 hp hperm hm hm2 hrg hin
      generalize T.prod k = p at *
      generalize hu : unst (done.map (keyOpn T)) = u at *
      clear hu
      obtain ⟨first, any⟩ := u
      obtain ⟨epoch, next, last, opn⟩ := p
      dsimp only at *
      have fin : ∀ (f : Int) (a : Bool), ustep (first, any) opn = (f, a) → ∃ done' todo'', (done' ++ todo'').Perm L ∧ RangeL w2 mb rb L todo'' ∧ Mods Nil w w2 ∧ Value.int .i64 f = .int .i64 (unst (done'.map (keyOpn T))).1 ∧ Value.bool a = .bool (unst (done'.map (keyOpn T))).2 :=
        fun f a hf => ⟨_, todo', hperm2.out, hrg2, hm02, by rw [hnx.out, hf], by rw [hnx.out, hf]⟩
      have meas : w2.rangeLeft mb rb < wr.rangeLeft mb rb := by rw [hmeas2.out, hmeas.out]; exact hlen
      replace fin := Lib.hid fin
      replace meas := Lib.hid meas
      clear hperm2 hnx hmeas hmeas2 hlen hrg2
      by_cases h0 : 0 ≤ opn
      · cases any with
        | false =>
          go_frame
          go_wp2
          exact ⟨fin.out _ _ (by simp [ustep, h0]), meas.out⟩
        | true =>
          by_cases h1 : opn < first
          · go_frame
            go_wp2
            exact ⟨fin.out _ _ (by simp [ustep, h0, h1]), meas.out⟩
          · have h2 : first ≤ opn := by omega
            have h3 := Lib.hid h1
            clear h1
            go_frame
            go_wp2
            exact ⟨fin.out _ _ (by simp [ustep, h3.out]), meas.out⟩
      · have h2 : opn < 0 := by omega
        have h3 := Lib.hid h0
        clear h0
        go_frame
        go_wp2
        exact ⟨fin.out _ _ (by simp [ustep, h3.out]), meas.out⟩
end Go.Proofs.Ytnnoicacpcahfaa
