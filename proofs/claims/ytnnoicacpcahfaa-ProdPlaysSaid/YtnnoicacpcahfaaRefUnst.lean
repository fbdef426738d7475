/- Reference of layer 9: Unstable, walked. No condition. -/
import Derived.Test.YtnnoicacpcahfaaRefPids
import Derived.Test.YtnnoicacpcahfaaProdUnst
namespace Go.Proofs.Ytnnoicacpcahfaa
open Go.RowKit

theorem unst_take (f : Int → Int) (xs : List Int) (k : Nat) (x : Int) (h : xs[k]? = some x) : unst ((xs.take (k + 1)).map f) = ustep (unst ((xs.take k).map f)) (f x) := by
  rw [List.take_add_one, h, Option.toList_some, List.map_append]; exact unst_snoc _ _

set_option maxRecDepth 100000 in
set_option maxHeartbeats 1600000 in
theorem refUnst_walk (w : World) (bt : Nat) (la : Option Addr) (lc : Nat) (l : List Bt) (hz : ∀ b ∈ l, b.pid ≠ 0)
    (hb : w.heap[bt]? = some (.cells #[.slice la l.length lc] 27)) (hsl : Rd w 9 (.slice la l.length lc) l.length (l.flatMap Bt.cells)) (hlen : l.length * 72 ≤ 140737488355328) :
    Calls Try.prog 34 #[.pointer (some ⟨bt, 0, none⟩)] w
      fun e w' => e = .returned (uOut (refUnstable l)) ∧ Mods Nil w w' := by
  obtain ⟨R, hR⟩ : ∃ R, R = refUnstable l := ⟨_, rfl⟩
  rw [← hR]
  have hal := refPids_all l
  have his : ∀ x ∈ refPids l, (known l x).is = true := fun x hx => by
    obtain ⟨b, hb, hp⟩ := (hal.2.1 x).1 hx
    exact ((known_pe x (by rw [← hp]; exact hz b hb) l).1 b hb hp).1
  have hll := hal.2.2
  unfold refUnstable at hR
  clear hal hz
  replace hR := Lib.hid hR
  replace his := Lib.hid his
  go_enter Try.func34, Try.ntmps34
  go_wp2_with fail
  refine (refPids_walk _ bt la lc l hb hsl hlen).mono ?_
  rintro e w1 ⟨ra, rc, rfl, hns, hm1⟩
  have hb1 := hm1.keep hb id
  have hsl1 := rdKeep hsl hm1 (fun _ _ => id)
  have hrd := hns.1.rd
  clear hns hb hsl
  generalize refPids l = xs at *
  go_wp2_with fail
  go_loopw [4, 5, 7] (fun s4 s5 s7 wr => ∃ k : Nat, k ≤ xs.length ∧ s7 = .int .i64 k ∧ Mods Nil w1 wr ∧ s4 = .int .i64 (unst ((xs.take k).map fun x => (known l x).opn)).1 ∧ s5 = .bool (unst ((xs.take k).map fun x => (known l x).opn)).2) (fun _ _ s7 _ => xs.length - (intOf s7).toNat)
  case atStart => exact ⟨0, by omega, rfl, Mods.refl, rfl, rfl⟩
  case round =>
    obtain ⟨k, hk, rfl, hm, rfl, rfl⟩ := hrel
    by_cases hlt : k < xs.length
    · obtain ⟨g, off, rfl, hg, hcells⟩ := (rdKeep hrd hm (fun _ _ => id)).form (by omega) (by omega)
      obtain ⟨x, hx⟩ : ∃ x, xs[k]? = some x := ⟨_, List.getElem?_eq_getElem hlt⟩
      have cx : wr.cell? ⟨g, off + k, none⟩ = some (.int .u64 x) := by
        rw [hcells k (by omega), u64s, List.getElem?_map, hx]; rfl
      have hxi := his.out x (List.mem_of_getElem? hx)
      have hnx : Hid (unst ((xs.take (k + 1)).map fun x => (known l x).opn) = ustep (unst ((xs.take k).map fun x => (known l x).opn)) (known l x).opn) := unst_take _ xs k x hx
      clear hcells hx
      go_wp2_with fail
      refine (refKnown_walk _ bt la lc l x (hm.keep hb1 id) (rdKeep hsl1 hm (fun _ _ => id)) (by omega)).mono ?_
      rintro e w3 ⟨rfl, hm3⟩
      generalize hu : unst ((xs.take k).map fun x => (known l x).opn) = u at *
      generalize known l x = st at *
      clear hu
      obtain ⟨first, any⟩ := u
      obtain ⟨epoch, next, opn, is⟩ := st
      dsimp only at *
      subst hxi
      rw [show (⟨epoch, next, opn, true⟩ : KSt).out = .tuple #[.int .i64 epoch, .int .i64 next, .int .i64 opn, .bool true] from rfl]
      have hm13 := hm.trans hm3 (fun _ _ h => h)
      have fin : ∀ (f : Int) (a : Bool), ustep (first, any) opn = (f, a) → ∃ k' : Nat, k' ≤ xs.length ∧ Value.int .i64 ((k : Int) + 1) = .int .i64 k' ∧ Mods Nil w1 w3 ∧ Value.int .i64 f = .int .i64 (unst ((xs.take k').map fun x => (known l x).opn)).1 ∧ Value.bool a = .bool (unst ((xs.take k').map fun x => (known l x).opn)).2 :=
        fun f a hf => ⟨k + 1, by omega, by go_num, hm13, by rw [hnx.out, hf], by rw [hnx.out, hf]⟩
      replace fin := Lib.hid fin
      clear hnx hm3 hm13 cx
      by_cases h0 : 0 ≤ opn
      · cases any with
        | false =>
          go_wp2
          exact ⟨fin.out _ _ (by simp [ustep, h0]), by simp [intOf]; omega⟩
        | true =>
          by_cases h1 : opn < first
          · go_wp2
            exact ⟨fin.out _ _ (by simp [ustep, h0, h1]), by simp [intOf]; omega⟩
          · have h2 : first ≤ opn := by omega
            have h3 := Lib.hid h1
            clear h1
            go_wp2
            exact ⟨fin.out _ _ (by simp [ustep, h3.out]), by simp [intOf]; omega⟩
      · have h2 : opn < 0 := by omega
        have h3 := Lib.hid h0
        clear h0
        go_wp2
        exact ⟨fin.out _ _ (by simp [ustep, h3.out]), by simp [intOf]; omega⟩
    · obtain rfl : k = xs.length := by omega
      have hfin : R = unst ((xs.take xs.length).map fun x => (known l x).opn) := by rw [List.take_length]; exact hR.out
      clear hR hlt
      subst hfin
      go_wp2
      go_ret2
      exact ⟨rfl, hm1.trans hm (fun _ _ h => h)⟩
end Go.Proofs.Ytnnoicacpcahfaa
