/- Package prod: New; the law's awake: walked. No condition. -/
import Derived.Test.YtnnoicacpcahfaaProdCheck
import Derived.Test.YtnnoicacpcahfaaProdLaw
namespace Go.Proofs.Ytnnoicacpcahfaa
open Go.RowKit

theorem Mods.fresh {w w' : World} (h : Mods (fun j => w.heap.size ≤ j) w w') : Mods Nil w w' :=
  ⟨h.os, h.tape, h.output, h.size, fun k hk _ => h.block k hk (by omega)⟩

set_option maxRecDepth 100000 in
theorem prodNew_walk (w : World) :
    Calls Try.prog 6 #[] w
      fun e w' => ∃ bt d addr F, e = .returned (.pointer (some ⟨bt, 0, none⟩)) ∧ TabRep w' bt ⟨[], fun _ => d, []⟩ addr F ∧ (∀ j, F j → w.heap.size ≤ j) ∧ Mods Nil w w' := by
  have hmm : ∀ (t : TypeId) (w : World), (Instr.makeMap t none).run Try.prog w = .ok (.map (some w.heap.size)) (w.alloc (.map #[] 0)) := fun _ _ => rfl
  go_enter Try.func6, Try.ntmps6
  go_wp2
  go_ret
  have hmap := MapL.made Try.prog 29 w
  have hm2 : Mods Nil (w.alloc (.map #[] 0)) ((w.alloc (.map #[] 0)).alloc (.cells #[.map (some w.heap.size), .slice none 0 0] 70)) := Mods.refl.alloc _
  exact ⟨w.heap.size + 1, ⟨0, 0, [], 0⟩, _, _, rfl, TabRep.new (mb := w.heap.size) (heap_new' _ (by simp)) (hmap.keep hm2 id) (by simp) _, fun j hj => by rcases hj with rfl | rfl <;> simp, (Mods.refl.alloc _).trans hm2 (fun _ _ h => h)⟩

def awB (vb : Nat) (sq : Int) : Bt := ⟨4, 0, 7, 0, sq, false, false, false, some ⟨vb, 0, none⟩, 2, 2⟩
theorem awB_check (vb : Nat) (sq : Int) (h : sq = 0 ∨ sq = 2 ∨ sq = 5) : (awB vb sq).check [[], []] = 0 := by
  rcases h with rfl | rfl | rfl <;> rfl
def awT (d : Prod) (vb : Nat) : Tab := (Tab.mk [] (fun _ => d) []).apply (awB vb 0)
theorem awT_keys (d : Prod) (vb : Nat) : (awT d vb).keys = [7] := rfl
theorem awT_prod (d : Prod) (vb : Nat) : (awT d vb).prod 7 = ⟨0, 2, [⟨0, 2, 4⟩], -1⟩ := rfl

set_option maxRecDepth 100000 in
set_option maxHeartbeats 1600000 in
theorem awake_walk (w : World) :
    Calls Try.prog 7 #[] w
      fun e w' => e = .returned (.bool true) ∧ Mods Nil w w' := by
  go_enter Try.func7, Try.ntmps7
  go_wp2_with fail
  refine (prodNew_walk _).mono ?_
  rintro e w1 ⟨bt, d, addr, F, rfl, hT, hF, hm1⟩
  go_wp2_with fail
  have hno := hT.2.1
  generalize hvb : w1.heap.size = vb at *
  have hvw : w.heap.size ≤ vb := by have := hm1.size; omega
  have hv2 := heap_new w1 (.cells #[.slice none 0 0, .slice none 0 0] 80)
  have hb2 := heap_new (w1.alloc (.cells #[.slice none 0 0, .slice none 0 0] 80)) (.cells #[.int .i64 4, .int .i64 0, .int .u64 7, .int .i64 0, .int .i64 0, .bool false, .bool false, .bool false, .slice (some ⟨vb, 0, none⟩) 2 2] 32)
  rw [hvb] at hv2
  rw [alloc_size, hvb] at hb2
  have hv2' := heap_old (o' := .cells #[.int .i64 4, .int .i64 0, .int .u64 7, .int .i64 0, .int .i64 0, .bool false, .bool false, .bool false, .slice (some ⟨vb, 0, none⟩) 2 2] 32) hv2
  have hm2 : Mods Nil w1 ((w1.alloc (.cells #[.slice none 0 0, .slice none 0 0] 80)).alloc (.cells #[.int .i64 4, .int .i64 0, .int .u64 7, .int .i64 0, .int .i64 0, .bool false, .bool false, .bool false, .slice (some ⟨vb, 0, none⟩) 2 2] 32)) := (Mods.refl.alloc _).alloc _
  generalize hw2 : (w1.alloc (.cells #[.slice none 0 0, .slice none 0 0] 80)).alloc (.cells #[.int .i64 4, .int .i64 0, .int .u64 7, .int .i64 0, .int .i64 0, .bool false, .bool false, .bool false, .slice (some ⟨vb, 0, none⟩) 2 2] 32) = w2 at *
  clear hw2 hv2
  refine (apply_walk _ bt _ addr F (awB vb 0) (hT.keep hm2 (fun _ _ => id)) (by simp) (by simp) (by rfl) rfl).mono ?_
  rintro e w3 ⟨rfl, addr3, F3, hT3, hm3, hF3⟩
  have hb3 := hm3.keep hb2 (fun h => by have := hno _ h; omega)
  have hv3 := hm3.keep hv2' (fun h => by have := hno _ h; omega)
  have hF30 : ∀ j, F3 j → w.heap.size ≤ j := fun j hj => (hF3 j hj).elim (hF j) (fun h => by have := hm1.size; have := hm2.size; omega)
  have hbF : ¬ F3 (vb + 1) := fun h => by
    rcases hF3 _ h with h | h
    · have := hno _ h; omega
    · have := ltOf hb2; omega
  have hmw : Mods (fun j => w.heap.size ≤ j) w w3 := ((hm1.trans hm2 (fun _ _ h => h)).mono (fun _ h => h.elim)).trans hm3 (fun j _ hj => hF j hj)
  have hT4 : TabRep w3 bt (awT d vb) addr3 F3 := hT3
  clear hT hT3 hF hno hb2 hv2' hm1 hm2 hm3 hF3
  have hls : ∀ k ∈ (awT d vb).keys, ((awT d vb).prod k).last.length ≤ 5 := by
    intro k hk
    rw [awT_keys] at hk
    simp at hk
    subst hk
    rw [awT_prod]
    simp
  have hvals : ∀ W, W.heap[vb]? = some (.cells #[.slice none 0 0, .slice none 0 0] 80) → ValsRd W (some ⟨vb, 0, none⟩) 2 2 [[], []] (fun k => k = vb) := by
    intro W hW
    refine ⟨by simp, rfl, [⟨none, 0, 0⟩, ⟨none, 0, 0⟩], rfl, Rd.blk (cs := [.slice none 0 0, .slice none 0 0]) hW rfl, ?_⟩
    intro i v x hv hx
    have h2 : i < 2 := (List.getElem?_eq_some_iff.1 hv).1
    have : v = ⟨none, 0, 0⟩ ∧ x = [] := by
      have h3 : i = 0 ∨ i = 1 := by omega
      rcases h3 with rfl | rfl <;> simp at hv hx <;> exact ⟨hv.symm, hx⟩
    obtain ⟨rfl, rfl⟩ := this
    exact ⟨rfl, ⟨rfl, .inl ⟨rfl, rfl⟩⟩, by simp⟩
  have cb3 := cellOf hb3
  have lb3 := ltOf hb3
  go_wp2_with fail
  refine (tabCheck_walk _ bt (awT d vb) addr3 F3 (awB vb 0) [[], []] _ hT4 hls (by rfl) (hvals _ hv3) (by simp [awB]) (by simp [awB])).mono ?_
  rintro e w4 ⟨rfl, hm4⟩
  rw [awB_check _ _ (.inl rfl)]
  have r1 : Tab.check (awT d vb) (awB vb 0) 0 = (4, true, 0) := rfl
  rw [r1]
  unfold chkOut
  have hb4 := hm4.keep hb3 id
  have hv4 := hm4.keep hv3 id
  have hT4x := hT4.keep hm4 (fun _ _ => id)
  have hmw4 := hmw.trans hm4 (fun _ _ h => h.elim)
  have cb4 := cellOf hb4
  have fb4 := frzOf hb4
  have lb4 := ltOf hb4
  clear cb3 lb3 hb3 hv3 hT4 hm4 hmw r1
  go_wp2_with fail
  have hm50 : Mods (fun j => j = vb + 1) w4 (w4.setCell ⟨vb + 1, 4, none⟩ (.int .i64 2)) := Mods.refl.setCell _ (fun _ => rfl)
  have hb50 := heap_setCell_same hb4 4 (.int .i64 2)
  simp at hb50
  have hv50 := hm50.keep hv4 (by omega)
  have hT50 := hT4x.keep hm50 (fun k hk e => hbF (e ▸ hk))
  have hmw50 := hmw4.trans hm50 (fun j _ e => by omega)
  generalize w4.setCell ⟨vb + 1, 4, none⟩ (.int .i64 2) = w50 at *
  refine (tabCheck_walk _ bt (awT d vb) addr3 F3 (awB vb 2) [[], []] _ hT50 hls (by rfl) (hvals _ hv50) (by simp [awB]) (by simp [awB])).mono ?_
  rintro e w5 ⟨rfl, hm5⟩
  rw [awB_check _ _ (.inr (.inl rfl))]
  have r5 : Tab.check (awT d vb) (awB vb 2) 0 = (0, false, 0) := rfl
  rw [r5]
  unfold chkOut
  have hb5 := hm5.keep hb50 id
  have hv5 := hm5.keep hv50 id
  have hT5x := hT50.keep hm5 (fun _ _ => id)
  have hmw5 := hmw50.trans hm5 (fun _ _ h => h.elim)
  have cb5 := cellOf hb5
  have fb5 := frzOf hb5
  have lb5 := ltOf hb5
  clear cb4 fb4 lb4 hb50 hv50 hT50 hmw50 hm50 r5 hm5 hb4 hv4 hT4x hmw4
  go_wp2_with fail
  have hm60 : Mods (fun j => j = vb + 1) w5 (w5.setCell ⟨vb + 1, 4, none⟩ (.int .i64 5)) := Mods.refl.setCell _ (fun _ => rfl)
  have hb60 := heap_setCell_same hb5 4 (.int .i64 5)
  simp at hb60
  have hv60 := hm60.keep hv5 (by omega)
  have hT60 := hT5x.keep hm60 (fun k hk e => hbF (e ▸ hk))
  have hmw60 := hmw5.trans hm60 (fun j _ e => by omega)
  generalize w5.setCell ⟨vb + 1, 4, none⟩ (.int .i64 5) = w60 at *
  refine (tabCheck_walk _ bt (awT d vb) addr3 F3 (awB vb 5) [[], []] _ hT60 hls (by rfl) (hvals _ hv60) (by simp [awB]) (by simp [awB])).mono ?_
  rintro e w6 ⟨rfl, hm6⟩
  rw [awB_check _ _ (.inr (.inr rfl))]
  have r6 : Tab.check (awT d vb) (awB vb 5) 0 = (0, false, 11) := rfl
  rw [r6]
  unfold chkOut
  have hb6 := hm6.keep hb60 id
  have hv6 := hm6.keep hv60 id
  have hT6x := hT60.keep hm6 (fun _ _ => id)
  have hmw6 := hmw60.trans hm6 (fun _ _ h => h.elim)
  have cb6 := cellOf hb6
  have fb6 := frzOf hb6
  have lb6 := ltOf hb6
  clear cb5 fb5 lb5 hb60 hv60 hT60 hmw60 hm60 r6 hm6 hb5 hv5 hT5x hmw5
  go_wp2
  go_ret
  refine ⟨rfl, ?_⟩
  exact hmw6.fresh
end Go.Proofs.Ytnnoicacpcahfaa
