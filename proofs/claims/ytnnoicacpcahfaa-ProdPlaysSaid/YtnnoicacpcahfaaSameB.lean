/- Two lists of bytes that are one, two batches that are one, are told to be one: the references' Same, walked. No condition. -/
import Derived.Test.YtnnoicacpcahfaaDocCheck
namespace Go.Proofs.Ytnnoicacpcahfaa
open Go.RowKit

set_option maxRecDepth 100000 in
set_option maxHeartbeats 1600000 in
theorem sameBytes_walk (w : World) (la la' : Option Addr) (lc lc' : Nat) (x : List Int) (hlen : x.length ≤ 4611686018427387904)
    (h1 : Rd w 1 (.slice la x.length lc) x.length (u8s x)) (h2 : Rd w 1 (.slice la' x.length lc') x.length (u8s x)) :
    Calls Try.prog 31 #[.slice la x.length lc, .slice la' x.length lc'] w
      fun e w' => e = .returned (.bool true) ∧ Mods Nil w w' := by
  go_enter Try.func31, Try.ntmps31
  go_wp2_with fail
  go_loopw [5] (fun s5 wr => ∃ k : Nat, k ≤ x.length ∧ s5 = .int .i64 k ∧ Mods Nil w wr) (fun s5 _ => x.length - (intOf s5).toNat)
  case atStart => exact ⟨0, by omega, rfl, Mods.refl⟩
  case round =>
    obtain ⟨k, hk, rfl, hm⟩ := hrel
    by_cases hlt : k < x.length
    · obtain ⟨g, off, rfl, hg, hcells⟩ := (rdKeep h1 hm (fun _ _ => id)).form (by omega) (by omega)
      obtain ⟨g', off', rfl, hg', hcells'⟩ := (rdKeep h2 hm (fun _ _ => id)).form (by omega) (by omega)
      have c0 : wr.cell? ⟨g, off + k, none⟩ = some (.int .u8 x[k]) := by
        rw [hcells k (by omega), u8s, List.getElem?_map, List.getElem?_eq_getElem hlt]; rfl
      have c1 : wr.cell? ⟨g', off' + k, none⟩ = some (.int .u8 x[k]) := by
        rw [hcells' k (by omega), u8s, List.getElem?_map, List.getElem?_eq_getElem hlt]; rfl
      generalize x[k] = y at *
      clear hcells hcells'
      have i0 : (0 : Int) ≤ (k : Int) := by omega
      have i1 : (k : Int) < (x.length : Int) := by omega
      go_upto_region 6 with fail
      refine wp_region_plan [(.pure, 0), (.pure, 1), (.pure, 2), (.read, 3), (.pure, 4), (.pure, 5), (.pure, 6), (.read, 7), (.pure, 8)] 9 (fun W => Mods Nil _ W) mixed (by kernel_rfl) (by kernel_rfl) Mods.refl.drew ?_
      repeat first
         | (refine reg_pure (v := ?_) rfl rfl ?_ ?_; rotate_left 1; (· (intro W; go_simp <;> with_reducible rfl)); simp only [Act.put, List.setIfInBounds_toArray, List.set_cons_zero, List.set_cons_succ])
         | (refine reg_read (v := ?_) rfl rfl ?_ ?_; rotate_left 1; (· (intro W hW; have hW' := Mods.cells hW; go_simp <;> with_reducible rfl)); simp only [Act.put, List.setIfInBounds_toArray, List.set_cons_zero, List.set_cons_succ])
         | (refine reg_off (by rfl) (by rfl) ?_; simp only [Act.put, List.setIfInBounds_toArray, List.set_cons_zero, List.set_cons_succ])
         | (refine reg_pure_on (v := ?_) rfl (by rfl) ?_ ?_; rotate_left 1; (· (intro W; go_simp <;> with_reducible rfl)); simp only [Act.put, List.setIfInBounds_toArray, List.set_cons_zero, List.set_cons_succ])
         | (refine reg_read_on (v := ?_) rfl (by rfl) ?_ ?_; rotate_left 1; (· (intro W hW; have hW' := Mods.cells hW; go_simp <;> with_reducible rfl)); simp only [Act.put, List.setIfInBounds_toArray, List.set_cons_zero, List.set_cons_succ])
      refine reg_done (qnp_normal ?_)
      go_wp2
      exact ⟨⟨k + 1, by omega, by go_num, hm.drew⟩, by simp [intOf]; omega⟩
    · obtain rfl : k = x.length := by omega
      go_wp2
      go_ret
      exact ⟨rfl, hm⟩

set_option maxRecDepth 100000 in
set_option maxHeartbeats 3200000 in
theorem sameBatch_walk (w : World) (b : Bt) (va' : Option Addr) (vc' : Nat) (vals : List (List Int)) (G G' : Nat → Prop) (h : ValsRd w b.va b.vn b.vc vals G) (h' : ValsRd w va' b.vn vc' vals G') (hn : b.vn ≤ 4611686018427387904) (hx : ∀ x ∈ vals, x.length ≤ 140737488355328) :
    Calls Try.prog 16 #[.agg #[.int .i64 b.base, .int .i64 b.ep, .int .u64 b.pid, .int .i64 b.pe, .int .i64 b.sq, .bool b.txn, .bool b.ctl, .bool b.com, .slice va' b.vn vc'], .agg #[.int .i64 b.base, .int .i64 b.ep, .int .u64 b.pid, .int .i64 b.pe, .int .i64 b.sq, .bool b.txn, .bool b.ctl, .bool b.com, .slice b.va b.vn b.vc]] w
      fun e w' => e = .returned (.bool true) ∧ Mods Nil w w' := by
  obtain ⟨base, ep, pid, pe, sq, txn, ctl, com, va, vn, vc⟩ := b
  dsimp only at *
  go_enter Try.func16, Try.ntmps16
  go_wp2_with fail
  have hp1 := heap_old (o' := (.cells #[.int .i64 base, .int .i64 ep, .int .u64 pid, .int .i64 pe, .int .i64 sq, .bool txn, .bool ctl, .bool com, .slice va vn vc] 32)) (heap_new w (.cells #[.int .i64 base, .int .i64 ep, .int .u64 pid, .int .i64 pe, .int .i64 sq, .bool txn, .bool ctl, .bool com, .slice va' vn vc'] 32))
  have hp2 := heap_new (w.alloc (.cells #[.int .i64 base, .int .i64 ep, .int .u64 pid, .int .i64 pe, .int .i64 sq, .bool txn, .bool ctl, .bool com, .slice va' vn vc'] 32)) (.cells #[.int .i64 base, .int .i64 ep, .int .u64 pid, .int .i64 pe, .int .i64 sq, .bool txn, .bool ctl, .bool com, .slice va vn vc] 32)
  rw [alloc_size] at hp2
  have hm2 : Mods Nil w ((w.alloc (.cells #[.int .i64 base, .int .i64 ep, .int .u64 pid, .int .i64 pe, .int .i64 sq, .bool txn, .bool ctl, .bool com, .slice va' vn vc'] 32)).alloc (.cells #[.int .i64 base, .int .i64 ep, .int .u64 pid, .int .i64 pe, .int .i64 sq, .bool txn, .bool ctl, .bool com, .slice va vn vc] 32)) := (Mods.refl.alloc _).alloc _
  have hv2 := h.keep hm2 (fun _ _ => id)
  have hv2' := h'.keep hm2 (fun _ _ => id)
  generalize (w.alloc (.cells #[.int .i64 base, .int .i64 ep, .int .u64 pid, .int .i64 pe, .int .i64 sq, .bool txn, .bool ctl, .bool com, .slice va' vn vc'] 32)).alloc (.cells #[.int .i64 base, .int .i64 ep, .int .u64 pid, .int .i64 pe, .int .i64 sq, .bool txn, .bool ctl, .bool com, .slice va vn vc] 32) = w2 at *
  obtain ⟨_, hvl, vs, hvsl, hrd, hel⟩ := hv2
  obtain ⟨_, _, vs', hvsl', hrd', hel'⟩ := hv2'
  generalize w.heap.size = B at *
  clear h h'
  go_loopw [5] (fun s5 wr => ∃ k : Nat, k ≤ vn ∧ s5 = .int .i64 k ∧ Mods Nil w2 wr) (fun s5 _ => vn - (intOf s5).toNat)
  case atStart => exact ⟨0, by omega, rfl, Mods.refl⟩
  case round =>
    obtain ⟨k, hk, rfl, hm⟩ := hrel
    have hp1k := hm.keep hp1 id
    have hp2k := hm.keep hp2 id
    have cp1 := cellOf hp1k
    have cp2 := cellOf hp2k
    have lp1 := ltOf hp1k
    have lp2 := ltOf hp2k
    by_cases hlt : k < vn
    · obtain ⟨g, off, rfl, hg, hcells⟩ := (rdKeep hrd hm (fun _ _ => id)).form (by omega) (by omega)
      obtain ⟨g', off', rfl, hg', hcells'⟩ := (rdKeep hrd' hm (fun _ _ => id)).form (by omega) (by omega)
      obtain ⟨v, hvk⟩ : ∃ v, vs[k]? = some v := ⟨_, List.getElem?_eq_getElem (by omega)⟩
      obtain ⟨v', hvk'⟩ : ∃ v', vs'[k]? = some v' := ⟨_, List.getElem?_eq_getElem (by omega)⟩
      obtain ⟨x, hxk⟩ : ∃ x, vals[k]? = some x := ⟨_, List.getElem?_eq_getElem (by omega)⟩
      obtain ⟨hvn, hvx, _⟩ := hel k v x hvk hxk
      obtain ⟨hvn', hvx', _⟩ := hel' k v' x hvk' hxk
      have hck : wr.cell? ⟨g, off + k, none⟩ = some (.slice v.a x.length v.c) := by
        rw [hcells k (by omega), List.getElem?_map, hvk]; simp [Vl.val, hvn]
      have hck' : wr.cell? ⟨g', off' + k, none⟩ = some (.slice v'.a x.length v'.c) := by
        rw [hcells' k (by omega), List.getElem?_map, hvk']; simp [Vl.val, hvn']
      have hxl := hx x (List.mem_of_getElem? hxk)
      clear hcells hcells' hvk hvk' hxk hel hel' hrd hrd' hx
      have i0 : (0 : Int) ≤ (k : Int) := by omega
      have i1 : (k : Int) < (vn : Int) := by omega
      go_upto_region 6 with fail
      refine wp_region_plan [(.pure, 0), (.read, 1), (.pure, 2), (.pure, 3), (.read, 4), (.pure, 5), (.read, 6), (.pure, 7), (.pure, 8), (.read, 9), (.ben, 10), (.pure, 11)] 12 (fun W => Mods Nil (wr) W) mixed (by kernel_rfl) (by kernel_rfl) (by repeat (first | exact Mods.refl | apply Mods.drew)) ?_
      repeat first
         | (refine reg_pure (v := ?_) rfl rfl ?_ ?_; rotate_left 1; (· (intro W; go_simp <;> with_reducible rfl)); simp only [Act.put, List.setIfInBounds_toArray, List.set_cons_zero, List.set_cons_succ])
         | (refine reg_read (v := ?_) rfl rfl ?_ ?_; rotate_left 1; (· (intro W hW; have hW' := Mods.cells hW; go_simp <;> with_reducible rfl)); simp only [Act.put, List.setIfInBounds_toArray, List.set_cons_zero, List.set_cons_succ])
         | (refine reg_off (by rfl) (by rfl) ?_; simp only [Act.put, List.setIfInBounds_toArray, List.set_cons_zero, List.set_cons_succ])
         | (refine reg_pure_on (v := ?_) rfl (by rfl) ?_ ?_; rotate_left 1; (· (intro W; go_simp <;> with_reducible rfl)); simp only [Act.put, List.setIfInBounds_toArray, List.set_cons_zero, List.set_cons_succ])
         | (refine reg_read_on (v := ?_) rfl (by rfl) ?_ ?_; rotate_left 1; (· (intro W hW; have hW' := Mods.cells hW; go_simp <;> with_reducible rfl)); simp only [Act.put, List.setIfInBounds_toArray, List.set_cons_zero, List.set_cons_succ])
      refine reg_ben (by rfl) (by rfl) (fun K hK => ?_)
      go_simp
      refine (sameBytes_walk _ v'.a v.a v'.c v.c x (by omega) (rdKeep hvx' (hm.trans (by repeat (first | exact Mods.refl | apply Mods.drew)) (fun _ _ h => h)) (fun _ _ => id)) (rdKeep hvx (hm.trans (by repeat (first | exact Mods.refl | apply Mods.drew)) (fun _ _ h => h)) (fun _ _ => id))).mono ?_
      rintro e w7 ⟨rfl, hm7⟩
      have hm7' : Mods Nil wr w7 := Mods.drew_left hm7
      refine hK _ _ hm7' ?_
      clear hK K
      repeat first
         | (refine reg_pure (v := ?_) rfl rfl ?_ ?_; rotate_left 1; (· (intro W; go_simp <;> with_reducible rfl)); simp only [Act.put, List.setIfInBounds_toArray, List.set_cons_zero, List.set_cons_succ])
         | (refine reg_read (v := ?_) rfl rfl ?_ ?_; rotate_left 1; (· (intro W hW; have hW' := Mods.cells hW; go_simp <;> with_reducible rfl)); simp only [Act.put, List.setIfInBounds_toArray, List.set_cons_zero, List.set_cons_succ])
         | (refine reg_off (by rfl) (by rfl) ?_; simp only [Act.put, List.setIfInBounds_toArray, List.set_cons_zero, List.set_cons_succ])
         | (refine reg_pure_on (v := ?_) rfl (by rfl) ?_ ?_; rotate_left 1; (· (intro W; go_simp <;> with_reducible rfl)); simp only [Act.put, List.setIfInBounds_toArray, List.set_cons_zero, List.set_cons_succ])
         | (refine reg_read_on (v := ?_) rfl (by rfl) ?_ ?_; rotate_left 1; (· (intro W hW; have hW' := Mods.cells hW; go_simp <;> with_reducible rfl)); simp only [Act.put, List.setIfInBounds_toArray, List.set_cons_zero, List.set_cons_succ])
      refine reg_done (qnp_normal ?_)
      clear hp1k hp2k cp1 cp2 lp1 lp2 hck hck'
      go_wp2
      exact ⟨⟨k + 1, by omega, by go_num, hm.trans hm7' (fun _ _ h => h)⟩, by simp [intOf]; omega⟩
    · obtain rfl : k = vn := by omega
      clear hlt
      go_wp2
      go_ret
      exact ⟨rfl, hm2.trans hm (fun _ _ h => h)⟩
end Go.Proofs.Ytnnoicacpcahfaa
