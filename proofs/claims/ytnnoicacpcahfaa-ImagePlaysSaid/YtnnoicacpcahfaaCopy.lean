/- A batch's values in memory; Copy, walked. No condition. -/
import Derived.Test.YtnnoicacpcahfaaRefApply
namespace Go.Proofs.Ytnnoicacpcahfaa
open Go.RowKit

/-- A slice of bytes, as a value. -/
structure Vl where
  a : Option Addr
  n : Nat
  c : Nat
def Vl.val (v : Vl) : Value := .slice v.a v.n v.c
def u8s (x : List Int) : List Value := x.map (.int .u8)
theorem u8s_len (x : List Int) : (u8s x).length = x.length := by simp [u8s]

/-- The values that a slice of slices of bytes holds; G: the blocks in which they lie. -/
def ValsRd (w : World) (va : Option Addr) (vn vc : Nat) (vals : List (List Int)) (G : Nat → Prop) : Prop :=
  (∀ a, va = some a → G a.block) ∧ vals.length = vn ∧ ∃ vs : List Vl, vs.length = vn ∧ Rd w 1 (.slice va vn vc) vn (vs.map Vl.val) ∧
    ∀ (i : Nat) (v : Vl) (x : List Int), vs[i]? = some v → vals[i]? = some x → v.n = x.length ∧ Rd w 1 (.slice v.a x.length v.c) x.length (u8s x) ∧ ∀ a, v.a = some a → G a.block

theorem rdKeep {w w' : World} {S : Nat → Prop} {size m n c : Nat} {a : Option Addr} {news : List Value} (h : Rd w size (.slice a n c) m news) (hm : Mods S w w') (hn : ∀ x, a = some x → ¬ S x.block) : Rd w' size (.slice a n c) m news :=
  h.keep hm (fun k hk => by obtain ⟨x, hx, rfl⟩ := ownOf hk; exact hn x hx)

theorem ValsRd.keep {w w' : World} {va : Option Addr} {vn vc : Nat} {vals : List (List Int)} {G S : Nat → Prop} (h : ValsRd w va vn vc vals G) (hm : Mods S w w') (hn : ∀ k, G k → ¬ S k) : ValsRd w' va vn vc vals G := by
  obtain ⟨h1, h2, vs, h3, h4, h5⟩ := h
  exact ⟨h1, h2, vs, h3, rdKeep h4 hm (fun a ha => hn _ (h1 a ha)), fun i v x hv hx => ⟨(h5 i v x hv hx).1, rdKeep (h5 i v x hv hx).2.1 hm (fun a ha => hn _ ((h5 i v x hv hx).2.2 a ha)), (h5 i v x hv hx).2.2⟩⟩

theorem elBytes : ElT Try.prog 80 5 1 1 := ⟨Try.underlying80, by kernel_rfl, by decide⟩
theorem elVals : ElT Try.prog 30 80 1 24 := ⟨Try.underlying30, by kernel_rfl, by decide⟩

set_option maxRecDepth 100000 in
set_option maxHeartbeats 1600000 in
theorem copy_walk (w : World) (b : Bt) (vals : List (List Int)) (G : Nat → Prop) (h : ValsRd w b.va b.vn b.vc vals G) (hn : b.vn * 24 ≤ 140737488355328) (hx : ∀ x ∈ vals, x.length ≤ 140737488355328) :
    Calls Try.prog 9 #[.agg #[.int .i64 b.base, .int .i64 b.ep, .int .u64 b.pid, .int .i64 b.pe, .int .i64 b.sq, .bool b.txn, .bool b.ctl, .bool b.com, .slice b.va b.vn b.vc]] w
      fun e w' => ∃ va' vc', e = .returned (.agg #[.int .i64 b.base, .int .i64 b.ep, .int .u64 b.pid, .int .i64 b.pe, .int .i64 b.sq, .bool b.txn, .bool b.ctl, .bool b.com, .slice va' b.vn vc']) ∧ Mods Nil w w' ∧ ValsRd w' va' b.vn vc' vals (fun k => w.heap.size ≤ k ∧ k < w'.heap.size) := by
  obtain ⟨base, ep, pid, pe, sq, txn, ctl, com, va, vn, vc⟩ := b
  dsimp only at *
  go_enter Try.func9, Try.ntmps9
  go_wp2_with fail
  have hm2 : Mods Nil w ((w.alloc (.cells #[.int .i64 base, .int .i64 ep, .int .u64 pid, .int .i64 pe, .int .i64 sq, .bool txn, .bool ctl, .bool com, .slice va vn vc] 32)).alloc (.cells #[.int .i64 0, .int .i64 0, .int .u64 0, .int .i64 0, .int .i64 0, .bool false, .bool false, .bool false, .slice none 0 0] 32)) := (Mods.refl.alloc _).alloc _
  have hp1 := heap_old (o' := .cells #[.int .i64 0, .int .i64 0, .int .u64 0, .int .i64 0, .int .i64 0, .bool false, .bool false, .bool false, .slice none 0 0] 32) (heap_new w (.cells #[.int .i64 base, .int .i64 ep, .int .u64 pid, .int .i64 pe, .int .i64 sq, .bool txn, .bool ctl, .bool com, .slice va vn vc] 32))
  have hp2 := heap_new (w.alloc (.cells #[.int .i64 base, .int .i64 ep, .int .u64 pid, .int .i64 pe, .int .i64 sq, .bool txn, .bool ctl, .bool com, .slice va vn vc] 32)) (.cells #[.int .i64 0, .int .i64 0, .int .u64 0, .int .i64 0, .int .i64 0, .bool false, .bool false, .bool false, .slice none 0 0] 32)
  have hsz2 : ((w.alloc (.cells #[.int .i64 base, .int .i64 ep, .int .u64 pid, .int .i64 pe, .int .i64 sq, .bool txn, .bool ctl, .bool com, .slice va vn vc] 32)).alloc (.cells #[.int .i64 0, .int .i64 0, .int .u64 0, .int .i64 0, .int .i64 0, .bool false, .bool false, .bool false, .slice none 0 0] 32)).heap.size = w.heap.size + 2 := by simp
  rw [alloc_size] at hp2
  have hv2 := h.keep hm2 (fun _ _ => id)
  generalize hw2 : (w.alloc (.cells #[.int .i64 base, .int .i64 ep, .int .u64 pid, .int .i64 pe, .int .i64 sq, .bool txn, .bool ctl, .bool com, .slice va vn vc] 32)).alloc (.cells #[.int .i64 0, .int .i64 0, .int .u64 0, .int .i64 0, .int .i64 0, .bool false, .bool false, .bool false, .slice none 0 0] 32) = w2 at *
  clear hw2 h
  obtain ⟨hva, hvl, vs, hvsl, hrd, hel⟩ := hv2
  generalize hB : w.heap.size = B at *
  go_loopw [3, 4] (fun s3 s4 wr => ∃ (k : Nat) (vs' : List Vl) (ra : Option Addr) (rc : Nat), k ≤ vn ∧ s4 = .int .i64 k ∧ vs'.length = k ∧ s3 = .slice ra k rc ∧ NewSl w2.heap.size wr 80 1 ra k rc (vs'.map Vl.val) ∧ Mods Nil w2 wr ∧
      Hid (∀ (i : Nat) (v : Vl) (x : List Int), vs'[i]? = some v → vals[i]? = some x → v.n = x.length ∧ Rd wr 1 (.slice v.a x.length v.c) x.length (u8s x) ∧ ∀ a, v.a = some a → w2.heap.size ≤ a.block ∧ a.block < wr.heap.size ∧ ∀ y, ra = some y → y.block ≠ a.block)) (fun _ s4 _ => vn - (intOf s4).toNat)
  case atStart => exact ⟨0, [], none, 0, by omega, rfl, rfl, rfl, NewSl.nil, Mods.refl, by intro i v x h; simp at h⟩
  case round =>
    obtain ⟨k, vs', ra, rc, hk, rfl, hvs', rfl, hns, hm, hq⟩ := hrel
    have cp := cellOf (hm.keep hp1 id)
    by_cases hlt : k < vn
    · obtain ⟨g, off, rfl, hg, hcells⟩ := (rdKeep hrd hm (fun _ _ => id)).form (by omega) (by omega)
      obtain ⟨v, hvk⟩ : ∃ v, vs[k]? = some v := ⟨_, List.getElem?_eq_getElem (by omega)⟩
      obtain ⟨x, hxk⟩ : ∃ x, vals[k]? = some x := ⟨_, List.getElem?_eq_getElem (by omega)⟩
      obtain ⟨hvn, hvx, hva1⟩ := hel k v x hvk hxk
      have hxl := hx x (List.mem_of_getElem? hxk)
      have hck : wr.cell? ⟨g, off + k, none⟩ = some (.slice v.a x.length v.c) := by
        rw [hcells k (by omega), List.getElem?_map, hvk]; simp [Vl.val, hvn]
      replace hvk := Lib.hid hvk
      replace hxk := Lib.hid hxk
      clear hcells hva1
      have hvx' := rdKeep hvx hm (fun _ _ => id)
      clear hvx
      go_upto_region 6 with fail
      apply wp_region_lit
      repeat ((fail_if_success at_builtin); go_step)
      refine wpList_append_sl (n := 0) (xs := []) (m := x.length) (news := u8s x) (by rfl) (.tmp 13) (.tmp 18) (by rfl) elBytes (by rfl) (Sl.nil _ _ _) (by rfl) hvx' (by intro u hu; obtain ⟨y, _, rfl⟩ := List.mem_map.1 hu; rfl) (by simp only [maxLen]; omega) (by omega) ?_
      intro v1 w4 h4 hg4 ho4 _
      have hns1 : NewSl wr.heap.size wr 5 1 none 0 0 [] := NewSl.nil
      obtain ⟨a4, c4, rfl, hns4, hm4⟩ := NewSl.app (W := wr) hns1 (Nat.le_refl _) h4 hg4 ho4 Mods.refl (Nat.le_refl _)
      clear h4 hg4 ho4 hns1
      simp only [Nat.zero_add, List.nil_append] at hns4 ⊢
      have hmw4 : Mods Nil w2 w4 := hm.trans hm4 (fun _ _ h => h)
      have cp4 := cellOf (hmw4.keep hp1 id)
      have hns5 := hns.keep hm4 (fun _ _ => id)
      go_upto_region 7 with fail
      apply wp_region_lit
      repeat ((fail_if_success at_builtin); go_step)
      have hns5' := hns5.keep (Mods.refl.alloc (.cells #[.slice a4 x.length c4] 80)) (fun _ _ => id)
      have hszr := hm.size
      have hsz4 := hm4.size
      refine wpList_append_sl (n := k) (xs := vs'.map Vl.val) (m := 1) (news := [Vl.val ⟨a4, x.length, c4⟩]) (by rfl) (.tmp 20) (.tmp 22) (by rfl) elVals (by rfl) hns5'.1 (by rfl) (Rd.blk (cs := [Vl.val ⟨a4, x.length, c4⟩]) (heap_new' _ (by simp)) rfl) (by simp [Value.oneCell', Vl.val]) (by simp only [maxLen]; omega) (by omega) ?_
      intro v6 w6 h6 hg6 ho6 _
      have hm5 : Mods Nil w2 (w4.alloc (.cells #[.slice a4 x.length c4] 80)) := hmw4.alloc _
      have ho6' := ho6
      have hg6' := hg6
      obtain ⟨a6, c6, rfl, hns6, hm6⟩ := NewSl.app (W := w2) hns5' (by simp; omega) h6 hg6 ho6 hm5 (Nat.le_refl _)
      go_wp2
      have hms : Mods (fun j => ∃ y, ra = some y ∧ y.block = j) wr w6 := by
        refine ((hm4.alloc _).mono (fun _ h => h.elim)).grown hg6' (fun j hj _ => ?_)
        obtain ⟨y, hy, rfl⟩ := ownOf hj
        exact ⟨y, hy, rfl⟩
      have hms4 : Mods (fun j => ∃ y, ra = some y ∧ y.block = j) w4 w6 := by
        refine ((Mods.refl.alloc _)).grown hg6' (fun j hj _ => ?_)
        obtain ⟨y, hy, rfl⟩ := ownOf hj
        exact ⟨y, hy, rfl⟩
      have hrar : ∀ y, ra = some y → y.block < wr.heap.size := fun y hy => by subst hy; exact hns.1.lt y.block rfl
      have ha6 : ∀ y, a6 = some y → (∃ z, ra = some z ∧ z.block = y.block) ∨ w4.heap.size < y.block := fun y hy => by
        subst hy
        rcases ho6' with ho | ho
        · exact .inl (ownOf (k := y.block) (by rw [← ho]; rfl))
        · simp [Value.ownBlock] at ho; exact .inr (by omega)
      refine ⟨⟨k + 1, vs' ++ [⟨a4, x.length, c4⟩], a6, c6, by omega, by go_num, by simp [hvs'], rfl, by simpa using hns6, hm6, ?_⟩, by simp [intOf]; omega⟩
      intro i v' x' hv' hx'
      have hsz6 := hms4.size
      by_cases hi : i < k
      · rw [List.getElem?_append_left (by omega)] at hv'
        obtain ⟨q1, q2, q3⟩ := hq.out i v' x' hv' hx'
        refine ⟨q1, rdKeep q2 hms (fun y hy ⟨z, hz, hzy⟩ => (q3 y hy).2.2 z hz hzy), fun y hy => ⟨(q3 y hy).1, by have := (q3 y hy).2.1; omega, fun z hz => ?_⟩⟩
        rcases ha6 z hz with ⟨u, hu, huz⟩ | h
        · rw [← huz]; exact (q3 y hy).2.2 u hu
        · have := (q3 y hy).2.1; omega
      · have hik : i = k := by
          have := (List.getElem?_eq_some_iff.1 hv').1
          simp [hvs'] at this; omega
        subst hik
        rw [List.getElem?_append_right (by omega), hvs'] at hv'
        simp at hv'
        subst hv'
        rw [hxk.out] at hx'
        simp at hx'
        subst hx'
        have hb4 : ∀ y, a4 = some y → wr.heap.size ≤ y.block ∧ y.block < w4.heap.size := fun y hy => ⟨hns4.2 y hy, by subst hy; exact hns4.1.lt y.block rfl⟩
        refine ⟨rfl, rdKeep hns4.1.rd hms4 (fun y hy ⟨z, hz, hzy⟩ => ?_), fun y hy => ⟨by have := hb4 y hy; omega, by have := hb4 y hy; omega, fun z hz => ?_⟩⟩
        · have h1 := hb4 y hy
          have h2 := hrar z hz
          omega
        · have h1 := hb4 y hy
          rcases ha6 z hz with ⟨u, hu, huz⟩ | h
          · have h2 := hrar u hu; omega
          · omega
    · obtain rfl : k = vn := by omega
      have cp2 := cellOf (hm.keep hp2 id)
      have fp := frzOf (hm.keep hp1 id)
      have fp2 := frzOf (hm.keep hp2 id)
      go_wp2
      have q0 : (wr.setCell ⟨B, 8, none⟩ (.slice ra k rc)).heap[B + 1]? = some (.cells #[.int .i64 0, .int .i64 0, .int .u64 0, .int .i64 0, .int .i64 0, .bool false, .bool false, .bool false, .slice none 0 0] 32) := (heap_setCell_ne (by simp) _).trans (hm.keep hp2 id)
      have q9 := heap_setCell_same (heap_setCell_same (heap_setCell_same (heap_setCell_same (heap_setCell_same (heap_setCell_same (heap_setCell_same (heap_setCell_same (heap_setCell_same q0 0 (.int .i64 base)) 1 (.int .i64 ep)) 2 (.int .u64 pid)) 3 (.int .i64 pe)) 4 (.int .i64 sq)) 5 (.bool txn)) 6 (.bool ctl)) 7 (.bool com)) 8 (.slice ra k rc)
      simp at q9
      have hmF : Mods (fun j => j = B ∨ j = B + 1) w2 (((((((((((wr.setCell ⟨B, 8, none⟩ (.slice ra k rc)).setCell ⟨B + 1, 0, none⟩ (.int .i64 base)).setCell ⟨B + 1, 1, none⟩ (.int .i64 ep)).setCell ⟨B + 1, 2, none⟩ (.int .u64 pid)).setCell ⟨B + 1, 3, none⟩ (.int .i64 pe)).setCell ⟨B + 1, 4, none⟩ (.int .i64 sq)).setCell ⟨B + 1, 5, none⟩ (.bool txn)).setCell ⟨B + 1, 6, none⟩ (.bool ctl)).setCell ⟨B + 1, 7, none⟩ (.bool com)).setCell ⟨B + 1, 8, none⟩ (.slice ra k rc))) :=
        ((((((((((hm.mono (fun _ h => h.elim)).setCell _ (fun _ => .inl rfl)).setCell _ (fun _ => .inr rfl)).setCell _ (fun _ => .inr rfl)).setCell _ (fun _ => .inr rfl)).setCell _ (fun _ => .inr rfl)).setCell _ (fun _ => .inr rfl)).setCell _ (fun _ => .inr rfl)).setCell _ (fun _ => .inr rfl)).setCell _ (fun _ => .inr rfl)).setCell _ (fun _ => .inr rfl)
      have hmG : Mods (fun j => j = B ∨ j = B + 1) wr (((((((((((wr.setCell ⟨B, 8, none⟩ (.slice ra k rc)).setCell ⟨B + 1, 0, none⟩ (.int .i64 base)).setCell ⟨B + 1, 1, none⟩ (.int .i64 ep)).setCell ⟨B + 1, 2, none⟩ (.int .u64 pid)).setCell ⟨B + 1, 3, none⟩ (.int .i64 pe)).setCell ⟨B + 1, 4, none⟩ (.int .i64 sq)).setCell ⟨B + 1, 5, none⟩ (.bool txn)).setCell ⟨B + 1, 6, none⟩ (.bool ctl)).setCell ⟨B + 1, 7, none⟩ (.bool com)).setCell ⟨B + 1, 8, none⟩ (.slice ra k rc))) :=
        ((((((((((Mods.refl.setCell _ (fun _ => .inl rfl)).setCell _ (fun _ => .inr rfl)).setCell _ (fun _ => .inr rfl)).setCell _ (fun _ => .inr rfl)).setCell _ (fun _ => .inr rfl)).setCell _ (fun _ => .inr rfl)).setCell _ (fun _ => .inr rfl)).setCell _ (fun _ => .inr rfl)).setCell _ (fun _ => .inr rfl)).setCell _ (fun _ => .inr rfl))
      generalize hw9 : (((((((((((wr.setCell ⟨B, 8, none⟩ (.slice ra k rc)).setCell ⟨B + 1, 0, none⟩ (.int .i64 base)).setCell ⟨B + 1, 1, none⟩ (.int .i64 ep)).setCell ⟨B + 1, 2, none⟩ (.int .u64 pid)).setCell ⟨B + 1, 3, none⟩ (.int .i64 pe)).setCell ⟨B + 1, 4, none⟩ (.int .i64 sq)).setCell ⟨B + 1, 5, none⟩ (.bool txn)).setCell ⟨B + 1, 6, none⟩ (.bool ctl)).setCell ⟨B + 1, 7, none⟩ (.bool com)).setCell ⟨B + 1, 8, none⟩ (.slice ra k rc))) = w9 at *
      have c9 := cellOf q9
      have hsz9 := hmG.size
      have hszr := hm.size
      refine bodyPost_ret (v := .agg #[.int .i64 base, .int .i64 ep, .int .u64 pid, .int .i64 pe, .int .i64 sq, .bool txn, .bool ctl, .bool com, .slice ra k rc]) (by simp [results, Try.results9, go_sem, c9]) rfl ⟨ra, rc, rfl, hm2.trans hmF (fun j hj h => ?_), ?_⟩
      · have h1 := hB; rcases h with h | h <;> omega
      · have hne : ∀ y : Nat, w2.heap.size ≤ y → ¬ (y = B ∨ y = B + 1) := fun y hy h => by rcases h with h | h <;> omega
        refine ⟨fun a ha => ?_, hvl, vs', hvs', rdKeep hns.1.rd hmG (fun y hy => hne _ (hns.2 y hy)), fun i v x hv hx' => ?_⟩
        · have h1 := hns.2 a ha
          have h2 : a.block < wr.heap.size := by subst ha; exact hns.1.lt a.block rfl
          have h3 := hB
          exact ⟨by omega, by omega⟩
        · obtain ⟨q1, q2, q3⟩ := hq.out i v x hv hx'
          refine ⟨q1, rdKeep q2 hmG (fun y hy => hne _ (q3 y hy).1), fun y hy => ?_⟩
          have h1 := (q3 y hy).1
          have h2 := (q3 y hy).2.1
          have h3 := hB
          exact ⟨by omega, by omega⟩
end Go.Proofs.Ytnnoicacpcahfaa
