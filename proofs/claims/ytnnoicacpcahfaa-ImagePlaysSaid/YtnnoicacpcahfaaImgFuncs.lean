/- without, ContainsFunc, DeleteFunc, Sort on lists of int, walked or met by the shelf's contracts. No condition. -/
import Derived.Shelf.SlicesE.DeleteFunc
import Derived.Test.YtnnoicacpcahfaaImgSettle
namespace Go.Proofs.Ytnnoicacpcahfaa
open Go.RowKit Go.Shelf Go.Sort

def renH : Go.Shelf.Ren := ⟨fun | 6 => 92 | 8 => 68 | 10 => 90 | n => n, fun | 22 => 59 | 23 => 3 | 25 => 141 | n => n, fun | n => n⟩
theorem layD : Go.Proofs.SlLaysH.n10 Try.prog renH := {
  mixed := by kernel_rfl
  f6 := ⟨Try.f92.name, by decide, Try.func92.trans (congrArg some (by kernel_rfl))⟩
  f10 := ⟨Try.f90.name, by decide, Try.func90.trans (congrArg some (by kernel_rfl))⟩
  t0 := Try.underlying0
  a0 := Try.isAgg0
  z0 := Try.sizeOf0
  v0 := Try.zeroValue0
  t3 := Try.underlying3
  a3 := Try.isAgg3
  z3 := Try.sizeOf3
  v3 := Try.zeroValue3
  t4 := Try.underlying4
  a4 := Try.isAgg4
  z4 := Try.sizeOf4
  v4 := Try.zeroValue4
  t22 := Try.underlying59
  a22 := Try.isAgg59
  z22 := Try.sizeOf59
  v22 := Try.zeroValue59
  a23 := Try.isAgg3
  z23 := Try.sizeOf3
  t25 := Try.underlying141
  a25 := Try.isAgg141
  z25 := Try.sizeOf141
  v25 := Try.zeroValue141 }
theorem layC : Go.Proofs.SlLaysH.n8 Try.prog renH := {
  mixed := by kernel_rfl
  f6 := ⟨Try.f92.name, by decide, Try.func92.trans (congrArg some (by kernel_rfl))⟩
  f8 := ⟨Try.f68.name, by decide, Try.func68.trans (congrArg some (by kernel_rfl))⟩
  t0 := Try.underlying0
  a0 := Try.isAgg0
  z0 := Try.sizeOf0
  v0 := Try.zeroValue0
  t3 := Try.underlying3
  a3 := Try.isAgg3
  z3 := Try.sizeOf3
  v3 := Try.zeroValue3
  t4 := Try.underlying4
  a4 := Try.isAgg4
  z4 := Try.sizeOf4
  v4 := Try.zeroValue4
  t22 := Try.underlying59
  a22 := Try.isAgg59
  z22 := Try.sizeOf59
  v22 := Try.zeroValue59
  a23 := Try.isAgg3
  z23 := Try.sizeOf3
  t25 := Try.underlying141
  a25 := Try.isAgg141
  z25 := Try.sizeOf141
  v25 := Try.zeroValue141 }

/-- A row of ints that the library has written. -/
theorem rowOf {w : World} {blk off n cap : Nat} {l : List Int} (h : Sl w 3 1 (.slice (some ⟨blk, off, none⟩) n cap) n (ints l)) (q : Nat) (d : Array Int) (hd : d.size = n) (os : Array Obj) :
    (∀ k, k ≤ n → Sl (grow (putRow (Value.int .i64) (Sort.ahead w q) blk off d) os) 3 1 (.slice (some ⟨blk, off, none⟩) k cap) k (ints (d.toList.take k))) ∧
    Mods (fun i => i = blk) w (grow (putRow (Value.int .i64) (Sort.ahead w q) blk off d) os) := by
  have hblk := h.ltAt
  have hsz : (putRow (Value.int .i64) (Sort.ahead w q) blk off d).heap.size = w.heap.size := by rw [size_putRow]; rfl
  refine ⟨fun k hk => ⟨by simp [ints]; omega, .inr ?_⟩, ⟨rfl, rfl, rfl, ?_, fun i hi hne => ?_⟩⟩
  · rcases h.2 with ⟨h', _⟩ | ⟨g', off', cap', cur, hv, hg, h1, h2, h3, h4⟩
    · simp at h'
    · simp only [Value.slice.injEq, Option.some.injEq, Addr.mk.injEq] at hv
      obtain ⟨⟨rfl, rfl, _⟩, _, rfl⟩ := hv
      have hh : (grow (putRow (Value.int .i64) (Sort.ahead w q) blk off d) os).heap[blk]? = some (.cells (putCells (Value.int .i64) off d cur) 3 (0, 0)) := by
        rw [show (grow (putRow (Value.int .i64) (Sort.ahead w q) blk off d) os).heap[blk]? = (putRow (Value.int .i64) (Sort.ahead w q) blk off d).heap[blk]? from heap_grow_old _ _ (by omega)]
        show (w.heap.modify blk (onCells (putCells (Value.int .i64) off d)))[blk]? = _
        rw [Array.getElem?_modify, if_pos rfl, hg]; rfl
      refine ⟨blk, off, cap, _, rfl, hh, by omega, h2, by simpa [putCells] using h3, fun j hj => ?_⟩
      have hj1 : off + j < cur.size := by omega
      rw [putCells, Array.getElem?_mapIdx, Array.getElem?_eq_getElem hj1, Option.map_some, if_pos (by omega), ints_at, List.getElem?_take, if_pos (by omega), show off + j - off = j by omega]
      have hjd : j < d.size := by omega
      simp [hjd]
  · show w.heap.size ≤ ((putRow (Value.int .i64) (Sort.ahead w q) blk off d).heap ++ os).size
    rw [Array.size_append, hsz]
    omega
  · rw [show (grow (putRow (Value.int .i64) (Sort.ahead w q) blk off d) os).heap[i]? = (putRow (Value.int .i64) (Sort.ahead w q) blk off d).heap[i]? from heap_grow_old _ _ (by omega)]
    show (w.heap.modify blk (onCells (putCells (Value.int .i64) off d)))[i]? = _
    rw [Array.getElem?_modify, if_neg (fun e => hne e.symm)]

set_option maxRecDepth 100000 in
theorem givesN (n x : Int) (B : Nat) (W : World) (hc : W.cell? ⟨B, 0, none⟩ = some (.int .i64 n)) :
    FnGives Try.prog 91 #[.pointer (some ⟨B, 0, none⟩)] #[.int .i64 x] (.bool (x == n)) W := by
  show Calls Try.prog 91 #[.int .i64 x, .pointer (some ⟨B, 0, none⟩)] W _
  go_enter Try.func91, Try.ntmps91
  go_wp2
  go_ret
  exact ⟨rfl, 0, rfl⟩

set_option maxRecDepth 100000 in
set_option maxHeartbeats 1600000 in
theorem without_walk (w : World) (la : Option Addr) (lc : Nat) (l : List Int) (n : Int) (hlen : l.length * 8 ≤ 140737488355328) (h : Sl w 3 1 (.slice la l.length lc) l.length (ints l)) :
    Calls Try.prog 67 #[.slice la l.length lc, .int .i64 n] w
      fun e w' => ∃ la' lc', e = .returned (.slice la' (l.filter fun x => !(x == n)).length lc') ∧ NewSl w.heap.size w' 3 1 la' (l.filter fun x => !(x == n)).length lc' (ints (l.filter fun x => !(x == n))) ∧ Mods Nil w w' := by
  have eg : ∀ args w, (callFunc 91 args).run Try.prog w = .ok (.enter 91 args) w := enters_of Try.func91 (by kernel_rfl) rfl
  have hb := heap_new w (.cells #[.int .i64 n] 3)
  have hm0 : Mods Nil w (w.alloc (.cells #[.int .i64 n] 3)) := Mods.refl.alloc _
  have hcl := clone_walk (w.alloc (.cells #[.int .i64 n] 3)) la lc l hlen (slKeep h hm0 (fun _ _ => id))
  have hdel : Hid (∀ (w1 : World) (a c : _), Mods Nil (w.alloc (.cells #[.int .i64 n] 3)) w1 → NewSl (w.alloc (.cells #[.int .i64 n] 3)).heap.size w1 3 1 a l.length c (ints l) →
      Calls Try.prog 90 #[.slice a l.length c, .func (.func 91) #[] #[.pointer (some ⟨w.heap.size, 0, none⟩)]] w1
        fun e w' => ∃ la' lc', e = .returned (.slice la' (l.filter fun x => !(x == n)).length lc') ∧ NewSl w.heap.size w' 3 1 la' (l.filter fun x => !(x == n)).length lc' (ints (l.filter fun x => !(x == n))) ∧ Mods Nil w w') := Lib.hid (fun w1 a c hm1 hN => by
    have hb1 := hm1.keep hb id
    have hlt1 := ltOf hb1
    have hc1 := cellOf hb1 0
    have hsz0 : (w.alloc (.cells #[.int .i64 n] 3)).heap.size = w.heap.size + 1 := alloc_size _ _
    rcases slForm hN.1 with ⟨rfl, rfl, rfl⟩ | ⟨g, off, rfl⟩
    · go_enter Try.func90, Try.ntmps90
      go_wp2_with (go_at_call 92; refine (AnyE.slices_IndexFunc_empty (P := Try.prog) (ρ := renH) { layC with } none 0 _ _).mono ?_; rintro e w' ⟨rfl, rfl⟩)
      go_ret
      exact ⟨none, 0, rfl, NewSl.nil, hm0.trans hm1 (fun _ _ h => h)⟩
    · have hg := hN.2 _ rfl
      have hgl := hN.1.ltAt
      have hca := hN.1.capAt
      have hd : l.toArray.size = l.length := by simp
      have hH : Holds (Value.int .i64) w1 g off l.toArray := fun j hj => ⟨by
        have hj' : j < l.length := by simpa using hj
        rw [slCells hN.1 j hj']; simp [hj', List.getD], hN.1.frzAt _⟩
      have hcon := AnyE.slices_DeleteFunc (P := Try.prog) (ρ := renH) layD (Value.int .i64) (fun _ => rfl) (fun x => x == n) 91 #[.pointer (some ⟨w.heap.size, 0, none⟩)] eg 0 Try.zeroValue3 g off c l.toArray w1
        (fun W x hb => givesN n x _ W ((hb.cell (p := ⟨w.heap.size, 0, none⟩) hlt1).trans hc1))
        (fun m os dk x _ => givesN n x _ _ (by
          unfold sortWorld
          rw [cell?_grow _ _ _ (by show _ < (putRow _ _ _ _ _).heap.size; rw [size_putRow]; exact hlt1), cell?_putRow_other _ _ g off _ _ (Or.inl (by show w.heap.size ≠ g; simp at hg; omega))]
          exact hc1)) hH (by rw [hd]; omega) (by rw [hd]; exact hca.1)
      rw [hd] at hcon
      refine hcon.mono ?_
      rintro e w' ⟨rfl, q, rfl⟩
      have hfl : (l.filter fun x => !(x == n)).length ≤ l.length := List.length_filter_le ..
      obtain ⟨hr1, hr2⟩ := rowOf hN.1 q ((l.filter fun x => !(x == n)) ++ List.replicate (l.length - (l.filter fun x => !(x == n)).length) 0).toArray (by simp; omega) #[]
      rw [grow_empty] at hr1 hr2
      have hr3 := hr1 _ hfl
      simp only [List.take_left] at hr3
      exact ⟨some ⟨g, off, none⟩, c, rfl, ⟨hr3, fun a ha => by cases ha; simp at hg; show w.heap.size ≤ g; omega⟩, (hm0.trans hm1 (fun _ _ h => h)).trans hr2 (fun k hk e => by subst e; simp at hg; omega)⟩)
  clear h
  go_enter Try.func67, Try.ntmps67
  go_wp2_with (first | (go_at_call 39; refine hcl.mono ?_; rintro e w1 ⟨a, c, rfl, hN, hm1⟩) | (go_at_call 90; refine (hdel.out w1 a c hm1 hN).mono ?_; rintro e w2 ⟨a2, c2, rfl, hN2, hm2⟩))
  go_ret
  exact ⟨a2, c2, rfl, hN2, hm2⟩

set_option maxRecDepth 100000 in
theorem upIn (w : World) (d : Ad) (nds : List Nd) (L : List Pt) (next count : Int) (B : Nat) (x : Int) (h : Img w d nds L next count) (hB : w.cell? ⟨B, 0, none⟩ = some (.pointer (some ⟨d.b, 0, none⟩))) (h0 : 0 ≤ x) (h1 : x < nds.length) :
    FnGives Try.prog 69 #[.pointer (some ⟨B, 0, none⟩)] #[.int .i64 x] (.bool (isUp nds x)) w := by
  show Calls Try.prog 69 #[.int .i64 x, .pointer (some ⟨B, 0, none⟩)] w _
  obtain ⟨m, rfl⟩ : ∃ m : Nat, x = (m : Int) := ⟨x.toNat, by omega⟩
  have hlt : m < nds.length := by omega
  have c1 := (h.nodeCells (List.getElem?_eq_getElem hlt)).1
  have cb := cellOf h.1
  have hcap := h.2.1.capAt.1
  have hu : Hid (nds[m].alive = isUp nds (m : Int)) := Lib.hid (by rw [isUp, Int.toNat_natCast, List.getElem?_eq_getElem hlt]; rfl)
  generalize nds[m].alive = y at *
  clear h
  go_enter Try.func69, Try.ntmps69
  go_wp2
  go_ret
  exact ⟨by rw [← hu.out]; rfl, 0, rfl⟩

theorem anyUp_walk (w : World) (d : Ad) (nds : List Nd) (L : List Pt) (next count : Int) (B : Nat) (la : Option Addr) (lc : Nat) (l : List Int) (h : Img w d nds L next count) (hB : w.cell? ⟨B, 0, none⟩ = some (.pointer (some ⟨d.b, 0, none⟩))) (hBl : B < w.heap.size)
    (hl : ∀ x ∈ l, 0 ≤ x ∧ x < nds.length) (hlen : l.length * 8 ≤ 140737488355328) (hs : Sl w 3 1 (.slice la l.length lc) l.length (ints l)) :
    Calls Try.prog 68 #[.slice la l.length lc, .func (.func 69) #[] #[.pointer (some ⟨B, 0, none⟩)]] w
      fun e w' => e = .returned (.bool (l.any (isUp nds))) ∧ Mods Nil w w' := by
  have eg : ∀ args w, (callFunc 69 args).run Try.prog w = .ok (.enter 69 args) w := enters_of Try.func69 (by kernel_rfl) rfl
  rcases slForm hs with ⟨rfl, rfl, rfl⟩ | ⟨g, off, rfl⟩
  · refine (AnyE.slices_ContainsFunc_empty (P := Try.prog) (ρ := renH) layC none 0 _ w).mono ?_
    rintro e w' ⟨rfl, rfl⟩
    exact ⟨rfl, Mods.refl⟩
  · by_cases hn : nds.length = 0
    · have hl0 : l = [] := by
        cases l with
        | nil => rfl
        | cons x l => have := hl x (List.mem_cons_self ..); omega
      subst hl0
      refine (AnyE.slices_ContainsFunc_empty (P := Try.prog) (ρ := renH) layC _ lc _ w).mono ?_
      rintro e w' ⟨rfl, rfl⟩
      exact ⟨rfl, Mods.refl⟩
    · let α := { x : Int // 0 ≤ x ∧ x < nds.length }
      have : Inhabited α := ⟨⟨0, by omega⟩⟩
      obtain ⟨zs, hzs⟩ : ∃ zs : List α, zs.map (fun x => x.1) = l := ⟨l.attach.map (fun x => ⟨x.1, hl x.1 x.2⟩), by simp⟩
      have hzl : zs.length = l.length := by rw [← hzs]; simp
      have := AnyE.slices_ContainsFunc (P := Try.prog) (ρ := renH) layC (fun x : α => Value.int .i64 x.1) (fun x => isUp nds x.1) 69 #[.pointer (some ⟨B, 0, none⟩)] eg g off l.length lc zs w
        (fun W x hb => upIn W d nds L next count B x.1 (h.keepNil ⟨hb.os, hb.tape, hb.output, hb.size, fun k hk _ => hb.block k hk⟩) ((hb.cell (p := ⟨B, 0, none⟩) hBl).trans hB) x.2.1 x.2.2)
        (by omega) (by omega) (fun j hj => by
          have hj' : j < l.length := by omega
          rw [slCells hs j hj']
          congr 2
          subst hzs
          simp [List.getD, hj])
      refine this.mono ?_
      rintro e w' ⟨rfl, q, rfl⟩
      refine ⟨?_, ⟨rfl, rfl, rfl, Nat.le_refl _, fun _ _ _ => rfl⟩⟩
      rw [← hzl, List.take_length, ← hzs, List.any_map]; rfl

theorem sortInt_walk (w : World) (la : Option Addr) (lc : Nat) (l : List Int) (hlen : l.length < 4611686018427387904) (h : Sl w 3 1 (.slice la l.length lc) l.length (ints l)) :
    Calls Try.prog 38 #[.slice la l.length lc] w
      fun e w' => e = .returned (.tuple #[]) ∧ Sl w' 3 1 (.slice la l.length lc) l.length (ints (l.mergeSort fun x y => decide (x ≤ y))) ∧ Mods (fun i => ∃ a, la = some a ∧ i = a.block) w w' := by
  rcases slForm h with ⟨rfl, rfl, rfl⟩ | ⟨g, off, rfl⟩
  · refine (Try.slices_Sort_int_none none 0 w).mono ?_
    rintro e w' ⟨rfl, rfl⟩
    exact ⟨rfl, by simpa using h, Mods.refl⟩
  · have hH : Holds (Value.int .i64) w g off l.toArray := fun j hj => ⟨by
      have hj' : j < l.length := by simpa using hj
      rw [slCells h j hj']; simp [hj', List.getD], h.frzAt _⟩
    refine (Try.slices_Sort_int g off lc l w hH h.ltAt hlen).mono ?_
    rintro e w' ⟨rfl, n, os, rfl⟩
    obtain ⟨hr1, hr2⟩ := rowOf h n (l.mergeSort fun x y => decide (x ≤ y)).toArray (by simp) os
    have hr3 := hr1 _ (Nat.le_refl _)
    rw [List.take_of_length_le (by simp)] at hr3
    exact ⟨rfl, hr3, hr2.mono (fun k hk => ⟨_, rfl, hk⟩)⟩
end Go.Proofs.Ytnnoicacpcahfaa
