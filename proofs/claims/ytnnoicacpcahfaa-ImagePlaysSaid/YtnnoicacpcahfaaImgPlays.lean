/- The law ImagePlays, walked. No condition. -/
import Derived.Test.YtnnoicacpcahfaaImgAwake
import Derived.Test.YtnnoicacpcahfaaImgSame
import Derived.Test.YtnnoicacpcahfaaRimNew
import Derived.Test.YtnnoicacpcahfaaRimAll
namespace Go.Proofs.Ytnnoicacpcahfaa
open Go.RowKit

/-- A command of the script. -/
structure Co where
  kind : Int
  node : Int
  part : Int
  ep : Int
  ver : Int
  xa : Option Addr
  xc : Nat
  l : List Int
def Co.cells (o : Co) : List Value := [.int .i64 o.kind, .int .i64 o.node, .int .i64 o.part, .int .i64 o.ep, .int .i64 o.ver, .slice o.xa o.l.length o.xc]
theorem Co.len (o : Co) : o.cells.length = 6 := rfl
def Co.okIn (W : World) (o : Co) : Prop := Rd W 1 (.slice o.xa o.l.length o.xc) o.l.length (ints o.l) ∧ o.l.length * 8 ≤ 140737488355328

theorem coCells {w : World} {g off k n : Nat} {l : List Co} {o : Co} (h : ∀ j, j < n * 6 → w.cell? ⟨g, off + j, none⟩ = (l.flatMap Co.cells)[j]?) (hn : l.length = n) (hb : l[k]? = some o) :
    w.cell? ⟨g, off + k * 6, none⟩ = some (.int .i64 o.kind) ∧ w.cell? ⟨g, off + k * 6 + 1, none⟩ = some (.int .i64 o.node) ∧ w.cell? ⟨g, off + k * 6 + 2, none⟩ = some (.int .i64 o.part) ∧
    w.cell? ⟨g, off + k * 6 + 3, none⟩ = some (.int .i64 o.ep) ∧ w.cell? ⟨g, off + k * 6 + 4, none⟩ = some (.int .i64 o.ver) ∧ w.cell? ⟨g, off + k * 6 + 5, none⟩ = some (.slice o.xa o.l.length o.xc) := by
  have hk : k < l.length := (List.getElem?_eq_some_iff.1 hb).1
  have key : ∀ j, j < 6 → w.cell? ⟨g, off + k * 6 + j, none⟩ = o.cells[j]? := fun j hj => by
    rw [Nat.add_assoc, h _ (by omega), flat_get Co.cells Co.len l k j o hb hj]
  exact ⟨key 0 (by omega), key 1 (by omega), key 2 (by omega), key 3 (by omega), key 4 (by omega), key 5 (by omega)⟩

theorem slType {w : World} {e size n c : Nat} {b : Addr} {xs : List Value} (h : Sl w e size (.slice (some b) n c) n xs) : ∃ cur, w.heap[b.block]? = some (.cells cur e (0, 0)) := by
  rcases h.2 with ⟨h', _⟩ | ⟨g, off, cap, cur, hv, hg, _⟩
  · simp at h'
  · simp only [Value.slice.injEq, Option.some.injEq] at hv
    obtain ⟨rfl, _, _⟩ := hv
    exact ⟨cur, hg⟩
/-- No list of ints lies in the image's own blocks. -/
theorem Img.noInt {w : World} {d : Ad} {nds : List Nd} {L : List Pt} {next count : Int} (h : Img w d nds L next count) {b : Addr} {n c : Nat} {xs : List Value} (hs : Sl w 3 1 (.slice (some b) n c) n xs) : ¬ d.A b.block := by
  obtain ⟨cur, hc⟩ := slType hs
  rintro (e | e | e | e)
  · rw [e, h.1] at hc; cases hc
  · obtain ⟨c2, h2⟩ := slType h.2.1
    rw [e] at hc
    have h2' : w.heap[d.gn]? = _ := h2
    rw [h2'] at hc; cases hc
  · obtain ⟨c2, h2⟩ := slType h.2.2.1.1
    rw [e] at hc
    have h2' : w.heap[d.gp]? = _ := h2
    rw [h2'] at hc; cases hc
  · rw [e, h.2.2.2.1] at hc; cases hc
/-- The image turns, the reference stands. -/
theorem RImg.beside {w w' : World} {d : Ad} {rd : RAd} {nds nds' : List Nd} {L L' : List Pt} {next count next' count' : Int} (h : RImg w rd nds' L' next' count') (hI : Img w d nds L next count) (hm : Mods d.A w w') (hdj : ∀ i, d.A i → ¬ rd.A i) : RImg w' rd nds' L' next' count' := by
  have il : ∀ (a : Option Addr × Nat) (l : List Int), Il w rd.A a l → Il w' rd.A a l := fun a l hl => ⟨slKeep hl.1 hm (fun b hb hA => by
    have := hl.1
    rw [hb] at this
    exact hI.noInt this hA), hl.2⟩
  exact h.keep hm hdj (fun p hp => by
    obtain ⟨h1, h2, h3⟩ := h.pts.2.1 p hp
    exact ⟨il _ _ h1, il _ _ h2, il _ _ h3⟩)
/-- Its lists lie outside of what is new since. -/
theorem Img.withE {w1 w2 : World} {d : Ad} {nds : List Nd} {L : List Pt} {next count : Int} (h : Img w1 d nds L next count) (hm : Mods Nil w1 w2) (E : Nat → Prop) (hE : ∀ k, E k → w1.heap.size ≤ k ∧ k < w2.heap.size) : Img w2 { d with E := E } nds L next count := by
  have hlt := (h.keepNil hm).lt
  obtain ⟨a1, a2, a3, a4, a5, a6⟩ := h.keepNil hm
  refine ⟨a1, a2, ⟨a3.1, fun p hp => (h.2.2.1.2.1 p hp).re hm (fun _ h => h.elim) (fun k hk hA => ?_), a3.2.2.1, .inl (.inr (.inr (.inl rfl))), fun k hk => ?_⟩, a4, ⟨a5.bn, a5.bp, a5.bc, a5.np, a5.nc, a5.pc⟩, a6⟩
  · rcases hA with hA | hA
    · exact .inl hA
    · have := (hE k hA).1; omega
  · rcases hk with hk | hk
    · exact hlt k hk
    · exact (hE k hk).2

/-- Both images, alike. -/
structure Both (w wr : World) (d : Ad) (rd : RAd) (n m : Nat) (nds : List Nd) (L L' : List Pt) (next count : Int) : Prop where
  img : Img wr d nds L next count
  ref : RImg wr rd nds L' next count
  alike : L'.map Pt.pl = L.map Pt.pl
  ln : nds.length = n
  lm : L.length = m
  dE : d.E = rd.A
  mods : Mods Nil w wr
theorem Both.keep {w wr w' : World} {d : Ad} {rd : RAd} {n m : Nat} {nds : List Nd} {L L' : List Pt} {next count : Int} (h : Both w wr d rd n m nds L L' next count) (hm : Mods Nil wr w') : Both w w' d rd n m nds L L' next count :=
  ⟨h.img.keepNil hm, h.ref.keepNil hm, h.alike, h.ln, h.lm, h.dE, h.mods.trans hm (fun _ _ h => h)⟩
/-- Both have turned, one behind the other. -/
theorem Both.turn {w wr w1 w2 : World} {d : Ad} {rd : RAd} {n m : Nat} {nds nds' : List Nd} {L L' M M' : List Pt} {next count next' count' : Int} (h : Both w wr d rd n m nds L L' next count) (hdj : ∀ i, d.A i → ¬ rd.A i) (hdA : ∀ i, d.A i → w.heap.size ≤ i) (hrA : ∀ i, rd.A i → w.heap.size ≤ i)
    (hm1 : Mods d.A wr w1) (h1 : Img w1 d nds' M next' count') (hm2 : Mods rd.A w1 w2) (h2 : RImg w2 rd nds' M' next' count') (ha : M'.map Pt.pl = M.map Pt.pl) (hn : nds'.length = nds.length) (hl : M.length = L.length) : Both w w2 d rd n m nds' M M' next' count' :=
  ⟨h1.keep hm2 (fun k hk hA => hdj k hA hk) (fun p hp => (h1.2.2.1.2.1 p hp).keep hm2 (fun k hk => .inr (by rw [h.dE]; exact hk))), h2, ha, hn.trans h.ln, hl.trans h.lm, h.dE, (h.mods.trans hm1 (fun i hi hA => by have := hdA i hA; omega)).trans hm2 (fun i hi hA => by have := hrA i hA; omega)⟩
theorem app_len (S : Im) (c : Cm) : (S.app c).1.nds.length = S.nds.length ∧ (S.app c).1.pts.length = S.pts.length := by
  unfold Im.app
  dsimp only
  repeat' split
  all_goals first | exact ⟨rfl, rfl⟩ | (simp; try split) 
  all_goals first | exact ⟨rfl, rfl⟩ | simp

set_option maxRecDepth 100000 in
set_option maxHeartbeats 6400000 in
theorem imagePlays_walk (w : World) (a b c : Nat) (la : Option Addr) (lc : Nat) (l : List Co) (ha : a < 256) (hb : b < 256) (hc : c < 256) (hrd : Rd w 6 (.slice la l.length lc) l.length (l.flatMap Co.cells)) (hin : ∀ o ∈ l, o.okIn w) (hl : l.length * 64 ≤ 140737488355328) :
    Calls Try.prog 5 #[.int .u8 a, .int .u8 b, .int .u8 c, .slice la l.length lc] w
      fun e w' => e = .returned (.bool true) ∧ Mods Nil w w' := by
  have a0 : (0 : Int) ≤ (a : Int) := by omega
  have a1 : (a : Int) < 256 := by omega
  have b0 : (0 : Int) ≤ (b : Int) := by omega
  have b1 : (b : Int) < 256 := by omega
  have c0 : (0 : Int) ≤ (c : Int) := by omega
  have c1 : (c : Int) < 256 := by omega
  replace hin := Lib.hid hin
  replace hrd := Lib.hid hrd
  go_enter Try.func5, Try.ntmps5
  go_wp2_with fail
  have e1 : (1 : Int) + (a : Int) % 5 = ((1 + a % 5 : Nat) : Int) := by omega
  have e2 : (1 : Int) + (b : Int) % 6 = ((1 + b % 6 : Nat) : Int) := by omega
  rw [e1, e2]
  obtain ⟨n, hn⟩ : ∃ n, n = 1 + a % 5 := ⟨_, rfl⟩
  obtain ⟨m, hm⟩ : ∃ m, m = 1 + b % 6 := ⟨_, rfl⟩
  rw [← hn, ← hm]
  have e3 : wrap64 ((1 : Int) + (c : Int) % (n : Int)) = ((1 + c % n : Nat) : Int) := by
    rw [← Int.natCast_emod, IntWalk.wrap64_in _ (by have := Nat.mod_lt c (show 0 < n by omega); omega)]
    omega
  rw [e3]
  obtain ⟨q, hq⟩ : ∃ q, q = 1 + c % n := ⟨_, rfl⟩
  rw [← hq]
  have n1 : 1 ≤ n := by omega
  have n5 : n ≤ 5 := by omega
  have m1 : 1 ≤ m := by omega
  have m6 : m ≤ 6 := by omega
  have q1 : 1 ≤ q := by omega
  have qn : q ≤ n := by have := Nat.mod_lt c (show 0 < n by omega); omega
  replace e1 := Lib.hid e1
  replace e2 := Lib.hid e2
  replace e3 := Lib.hid e3
  replace hn := Lib.hid hn
  replace hm := Lib.hid hm
  replace hq := Lib.hid hq
  refine (imgNew_walk w n m q n1 n5 m1 m6 q1 qn).mono ?_
  rintro e w1 ⟨d, L, rfl, hI, hL, hA, hm1⟩
  go_wp2_with fail
  rw [e2.out, ← hm.out, e3.out, ← hq.out]
  refine (rnew_walk w1 n m q n1 n5 m1 m6 q1 qn).mono ?_
  rintro e w2 ⟨rd, L', rfl, hR, hL', hRA, hm2⟩
  clear e1 e2 e3
  have hlt1 := hI.lt
  have hdj : Hid (∀ i, d.A i → ¬ rd.A i) := Lib.hid (fun i hi hr => by have := hlt1 i hi; have := hRA i hr; omega)
  have hdA : Hid (∀ i, d.A i → w.heap.size ≤ i) := Lib.hid hA
  have hrA : Hid (∀ i, rd.A i → w.heap.size ≤ i) := Lib.hid (fun i hi => by have := hRA i hi; have := hm1.size; omega)
  have hIE := hI.withE hm2 rd.A (fun i hi => ⟨hRA i hi, hR.lt i hi⟩)
  obtain ⟨db, dgn, don, dcn, dgp, dop, dcp, dgc, dE⟩ := d
  dsimp only at hIE
  obtain ⟨d, hd⟩ : ∃ d : Ad, d = ⟨db, dgn, don, dcn, dgp, dop, dcp, dgc, rd.A⟩ := ⟨_, rfl⟩
  rw [← hd] at hIE
  have hdb : d.b = db := by rw [hd]
  have hdA' : ∀ i, d.A i → (⟨db, dgn, don, dcn, dgp, dop, dcp, dgc, dE⟩ : Ad).A i := fun i hi => by rw [hd] at hi; exact hi
  replace hdj : Hid (∀ i, d.A i → ¬ rd.A i) := Lib.hid (fun i hi => hdj.out i (hdA' i hi))
  replace hdA : Hid (∀ i, d.A i → w.heap.size ≤ i) := Lib.hid (fun i hi => hdA.out i (hdA' i hi))
  have hB : Both w w2 d rd n m (List.replicate n ⟨false, 0, 0⟩) L L' 1 0 := ⟨hIE, hR, by rw [hL, hL'], by simp, by have := congrArg List.length hL; simpa using this, by rw [hd], hm1.trans hm2 (fun _ _ h => h)⟩
  dsimp only
  rw [← hdb]
  clear hd hdb hIE hdA'
  clear hlt1 hI hR hA hRA hm1 hm2 hL hL'
  replace hB := Lib.hid hB
  go_wp2_with fail
  refine (awake13_walk w2).mono ?_
  rintro e w3 ⟨rfl, hm3⟩
  have hB3 := Lib.hid (hB.out.keep hm3)
  clear hB hm3
  go_wp2_with fail
  go_loopw [69] (fun s69 wr => ∃ (k : Nat) (nds : List Nd) (L L' : List Pt) (next count : Int), k ≤ l.length ∧ s69 = .int .i64 k ∧ Hid (Both w wr d rd n m nds L L' next count)) (fun s69 _ => l.length - (intOf s69).toNat)
  case atStart => exact ⟨0, _, L, L', 1, 0, by omega, rfl, hB3⟩
  case round =>
    clear hB3 w1 w2 w3
    obtain ⟨k, nds, L, L', next, count, hk, rfl, hB⟩ := hrel
    by_cases hlt : k < l.length
    · have hltH := Lib.hid hlt
      obtain ⟨g, off, rfl, hg, hcells⟩ := (rdKeep hrd.out hB.out.mods (fun _ _ => id)).form (by omega) (by omega)
      obtain ⟨o, hok⟩ : ∃ o, l[k]? = some o := ⟨_, List.getElem?_eq_getElem hlt⟩
      obtain ⟨x0, x1, x2, x3, x4, x5⟩ := coCells hcells rfl hok
      obtain ⟨hol, holen⟩ := hin.out o (List.mem_of_getElem? hok)
      clear hcells
      obtain ⟨kind, node, part, ep, ver, xa, xc, ol⟩ := o
      dsimp only at *
      have hxa : Hid (ol ≠ [] → ∀ a, xa = some a → a.block < w.heap.size) := Lib.hid (fun h0 a ha => by
        obtain ⟨g2, off2, e2, h2, _⟩ := hol.form (by omega) (Nat.pos_of_ne_zero (fun e => h0 (List.eq_nil_of_length_eq_zero e)))
        rw [ha] at e2
        cases e2
        exact h2)
      replace hol := Lib.hid hol
      clear hok
      have k0 : (0 : Int) ≤ (k : Int) := by omega
      have k1 : (k : Int) < (l.length : Int) := by omega
      go_wp2_with fail
      have hx4 := heap_new wr (.cells #[.int .i64 kind, .int .i64 node, .int .i64 part, .int .i64 ep, .int .i64 ver, .slice xa ol.length xc] 61)
      have hm4 : Mods Nil wr (wr.alloc (.cells #[.int .i64 kind, .int .i64 node, .int .i64 part, .int .i64 ep, .int .i64 ver, .slice xa ol.length xc] 61)) := Mods.refl.alloc _
      have n1A : Hid (¬ (d.A wr.heap.size ∨ rd.A wr.heap.size)) := Lib.hid (fun h => by
        rcases h with h | h
        · have := hB.out.img.lt _ h; omega
        · have := hB.out.ref.lt _ h; omega)
      generalize wr.alloc (.cells #[.int .i64 kind, .int .i64 node, .int .i64 part, .int .i64 ep, .int .i64 ver, .slice xa ol.length xc] 61) = w4 at *
      generalize wr.heap.size = B1 at *
      have hB4 := hB.out.keep hm4
      refine (ownCmd_walk w4 kind node part ep ver xa xc ol holen (rdKeep hol.out hB4.mods (fun _ _ => id))).mono ?_
      rintro e w5 ⟨ya, yc, rfl, hN5, hm5⟩
      have hB5 := hB4.keep hm5
      have hx5 := hm5.keep hx4 id
      have hyA : Hid (∀ a, ya = some a → ¬ d.A a.block) := Lib.hid (fun a ha hA => by have := hN5.2 a ha; have := hB4.img.lt _ hA; omega)
      have hyR : Hid (∀ a, ya = some a → ¬ rd.A a.block) := Lib.hid (fun a ha hA => by have := hN5.2 a ha; have := hB4.ref.lt _ hA; omega)
      have cx5 := cellOf hx5
      have lx5 := ltOf hx5
      replace hx5 := Lib.hid hx5
      replace hB5 := Lib.hid hB5
      replace hN5 := Lib.hid hN5.1
      clear hB hm4 hx4 hB4 hm5 x0 x1 x2 x3 x4 x5 hg
      go_wp2_with fail
      have hz6 := heap_new w5 (.cells #[.int .i64 kind, .int .i64 node, .int .i64 part, .int .i64 ep, .int .i64 ver, .slice ya ol.length yc] 61)
      have hm6 : Mods Nil w5 (w5.alloc (.cells #[.int .i64 kind, .int .i64 node, .int .i64 part, .int .i64 ep, .int .i64 ver, .slice ya ol.length yc] 61)) := Mods.refl.alloc _
      have n2A : Hid (¬ (d.A w5.heap.size ∨ rd.A w5.heap.size)) := Lib.hid (fun h => by
        rcases h with h | h
        · have := hB5.out.img.lt _ h; omega
        · have := hB5.out.ref.lt _ h; omega)
      generalize w5.alloc (.cells #[.int .i64 kind, .int .i64 node, .int .i64 part, .int .i64 ep, .int .i64 ver, .slice ya ol.length yc] 61) = w6 at *
      generalize w5.heap.size = B2 at *
      have hB6 := Lib.hid (hB5.out.keep hm6)
      have hx6 := hm6.keep hx5.out id
      have hs6 := Lib.hid (slKeep hN5.out hm6 (fun _ _ => id))
      have cx6 := cellOf hx6
      have lx6 := ltOf hx6
      have cz6 := cellOf hz6
      have lz6 := ltOf hz6
      replace hx6 := Lib.hid hx6
      replace hz6 := Lib.hid hz6
      clear hm6 hB5 hN5 hx5 cx5 lx5
      refine wp_region_plan [(.pure, 0), (.read, 1), (.pure, 3), (.read, 4), (.ben, 2), (.ben, 5), (.pure, 6), (.pure, 7), (.read, 8), (.read, 9), (.ben, 10), (.pure, 11), (.pure, 12), (.pure, 13), (.pure, 14), (.pure, 15), (.ben, 16), (.pure, 17), (.pure, 18)] 19 (fun W => Mods (fun i => d.A i ∨ rd.A i) w6 W) mixed (by kernel_rfl) (by kernel_rfl) ?_ ?_
      · exact Mods.refl.drew
      repeat first
         | (refine reg_pure (v := ?_) rfl rfl ?_ ?_; rotate_left 1; (· (intro W; go_simp <;> with_reducible rfl)); simp only [Act.put, List.setIfInBounds_toArray, List.set_cons_zero, List.set_cons_succ])
         | (refine reg_read (v := ?_) rfl rfl ?_ ?_; rotate_left 1; (· (intro W hW; have hW1 := fun o => hW.cell (b := B1) lx6 n1A.out o; have hW2 := fun o => hW.cell (b := B2) lz6 n2A.out o; go_simp <;> with_reducible rfl)); simp only [Act.put, List.setIfInBounds_toArray, List.set_cons_zero, List.set_cons_succ])
         | (refine reg_off (by rfl) (by rfl) ?_; simp only [Act.put, List.setIfInBounds_toArray, List.set_cons_zero, List.set_cons_succ])
         | (refine reg_pure_on (v := ?_) rfl (by rfl) ?_ ?_; rotate_left 1; (· (intro W; go_simp <;> with_reducible rfl)); simp only [Act.put, List.setIfInBounds_toArray, List.set_cons_zero, List.set_cons_succ])
         | (refine reg_read_on (v := ?_) rfl (by rfl) ?_ ?_; rotate_left 1; (· (intro W hW; have hW1 := fun o => hW.cell (b := B1) lx6 n1A.out o; have hW2 := fun o => hW.cell (b := B2) lz6 n2A.out o; go_simp <;> with_reducible rfl)); simp only [Act.put, List.setIfInBounds_toArray, List.set_cons_zero, List.set_cons_succ])
      refine reg_ben (by rfl) (by rfl) (fun K hK => ?_)
      go_simp
      obtain ⟨T, hT⟩ : ∃ T, T = Im.app ⟨nds, L.map Pt.pl, next, count⟩ ⟨kind, node, part, ep, ver, ol⟩ := ⟨_, rfl⟩
      have hln := app_len ⟨nds, L.map Pt.pl, next, count⟩ ⟨kind, node, part, ep, ver, ol⟩
      rw [← hT] at hln
      replace hT := Lib.hid hT
      refine (apply_walk13 w6.drew d nds L next count kind node part ep ver ya yc ol (hB6.out.img.keepNil Mods.refl.drew) holen hs6.out hyA.out).mono ?_
      rintro e w7 ⟨he, hm7, M, hI7, hM⟩
      rw [← hT.out] at he hI7 hM
      subst he
      replace hm7 := Mods.drew_left hm7
      refine hK _ _ (hm7.mono (fun _ h => .inl h)) ?_
      clear hK K
      have hR7 := hB6.out.ref.beside hB6.out.img hm7 hdj.out
      have hm07 : Mods Nil w w7 := hB6.out.mods.trans hm7 (fun i hi hA => by have := hdA.out i hA; omega)
      have hs7 := Lib.hid (slKeep hs6.out hm7 (fun a ha => hyA.out a ha))
      have hmA7 : Hid (Mods (fun i => d.A i ∨ rd.A i) w6 w7) := Lib.hid (hm7.mono (fun _ h => .inl h))
      replace hm7 := Lib.hid hm7
      replace hI7 := Lib.hid hI7
      replace hM := Lib.hid hM
      replace hln := Lib.hid hln
      repeat first
         | (refine reg_pure (v := ?_) rfl rfl ?_ ?_; rotate_left 1; (· (intro W; go_simp <;> with_reducible rfl)); simp only [Act.put, List.setIfInBounds_toArray, List.set_cons_zero, List.set_cons_succ])
         | (refine reg_read (v := ?_) rfl rfl ?_ ?_; rotate_left 1; (· (intro W hW; have hW1 := fun o => hW.cell (b := B1) lx6 n1A.out o; have hW2 := fun o => hW.cell (b := B2) lz6 n2A.out o; go_simp <;> with_reducible rfl)); simp only [Act.put, List.setIfInBounds_toArray, List.set_cons_zero, List.set_cons_succ])
         | (refine reg_off (by rfl) (by rfl) ?_; simp only [Act.put, List.setIfInBounds_toArray, List.set_cons_zero, List.set_cons_succ])
         | (refine reg_pure_on (v := ?_) rfl (by rfl) ?_ ?_; rotate_left 1; (· (intro W; go_simp <;> with_reducible rfl)); simp only [Act.put, List.setIfInBounds_toArray, List.set_cons_zero, List.set_cons_succ])
         | (refine reg_read_on (v := ?_) rfl (by rfl) ?_ ?_; rotate_left 1; (· (intro W hW; have hW1 := fun o => hW.cell (b := B1) lx6 n1A.out o; have hW2 := fun o => hW.cell (b := B2) lz6 n2A.out o; go_simp <;> with_reducible rfl)); simp only [Act.put, List.setIfInBounds_toArray, List.set_cons_zero, List.set_cons_succ])
      refine reg_ben (by rfl) (by rfl) (fun K hK => ?_)
      go_simp
      refine (rapply_walk w7 rd nds L' next count kind node part ep ver xa xc ol hR7 holen (rdKeep hol.out hm07 (fun _ _ => id)) (fun h0 a ha hA => by have := hxa.out h0 a ha; have := hrA.out _ hA; omega)).mono ?_
      rintro e w8 ⟨he, hm8, M', hR8, hM'⟩
      rw [hB6.out.alike, ← hT.out] at he hR8 hM'
      subst he
      have hmA8 : Hid (Mods (fun i => d.A i ∨ rd.A i) w6 w8) := Lib.hid (hmA7.out.trans hm8 (fun _ _ h => .inr h))
      refine hK _ _ hmA8.out ?_
      clear hK K
      have hB8 : Hid (Both w w8 d rd n m T.1.nds M M' T.1.next T.1.count) := Lib.hid (hB6.out.turn hdj.out hdA.out hrA.out hm7.out hI7.out hm8 hR8 (by rw [hM', hM.out]) hln.out.1 (by
        have := congrArg List.length hM.out
        rw [List.length_map, hln.out.2, List.length_map] at this
        exact this))
      have hs8 := Lib.hid (slKeep hs7.out hm8 (fun a ha => hyR.out a ha))
      clear hR7 hm07 hm7 hI7 hM hm8 hR8 hM' hs6 hs7 hmA7 hln hB6
      obtain ⟨T1, T2⟩ := T
      dsimp only at *
      have hTT : (T2 != T2) = false := by simp
      repeat first
         | (refine reg_pure (v := ?_) rfl rfl ?_ ?_; rotate_left 1; (· (intro W; go_simp <;> with_reducible rfl)); simp only [Act.put, List.setIfInBounds_toArray, List.set_cons_zero, List.set_cons_succ])
         | (refine reg_read (v := ?_) rfl rfl ?_ ?_; rotate_left 1; (· (intro W hW; have hW1 := fun o => hW.cell (b := B1) lx6 n1A.out o; have hW2 := fun o => hW.cell (b := B2) lz6 n2A.out o; go_simp <;> with_reducible rfl)); simp only [Act.put, List.setIfInBounds_toArray, List.set_cons_zero, List.set_cons_succ])
         | (refine reg_off (by rfl) (by rfl) ?_; simp only [Act.put, List.setIfInBounds_toArray, List.set_cons_zero, List.set_cons_succ])
         | (refine reg_pure_on (v := ?_) rfl (by rfl) ?_ ?_; rotate_left 1; (· (intro W; go_simp <;> with_reducible rfl)); simp only [Act.put, List.setIfInBounds_toArray, List.set_cons_zero, List.set_cons_succ])
         | (refine reg_read_on (v := ?_) rfl (by rfl) ?_ ?_; rotate_left 1; (· (intro W hW; have hW1 := fun o => hW.cell (b := B1) lx6 n1A.out o; have hW2 := fun o => hW.cell (b := B2) lz6 n2A.out o; go_simp <;> with_reducible rfl)); simp only [Act.put, List.setIfInBounds_toArray, List.set_cons_zero, List.set_cons_succ])
      refine reg_ben_on (by rfl) (by rfl) (fun K hK => ?_)
      go_simp
      refine (sameCmd_walk w8 kind node part ep ver xa ya xc yc ol holen hs8.out.rd (rdKeep hol.out hB8.out.mods (fun _ _ => id))).mono ?_
      rintro e w9 ⟨rfl, hm9⟩
      have hB9 := Lib.hid (hB8.out.keep hm9)
      have hmA9 : Hid (Mods (fun i => d.A i ∨ rd.A i) w6 w9) := Lib.hid (hmA8.out.trans hm9 (fun _ _ h => h.elim))
      refine hK _ _ hmA9.out ?_
      clear hK K hB8 hmA8 hm9
      repeat first
         | (refine reg_pure (v := ?_) rfl rfl ?_ ?_; rotate_left 1; (· (intro W; go_simp <;> with_reducible rfl)); simp only [Act.put, List.setIfInBounds_toArray, List.set_cons_zero, List.set_cons_succ])
         | (refine reg_read (v := ?_) rfl rfl ?_ ?_; rotate_left 1; (· (intro W hW; have hW1 := fun o => hW.cell (b := B1) lx6 n1A.out o; have hW2 := fun o => hW.cell (b := B2) lz6 n2A.out o; go_simp <;> with_reducible rfl)); simp only [Act.put, List.setIfInBounds_toArray, List.set_cons_zero, List.set_cons_succ])
         | (refine reg_off (by rfl) (by rfl) ?_; simp only [Act.put, List.setIfInBounds_toArray, List.set_cons_zero, List.set_cons_succ])
         | (refine reg_pure_on (v := ?_) rfl (by rfl) ?_ ?_; rotate_left 1; (· (intro W; go_simp <;> with_reducible rfl)); simp only [Act.put, List.setIfInBounds_toArray, List.set_cons_zero, List.set_cons_succ])
         | (refine reg_read_on (v := ?_) rfl (by rfl) ?_ ?_; rotate_left 1; (· (intro W hW; have hW1 := fun o => hW.cell (b := B1) lx6 n1A.out o; have hW2 := fun o => hW.cell (b := B2) lz6 n2A.out o; go_simp <;> with_reducible rfl)); simp only [Act.put, List.setIfInBounds_toArray, List.set_cons_zero, List.set_cons_succ])
      refine reg_ben_on (by rfl) (by rfl) (fun K hK => ?_)
      go_simp
      refine (same13_walk w9 d rd T1.nds M M' T1.next T1.count hB9.out.img hB9.out.ref hB9.out.alike (by rw [hB9.out.ln]; omega) (by rw [hB9.out.lm]; omega)).mono ?_
      rintro e w10 ⟨rfl, hm10⟩
      have hB10 := Lib.hid (hB9.out.keep hm10)
      refine hK _ _ (hmA9.out.trans hm10 (fun _ _ h => h.elim)) ?_
      clear hK K hB9 hmA9 hm10
      repeat first
         | (refine reg_pure (v := ?_) rfl rfl ?_ ?_; rotate_left 1; (· (intro W; go_simp <;> with_reducible rfl)); simp only [Act.put, List.setIfInBounds_toArray, List.set_cons_zero, List.set_cons_succ])
         | (refine reg_read (v := ?_) rfl rfl ?_ ?_; rotate_left 1; (· (intro W hW; have hW1 := fun o => hW.cell (b := B1) lx6 n1A.out o; have hW2 := fun o => hW.cell (b := B2) lz6 n2A.out o; go_simp <;> with_reducible rfl)); simp only [Act.put, List.setIfInBounds_toArray, List.set_cons_zero, List.set_cons_succ])
         | (refine reg_off (by rfl) (by rfl) ?_; simp only [Act.put, List.setIfInBounds_toArray, List.set_cons_zero, List.set_cons_succ])
         | (refine reg_pure_on (v := ?_) rfl (by rfl) ?_ ?_; rotate_left 1; (· (intro W; go_simp <;> with_reducible rfl)); simp only [Act.put, List.setIfInBounds_toArray, List.set_cons_zero, List.set_cons_succ])
         | (refine reg_read_on (v := ?_) rfl (by rfl) ?_ ?_; rotate_left 1; (· (intro W hW; have hW1 := fun o => hW.cell (b := B1) lx6 n1A.out o; have hW2 := fun o => hW.cell (b := B2) lz6 n2A.out o; go_simp <;> with_reducible rfl)); simp only [Act.put, List.setIfInBounds_toArray, List.set_cons_zero, List.set_cons_succ])
      refine reg_done (qnp_normal ?_)
      go_wp2
      exact ⟨⟨k + 1, _, M, M', _, _, hltH.out, by go_num, hB10⟩, by have := hltH.out; simp [intOf]; omega⟩
    · obtain rfl : k = l.length := by omega
      clear hlt
      go_wp2
      go_ret
      exact ⟨rfl, hB.out.mods⟩
end Go.Proofs.Ytnnoicacpcahfaa
