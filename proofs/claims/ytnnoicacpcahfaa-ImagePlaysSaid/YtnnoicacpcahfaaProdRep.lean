/- What a table of producers (package prod) is in memory: one block each, apart from one another; it is turned producer by producer. No condition. -/
import Derived.Test.YtnnoicacpcahfaaProg
import Derived.Test.YtnnoicacpcahfaaMap
import Derived.KernelRfl
namespace Go.Proofs.Ytnnoicacpcahfaa
open Go Go.ChangeMaps Go.MapKept

structure Seen where
  seq : Int
  size : Int
  base : Int
def Seen.cells (s : Seen) : List Value := [.int .i64 s.seq, .int .i64 s.size, .int .i64 s.base]
structure Prod where
  epoch : Int
  next : Int
  last : List Seen
  opn : Int
structure Ab where
  pid : Int
  first : Int
  last : Int
def Ab.cells (s : Ab) : List Value := [.int .u64 s.pid, .int .i64 s.first, .int .i64 s.last]
structure Tab where
  keys : List Int
  prod : Int → Prod
  aborts : List Ab
def Tab.set (T : Tab) (pid : Int) (p : Prod) : Tab := { T with prod := fun k => if k = pid then p else T.prod k }
def Tab.add (T : Tab) (pid : Int) (p : Prod) : Tab := { T with keys := T.keys ++ [pid], prod := fun k => if k = pid then p else T.prod k }
def Tab.abort (T : Tab) (a : Ab) : Tab := { T with aborts := T.aborts ++ [a] }

theorem flen {α : Type} {n : Nat} (f : α → List Value) (hf : ∀ a, (f a).length = n) : ∀ l : List α, (l.flatMap f).length = l.length * n
  | [] => by simp
  | a :: l => by simp [flen f hf l, hf, Nat.add_mul, Nat.add_comm]

/-- One producer: its block, its last batches. G: its blocks. -/
def PRep (w : World) (pb : Nat) (p : Prod) (G : Nat → Prop) : Prop :=
  G pb ∧ (∀ k, G k → k < w.heap.size) ∧ ∃ la lc, w.heap[pb]? = some (.cells #[.int .i64 p.epoch, .int .i64 p.next, .slice la p.last.length lc, .int .i64 p.opn] 74) ∧
    Sl w 79 3 (.slice la p.last.length lc) p.last.length (p.last.flatMap Seen.cells) ∧ ∀ a, la = some a → G a.block ∧ a.block ≠ pb

/-- The table: addr k: where the producer k lies. F: all its blocks. -/
def TabRep (w : World) (bt : Nat) (T : Tab) (addr : Int → Nat) (F : Nat → Prop) : Prop :=
  F bt ∧ (∀ k, F k → k < w.heap.size) ∧ T.keys.Nodup ∧ (∀ k ∈ T.keys, (Lit.int .u64 k).wf = true) ∧ ∃ mb aa ac, ∃ lab : Nat → Option Int,
    w.heap[bt]? = some (.cells #[.map (some mb), .slice aa T.aborts.length ac] 70) ∧ Sl w 39 3 (.slice aa T.aborts.length ac) T.aborts.length (T.aborts.flatMap Ab.cells) ∧
    MapL Try.prog 29 w mb (T.keys.map fun k => (.int .u64 k, .pointer (some ⟨addr k, 0, none⟩))) ∧ F mb ∧ mb ≠ bt ∧
    (∀ a, aa = some a → F a.block ∧ a.block ≠ bt ∧ a.block ≠ mb ∧ lab a.block = none) ∧ lab bt = none ∧ lab mb = none ∧
    ∀ k ∈ T.keys, PRep w (addr k) (T.prod k) (fun j => F j ∧ lab j = some k)

theorem slKeep {w w' : World} {S : Nat → Prop} {e size n : Nat} {la : Option Addr} {lc : Nat} {xs : List Value} (h : Sl w e size (.slice la n lc) n xs) (hm : Mods S w w') (hn : ∀ a, la = some a → ¬ S a.block) : Sl w' e size (.slice la n lc) n xs :=
  h.keep hm (fun k hk => by
    cases la with
    | none => simp [Value.ownBlock] at hk
    | some a => simp [Value.ownBlock] at hk; subst hk; exact hn a rfl)

theorem PRep.keep {w w' : World} {pb : Nat} {p : Prod} {G S : Nat → Prop} (h : PRep w pb p G) (hm : Mods S w w') (hn : ∀ k, G k → ¬ S k) : PRep w' pb p G := by
  obtain ⟨h1, h2, la, lc, h3, h4, h5⟩ := h
  exact ⟨h1, fun k hk => hm.lt (h2 k hk), la, lc, hm.keep h3 (hn _ h1), slKeep h4 hm (fun a ha => hn _ (h5 a ha).1), h5⟩

theorem PRep.mono {w : World} {pb : Nat} {p : Prod} {G G' : Nat → Prop} (h : PRep w pb p G) (hg : ∀ k, G k → G' k) (hl : ∀ k, G' k → k < w.heap.size) : PRep w pb p G' := by
  obtain ⟨h1, h2, la, lc, h3, h4, h5⟩ := h
  exact ⟨hg _ h1, hl, la, lc, h3, h4, fun a ha => ⟨hg _ (h5 a ha).1, (h5 a ha).2⟩⟩

theorem TabRep.keep {w w' : World} {bt : Nat} {T : Tab} {addr : Int → Nat} {F S : Nat → Prop} (h : TabRep w bt T addr F) (hm : Mods S w w') (hn : ∀ k, F k → ¬ S k) : TabRep w' bt T addr F := by
  obtain ⟨h1, h2, h3, h4, mb, aa, ac, lab, h5, h6, h7, h8, h9, h10, h11, h12, h13⟩ := h
  exact ⟨h1, fun k hk => hm.lt (h2 k hk), h3, h4, mb, aa, ac, lab, hm.keep h5 (hn _ h1), slKeep h6 hm (fun a ha => hn _ (h10 a ha).1), h7.keep hm (hn _ h8), h8, h9, h10, h11, h12,
    fun k hk => (h13 k hk).keep hm (fun j hj => hn _ hj.1)⟩

/-- One producer taken out, turned, and put back. -/
theorem TabRep.focus {w : World} {bt : Nat} {T : Tab} {addr : Int → Nat} {F : Nat → Prop} (h : TabRep w bt T addr F) {pid : Int} (hk : pid ∈ T.keys) :
    ∃ G : Nat → Prop, PRep w (addr pid) (T.prod pid) G ∧ (∀ j, G j → F j ∧ j ≠ bt) ∧
      ∀ w' p' (G' : Nat → Prop), Mods G w w' → PRep w' (addr pid) p' G' → (∀ j, G' j → G j ∨ w.heap.size ≤ j) →
        ∃ F', TabRep w' bt (T.set pid p') addr F' ∧ ∀ j, F' j → F j ∨ w.heap.size ≤ j := by
  obtain ⟨h1, h2, h3, h4, mb, aa, ac, lab, h5, h6, h7, h8, h9, h10, h11, h12, h13⟩ := h
  refine ⟨fun j => F j ∧ lab j = some pid, h13 pid hk, fun j ⟨hj, hj2⟩ => ⟨hj, fun e => by subst e; rw [h11] at hj2; cases hj2⟩, ?_⟩
  intro w' p' G' hm hp hg
  have old : ∀ j, F j → ¬ w.heap.size ≤ j := fun j hj => by have := h2 j hj; omega
  refine ⟨fun j => F j ∨ (w.heap.size ≤ j ∧ G' j), ⟨.inl h1, ?_, h3, h4, mb, aa, ac, fun j => if w.heap.size ≤ j then some pid else lab j, hm.keep h5 ?_, slKeep h6 hm ?_, h7.keep hm ?_, .inl h8, h9, ?_, ?_, ?_, ?_⟩, ?_⟩
  · intro k hk'
    rcases hk' with h | h
    · exact hm.lt (h2 k h)
    · exact hp.2.1 k h.2
  · rintro ⟨_, e⟩; rw [h11] at e; cases e
  · rintro a ha ⟨_, e⟩; rw [(h10 a ha).2.2.2] at e; cases e
  · rintro ⟨_, e⟩; rw [h12] at e; cases e
  · intro a ha
    obtain ⟨x1, x2, x3, x4⟩ := h10 a ha
    exact ⟨.inl x1, x2, x3, by simp only [if_neg (old _ x1)]; exact x4⟩
  · simp only [if_neg (old _ h1)]; exact h11
  · simp only [if_neg (old _ h8)]; exact h12
  · intro k hk'
    by_cases hkp : k = pid
    · subst hkp
      have e : (T.set k p').prod k = p' := by simp [Tab.set]
      rw [e]
      refine hp.mono (fun j hj => ?_) (fun j hj => ?_)
      · by_cases hs : w.heap.size ≤ j
        · exact ⟨.inr ⟨hs, hj⟩, by simp [hs]⟩
        · rcases hg j hj with h | h
          · exact ⟨.inl h.1, by simp only [if_neg hs]; exact h.2⟩
          · exact absurd h hs
      · rcases hj.1 with h | h
        · exact hm.lt (h2 j h)
        · exact hp.2.1 j h.2
    · have e : (T.set pid p').prod k = T.prod k := by simp [Tab.set, hkp]
      rw [e]
      refine ((h13 k hk').keep hm (fun j ⟨_, hj⟩ ⟨_, e⟩ => ?_)).mono (fun j hj => ?_) (fun j hj => ?_)
      · rw [hj] at e; exact hkp (Option.some.inj e)
      · exact ⟨.inl hj.1, by simp only [if_neg (old _ hj.1)]; exact hj.2⟩
      · rcases hj.1 with h | h
        · exact hm.lt (h2 j h)
        · exact hp.2.1 j h.2
  · intro j hj
    rcases hj with h | h
    · exact .inl h
    · exact .inr h.1

/-- The empty table. -/
theorem TabRep.new {w : World} {bt mb : Nat} (h5 : w.heap[bt]? = some (.cells #[.map (some mb), .slice none 0 0] 70)) (h7 : MapL Try.prog 29 w mb []) (h9 : mb ≠ bt) (d : Prod) :
    TabRep w bt ⟨[], fun _ => d, []⟩ (fun _ => 0) (fun k => k = bt ∨ k = mb) :=
  ⟨.inl rfl, fun k hk => by rcases hk with rfl | rfl; exact ltOf h5; exact h7.lt, .nil, by simp, mb, none, 0, fun _ => none, h5, Sl.nil _ _ _, h7, .inr rfl, h9, by simp, rfl, rfl, by simp⟩

/-- A new producer: a new block, a new entry. -/
theorem TabRep.added {w w1 w2 : World} {bt pb : Nat} {T : Tab} {addr : Int → Nat} {F : Nat → Prop} (h : TabRep w bt T addr F) {pid : Int} (hk : pid ∉ T.keys) (hwf : (Lit.int .u64 pid).wf = true)
    (hm1 : Mods Nil w w1) (hpb : w.heap.size ≤ pb) {ep : Int} (hp : w1.heap[pb]? = some (.cells #[.int .i64 ep, .int .i64 0, .slice none 0 0, .int .i64 (-1)] 74))
    {mb : Nat} {v : Value} (hb : w.heap[bt]? = some (.cells #[.map (some mb), v] 70)) (hm2 : Mods (fun k => k = mb) w1 w2) (hmap : ∀ L, MapL Try.prog 29 w1 mb L → MapL Try.prog 29 w2 mb (L ++ [(.int .u64 pid, .pointer (some ⟨pb, 0, none⟩))])) :
    TabRep w2 bt (T.add pid ⟨ep, 0, [], -1⟩) (fun k => if k = pid then pb else addr k) (fun k => F k ∨ k = pb) ∧ Mods F w w2 := by
  obtain ⟨h1, h2, h3, h4, mb', aa, ac, lab, h5, h6, h7, h8, h9, h10, h11, h12, h13⟩ := h
  have e : mb' = mb := by
    rw [h5] at hb
    simp at hb
    exact hb.1
  subst e
  have old : ∀ j, F j → j ≠ pb := fun j hj => by have := h2 j hj; omega
  have hms : Mods (fun k => k = mb') w w2 := (hm1.mono (S' := fun k => k = mb') (fun _ h => h.elim)).trans hm2 (fun _ _ h => h)
  have hp2 : w2.heap[pb]? = some (.cells #[.int .i64 ep, .int .i64 0, .slice none 0 0, .int .i64 (-1)] 74) := hm2.keep hp (fun e => old _ h8 e.symm)
  have bd : ∀ k, F k ∨ k = pb → k < w2.heap.size := by
    intro k hk'
    rcases hk' with h | rfl
    · exact hms.lt (h2 k h)
    · exact ltOf hp2
  refine ⟨⟨.inl h1, bd, ?_, ?_, mb', aa, ac, fun j => if j = pb then some pid else lab j, ?_, ?_, ?_, .inl h8, h9, ?_, ?_, ?_, ?_⟩, hms.mono (fun k e => e ▸ h8)⟩
  · show (T.keys ++ [pid]).Nodup
    rw [List.nodup_append]
    exact ⟨h3, by simp, fun a ha b hb => by simp at hb; subst hb; intro e; subst e; exact hk ha⟩
  · intro k hk'
    rcases List.mem_append.1 (show k ∈ T.keys ++ [pid] from hk') with h | h
    · exact h4 k h
    · simp at h; subst h; exact hwf
  · exact hms.keep h5 (fun e => h9 e.symm)
  · exact slKeep h6 hms (fun a ha => (h10 a ha).2.2.1)
  · show MapL _ _ _ _ ((T.keys ++ [pid]).map _)
    have hL := hmap _ (h7.keep hm1 id)
    rw [List.map_append]
    have e1 : (T.keys.map fun k => ((Value.int .u64 k, Value.pointer (some ⟨(if k = pid then pb else addr k), 0, none⟩)) : Value × Value)) = T.keys.map fun k => (.int .u64 k, .pointer (some ⟨addr k, 0, none⟩)) :=
      List.map_congr_left fun k hk' => by
        have hne : k ≠ pid := fun e => hk (by rw [← e]; exact hk')
        simp [hne]
    rw [e1]
    simpa using hL
  · intro a ha
    obtain ⟨x1, x2, x3, x4⟩ := h10 a ha
    exact ⟨.inl x1, x2, x3, by simp only [if_neg (old _ x1)]; exact x4⟩
  · simp only [if_neg (old _ h1)]; exact h11
  · simp only [if_neg (old _ h8)]; exact h12
  · intro k hk'
    rcases List.mem_append.1 (show k ∈ T.keys ++ [pid] from hk') with h | h
    · have hkp : k ≠ pid := fun e => hk (e ▸ h)
      have e1 : (T.add pid ⟨ep, 0, [], -1⟩).prod k = T.prod k := by simp [Tab.add, hkp]
      rw [e1]
      show PRep w2 (if k = pid then pb else addr k) _ _
      rw [if_neg hkp]
      refine ((h13 k h).keep hms (fun j ⟨_, hj⟩ e => ?_)).mono (fun j hj => ?_) (fun j hj => bd j hj.1)
      · subst e; rw [h12] at hj; cases hj
      · exact ⟨.inl hj.1, by simp only [if_neg (old _ hj.1)]; exact hj.2⟩
    · simp at h
      subst h
      have e1 : (T.add k ⟨ep, 0, [], -1⟩).prod k = ⟨ep, 0, [], -1⟩ := by simp [Tab.add]
      rw [e1]
      show PRep w2 (if k = k then pb else addr k) _ _
      rw [if_pos rfl]
      exact ⟨⟨.inr rfl, by simp⟩, fun j hj => bd j hj.1, none, 0, hp2, Sl.nil _ _ _, by simp⟩

/-- One more aborted transaction. -/
theorem TabRep.aborted {w w1 w2 : World} {bt : Nat} {T : Tab} {addr : Int → Nat} {F : Nat → Prop} (h : TabRep w bt T addr F) (a : Ab) {mb : Nat} {v : Value} (hb : w.heap[bt]? = some (.cells #[.map (some mb), v] 70))
    {aa' : Option Addr} {ac' : Nat} (hm1 : Mods (fun k => v.ownBlock = some k) w w1) (hs : Sl w1 39 3 (.slice aa' (T.aborts.length + 1) ac') (T.aborts.length + 1) (T.aborts.flatMap Ab.cells ++ a.cells))
    (hown : (Value.slice aa' (T.aborts.length + 1) ac').ownBlock = v.ownBlock ∨ ∃ k, w.heap.size ≤ k ∧ (Value.slice aa' (T.aborts.length + 1) ac').ownBlock = some k)
    (hm2 : Mods (fun k => k = bt) w1 w2) (hb2 : w2.heap[bt]? = some (.cells #[.map (some mb), .slice aa' (T.aborts.length + 1) ac'] 70)) :
    ∃ F', TabRep w2 bt (T.abort a) addr F' ∧ Mods F w w2 ∧ ∀ j, F' j → F j ∨ w.heap.size ≤ j := by
  obtain ⟨h1, h2, h3, h4, mb', aa, ac, lab, h5, h6, h7, h8, h9, h10, h11, h12, h13⟩ := h
  have e : mb' = mb ∧ .slice aa T.aborts.length ac = v := by
    rw [h5] at hb
    simpa using hb
  obtain ⟨rfl, rfl⟩ := e
  have own : ∀ k, (Value.slice aa T.aborts.length ac).ownBlock = some k → ∃ x, aa = some x ∧ x.block = k := fun k hk => by
    cases aa with
    | none => simp [Value.ownBlock] at hk
    | some x => simp [Value.ownBlock] at hk; exact ⟨x, rfl, hk⟩
  have hms : Mods (fun k => (∃ x, aa = some x ∧ x.block = k) ∨ k = bt) w w2 :=
    (hm1.mono (S' := fun k => (∃ x, aa = some x ∧ x.block = k) ∨ k = bt) (fun k hk => .inl (own k hk))).trans hm2 (fun _ _ h => .inr h)
  have hmf : Mods F w w2 := hms.mono (fun k hk => by
    rcases hk with ⟨x, hx, rfl⟩ | rfl
    · exact (h10 x hx).1
    · exact h1)
  have old : ∀ j, F j → ¬ w.heap.size ≤ j := fun j hj => by have := h2 j hj; omega
  have nw : ∀ x, aa' = some x → (∃ y, aa = some y ∧ y.block = x.block) ∨ w.heap.size ≤ x.block := fun x hx => by
    subst hx
    rcases hown with h | ⟨k, hk, h⟩
    · exact .inl (own _ h.symm)
    · simp [Value.ownBlock] at h; subst h; exact .inr hk
  have hs2 : Sl w2 39 3 (.slice aa' (T.aborts.length + 1) ac') (T.aborts.length + 1) (T.aborts.flatMap Ab.cells ++ a.cells) := slKeep hs hm2 (fun x hx e => by
    rcases nw x hx with ⟨y, hy, hyx⟩ | h
    · exact (h10 y hy).2.1 (hyx.trans e)
    · rw [e] at h; exact old _ h1 h)
  refine ⟨fun j => F j ∨ (w.heap.size ≤ j ∧ j < w2.heap.size), ⟨.inl h1, ?_, h3, h4, mb', aa', ac', fun j => if w.heap.size ≤ j then none else lab j, ?_, ?_, ?_, .inl h8, h9, ?_, ?_, ?_, ?_⟩, hmf, fun j hj => hj.imp id (·.1)⟩
  · intro k hk
    rcases hk with h | h
    · exact hmf.lt (h2 k h)
    · exact h.2
  · simpa [Tab.abort] using hb2
  · simpa [Tab.abort] using hs2
  · refine h7.keep hms ?_
    rintro (⟨x, hx, e⟩ | e)
    · exact (h10 x hx).2.2.1 e
    · exact h9 e
  · intro x hx
    rcases nw x hx with ⟨y, hy, hyx⟩ | h
    · obtain ⟨x1, x2, x3, x4⟩ := h10 y hy
      rw [← hyx]
      exact ⟨.inl x1, x2, x3, by simp only [if_neg (old _ x1)]; exact x4⟩
    · refine ⟨.inr ⟨h, ?_⟩, fun e => old _ h1 (e ▸ h), fun e => old _ h8 (e ▸ h), by simp only [if_pos h]⟩
      exact hs2.lt _ (by subst hx; rfl)
  · simp only [if_neg (old _ h1)]; exact h11
  · simp only [if_neg (old _ h8)]; exact h12
  · intro k hk
    refine ((h13 k hk).keep hms (fun j ⟨hj1, hj2⟩ e => ?_)).mono (fun j hj => ?_) (fun j hj => ?_)
    · rcases e with ⟨x, hx, e⟩ | e
      · rw [← e, (h10 x hx).2.2.2] at hj2; cases hj2
      · rw [e, h11] at hj2; cases hj2
    · exact ⟨.inl hj.1, by simp only [if_neg (old _ hj.1)]; exact hj.2⟩
    · rcases hj.1 with h | h
      · exact hmf.lt (h2 j h)
      · exact h.2
end Go.Proofs.Ytnnoicacpcahfaa
