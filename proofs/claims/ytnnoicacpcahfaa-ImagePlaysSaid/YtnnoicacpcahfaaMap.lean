/- A map as a list of its entries: lookup, a new entry. No condition. -/
import Derived.Maps.Own
import Derived.Test.YtnnoicacpcahfaaBase
namespace Go.Proofs.Ytnnoicacpcahfaa
open Go Go.ChangeMaps Go.MapKept
open Go.Maps (Keyed)

/-- Block mb is a map whose entries, in the order in which they came, are L. -/
def MapL (P : Program) (k : TypeId) (w : World) (mb : Nat) (L : List (Value × Value)) : Prop :=
  ∃ es clock, w.heap[mb]? = some (.map es clock) ∧ Stamped es clock ∧ (∀ e ∈ es.toList, ∃ l, keyOf P k e.key = some l) ∧ es.toList.map (fun e => (e.key, e.val)) = L

section
variable {P : Program} {k e t : TypeId} {w : World} {mb : Nat} {L : List (Value × Value)}

theorem MapL.made (P : Program) (k : TypeId) (w : World) : MapL P k (w.alloc (.map #[] 0)) w.heap.size [] :=
  ⟨#[], 0, heap_new w _, stamped_empty 0, by simp, rfl⟩
theorem MapL.lt (h : MapL P k w mb L) : mb < w.heap.size := by
  obtain ⟨es, clock, hb, _⟩ := h
  exact ltOf hb
theorem MapL.keep {S : Nat → Prop} {w' : World} (h : MapL P k w mb L) (hm : Mods S w w') (hn : ¬ S mb) : MapL P k w' mb L := by
  obtain ⟨es, clock, hb, r⟩ := h
  exact ⟨es, clock, hm.keep hb hn, r⟩
theorem MapL.drew (h : MapL P k w mb L) : MapL P k w.drew mb L := h
theorem MapL.nodup (h : MapL P k w mb L) : (L.map (·.1)).Nodup := by
  obtain ⟨es, clock, hb, hs, hk, rfl⟩ := h
  rw [List.map_map]
  exact hs.2.2

theorem MapL.lookup (h : MapL P k w mb L) (K : Keyed P k) (ht : P.underlying t = some (.map k e)) {z : Value} (hz : (zeroValue e).run P w = .ok z w) {key : Value} {kl : Lit} (hkey : keyOf P k key = some kl) (c : Bool) :
    ((Instr.lookup t (.map (some mb)) key c).run P w = .ok (if c then .tuple #[z, .bool false] else z) w ∧ ∀ x ∈ L, x.1 ≠ key) ∨
    ∃ v, (key, v) ∈ L ∧ (Instr.lookup t (.map (some mb)) key c).run P w = .ok (if c then .tuple #[v, .bool true] else v) w := by
  obtain ⟨es, clock, hb, hs, hk, rfl⟩ := h
  rcases K.find w hkey es.toList hk with ⟨h1, h2⟩ | ⟨j, e0, h1, h2, h3⟩
  · refine .inl ⟨by simp [Instr.lookup, run_underlying ht, MapKept.run_getObj_map hb, K.check w _ hkey, h1, hz, Result.andThen], fun x hx => ?_⟩
    obtain ⟨y, hy, rfl⟩ := List.mem_map.1 hx
    exact h2 y hy
  · refine .inr ⟨e0.val, List.mem_map.2 ⟨e0, List.mem_of_getElem? h2, by rw [h3]⟩, by simp [Instr.lookup, run_underlying ht, MapKept.run_getObj_map hb, K.check w _ hkey, h1, Result.andThen]⟩

theorem MapL.lookup_none (h : MapL P k w mb L) (K : Keyed P k) (ht : P.underlying t = some (.map k e)) {z : Value} (hz : (zeroValue e).run P w = .ok z w) {key : Value} {kl : Lit} (hkey : keyOf P k key = some kl) (hno : ∀ x ∈ L, x.1 ≠ key) :
    (Instr.lookup t (.map (some mb)) key false).run P w = .ok z w := by
  rcases h.lookup K ht hz hkey false with ⟨h1, _⟩ | ⟨v, h1, _⟩
  · exact h1
  · exact absurd rfl (hno _ h1)

theorem nodup_val {L : List (Value × Value)} (hn : (L.map (·.1)).Nodup) {key v v' : Value} (h : (key, v) ∈ L) (h' : (key, v') ∈ L) : v = v' := by
  induction L with
  | nil => cases h
  | cons x L ih =>
    simp only [List.map_cons, List.nodup_cons] at hn
    rcases List.mem_cons.1 h with h1 | h1
    · rcases List.mem_cons.1 h' with h2 | h2
      · rw [← h1] at h2; exact (Prod.mk.inj h2).2.symm
      · rw [← h1] at hn
        exact absurd (List.mem_map.2 ⟨(key, v'), h2, rfl⟩ : key ∈ L.map (·.1)) hn.1
    · rcases List.mem_cons.1 h' with h2 | h2
      · rw [← h2] at hn
        exact absurd (List.mem_map.2 ⟨(key, v), h1, rfl⟩ : key ∈ L.map (·.1)) hn.1
      · exact ih hn.2 h1 h2

theorem MapL.lookup_some (h : MapL P k w mb L) (K : Keyed P k) (ht : P.underlying t = some (.map k e)) {z : Value} (hz : (zeroValue e).run P w = .ok z w) {key v : Value} {kl : Lit} (hkey : keyOf P k key = some kl) (hin : (key, v) ∈ L) :
    (Instr.lookup t (.map (some mb)) key false).run P w = .ok v w := by
  rcases h.lookup K ht hz hkey false with ⟨_, h1⟩ | ⟨v', h1, h2⟩
  · exact absurd rfl (h1 _ hin)
  · rw [nodup_val h.nodup hin h1]
    simpa using h2

theorem heap_setBlock_same {o o' : Obj} (h : w.heap[mb]? = some o) : (setBlock w mb o').heap[mb]? = some o' := by
  have := ltOf h
  simp [setBlock, this]

theorem mods_setBlock (w : World) (mb : Nat) (o : Obj) : Mods (fun k => k = mb) w (setBlock w mb o) :=
  ⟨rfl, rfl, rfl, by simp [setBlock], fun k _ hn => by simp only [setBlock]; rw [Array.getElem?_setIfInBounds_ne (fun e => hn e.symm)]⟩

theorem MapL.update_new (h : MapL P k w mb L) (K : Keyed P k) (ht : P.underlying t = some (.map k e)) {key : Value} {kl : Lit} (hkey : keyOf P k key = some kl) (hno : ∀ x ∈ L, x.1 ≠ key) (val : Value) :
    ∃ w', (Instr.mapUpdate t (.map (some mb)) key val).run P w = .ok () w' ∧ MapL P k w' mb (L ++ [(key, val)]) ∧ Mods (fun k => k = mb) w w' := by
  obtain ⟨es, clock, hb, hs, hk, rfl⟩ := h
  rcases K.find w hkey es.toList hk with ⟨h1, h2⟩ | ⟨j, e0, h1, h2, h3⟩
  · refine ⟨setBlock w mb (.map (es.push ⟨key, val, clock⟩) (clock + 1)), ?_, ⟨_, _, heap_setBlock_same hb, stamped_push hs h2, ?_, by simp⟩, mods_setBlock _ _ _⟩
    · simp [Instr.mapUpdate, run_underlying ht, MapKept.run_getObj_map hb, K.check w false hkey, h1, MapKept.run_setObj_map _ hb, Result.andThen, setBlock]
    · intro x hx
      simp only [Array.toList_push, List.mem_append, List.mem_singleton] at hx
      rcases hx with hx | rfl
      · exact hk x hx
      · exact ⟨_, hkey⟩
  · exact absurd h3 (hno (e0.key, e0.val) (List.mem_map.2 ⟨e0, List.mem_of_getElem? h2, rfl⟩))
end
end Go.Proofs.Ytnnoicacpcahfaa
