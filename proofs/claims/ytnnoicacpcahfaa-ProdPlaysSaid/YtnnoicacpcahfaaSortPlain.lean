/- Sorting an array part by part: plain facts, no program in sight. No condition. -/
import Derived.Sort.LotA
import Derived.Sort.LotB
import Derived.Sort.LotD3
namespace Go.Proofs.Ytnnoicacpcahfaa
open Go Go.Sort

abbrev lz : Int → Int → Bool := ltInt
theorem lz_true {x y : Int} : lz x y = true ↔ x < y := by simp [lz, ltInt]
theorem lz_false {x y : Int} : lz x y = false ↔ y ≤ x := by simp [lz, ltInt]

/-- What is left to do: the part [p, q) of e; whatever sorted permutation of it comes, the part [a, b) of d is sorted. -/
def Todo (a b : Nat) (d : Array Int) (p q : Nat) (e : Array Int) : Prop :=
  p ≤ q ∧ q ≤ e.size ∧ e.size = d.size ∧ Below lz p q e ∧ ∀ R, PermIn p q e R → SortedIn lz p q R → PermIn a b d R ∧ SortedIn lz a b R

theorem Todo.start {a b : Nat} {d : Array Int} (h : a ≤ b) (hb : b ≤ d.size) (hB : Below lz a b d) : Todo a b d a b d := ⟨h, hb, rfl, hB, fun _ h1 h2 => ⟨h1, h2⟩⟩

theorem below_perm {a b : Nat} {d d' : Array Int} (h : Below lz a b d) (hb : b ≤ d.size) (hp : PermIn a b d d') : Below lz a b d' := Below.perm h hb hp

theorem Todo.perm {a b : Nat} {d : Array Int} {p q : Nat} {e e' : Array Int} (h : Todo a b d p q e) (hp : PermIn p q e e') : Todo a b d p q e' := by
  obtain ⟨h1, h2, h3, h4, h5⟩ := h
  exact ⟨h1, by rw [hp.1]; exact h2, by rw [hp.1]; exact h3, below_perm h4 h2 hp, fun R hR hs => h5 R (permIn_trans _ _ _ _ _ hp hR) hs⟩

/-- What partition does. -/
structure PartR (a b : Nat) (d : Array Int) (mid : Nat) (d' : Array Int) : Prop where
  h1 : a ≤ mid
  h2 : mid < b
  perm : PermIn a b d d'
  lo : ∀ i, a ≤ i → i < mid → d'[i]! < d'[mid]!
  hi : ∀ i, mid < i → i < b → d'[mid]! ≤ d'[i]!

/-- What partitionEqual does. -/
structure PartE (a b : Nat) (d : Array Int) (x : Int) (mid : Nat) (d' : Array Int) : Prop where
  h1 : a < mid
  h2 : mid ≤ b
  perm : PermIn a b d d'
  lo : ∀ i, a ≤ i → i < mid → d'[i]! ≤ x
  hi : ∀ i, mid ≤ i → i < b → x < d'[i]!

theorem Todo.eq {a b : Nat} {d : Array Int} {p q pv mid : Nat} {e e' : Array Int} (h : Todo a b d p q e) (hp0 : 0 < p) (hle : e[pv]! ≤ e[p - 1]!) (hE : PartE p q e e[pv]! mid e') : Todo a b d mid q e' := by
  obtain ⟨h1, h2, h3, h4, h5⟩ := h
  have hge : ∀ i, p ≤ i → i < q → e[pv]! ≤ e[i]! := fun i hi hi' => by
    rcases h4 with h0 | h4
    · omega
    · have := lz_false.1 (h4 i hi hi'); omega
  have hge' := permIn_all e e' p q (fun x => e[pv]! ≤ x) h2 hE.perm hge
  have hs : q ≤ e'.size := by rw [hE.perm.1]; exact h2
  have hm1 := hE.h1
  have hm2 := hE.h2
  refine ⟨hm2, hs, by rw [hE.perm.1]; exact h3, .inr fun i hi hi' => ?_, fun R hR hsR => h5 R (permIn_trans _ _ _ _ _ hE.perm (permIn_mono _ _ mid q p q (by omega) (Nat.le_refl _) hs hR)) ?_⟩
  · rw [lz_false]
    have := hE.hi i hi hi'
    have := hE.lo (mid - 1) (by omega) (by omega)
    omega
  · have hgt := permIn_all e' R mid q (fun x => e[pv]! < x) hs hR hE.hi
    intro i j hi hij hj
    rw [lz_false]
    by_cases hjm : j < mid
    · rw [hR.2.1 i (.inl (by omega)), hR.2.1 j (.inl hjm)]
      have := hE.lo i hi (by omega)
      have := hge' j (by omega) hj
      omega
    · by_cases him : i < mid
      · rw [hR.2.1 i (.inl him)]
        have := hE.lo i hi him
        have := hgt j (by omega) hj
        omega
      · exact lz_false.1 (hsR i j (by omega) hij hj)

theorem PartR.below {p q mid : Nat} {e e' : Array Int} (hP : PartR p q e mid e') (h2 : q ≤ e.size) (hB : Below lz p q e) : Below lz p mid e' ∧ Below lz (mid + 1) q e' := by
  refine ⟨?_, .inr fun i hi hi' => ?_⟩
  · rcases below_perm hB h2 hP.perm with h0 | h
    · exact .inl h0
    · exact .inr fun i hi hi' => h i hi (by have := hP.h2; omega)
  · rw [lz_false, Nat.add_sub_cancel]; exact hP.hi i (by omega) hi'

theorem glue {p q mid : Nat} {R : Array Int} (hL : SortedIn lz p mid R) (hR : SortedIn lz (mid + 1) q R) (lo : ∀ i, p ≤ i → i < mid → R[i]! < R[mid]!) (hi : ∀ i, mid < i → i < q → R[mid]! ≤ R[i]!) : SortedIn lz p q R := by
  intro i j h1 hij h2
  rw [lz_false]
  by_cases hj : j < mid
  · exact lz_false.1 (hL i j h1 hij hj)
  · by_cases hjm : j = mid
    · subst hjm; have := lo i h1 hij; omega
    · by_cases him : mid < i
      · exact lz_false.1 (hR i j (by omega) hij h2)
      · by_cases hie : i = mid
        · subst hie; exact hi j (by omega) h2
        · have := lo i h1 (by omega)
          have := hi j (by omega) h2
          omega

/-- The left part is sorted first. -/
theorem Todo.left {a b : Nat} {d : Array Int} {p q mid : Nat} {e e' L : Array Int} (h : Todo a b d p q e) (hP : PartR p q e mid e') (hL : PermIn p mid e' L) (hsL : SortedIn lz p mid L) : Todo a b d (mid + 1) q L := by
  obtain ⟨h1, h2, h3, h4, h5⟩ := h
  have hm1 := hP.h1
  have hm2 := hP.h2
  have hs : q ≤ e'.size := by rw [hP.perm.1]; exact h2
  have hsl : q ≤ L.size := by rw [hL.1]; exact hs
  have keep : ∀ i, mid ≤ i → L[i]! = e'[i]! := fun i hi => hL.2.1 i (.inr hi)
  have loL := permIn_all e' L p mid (fun x => x < e'[mid]!) (by omega) hL hP.lo
  refine ⟨by omega, hsl, by rw [hL.1, hP.perm.1]; exact h3, .inr fun i hi hi' => ?_, fun R hR hsR => h5 R ?_ ?_⟩
  · rw [lz_false, Nat.add_sub_cancel, keep i (by omega), keep mid (Nat.le_refl _)]; exact hP.hi i (by omega) hi'
  · exact permIn_trans _ _ _ _ _ hP.perm (permIn_trans _ _ _ _ _ (permIn_mono _ _ p mid p q (Nat.le_refl _) (by omega) hs hL) (permIn_mono _ _ (mid + 1) q p q (by omega) (Nat.le_refl _) hsl hR))
  · have kR : ∀ i, i ≤ mid → R[i]! = L[i]! := fun i hi => hR.2.1 i (.inl (by omega))
    have hiR := permIn_all L R (mid + 1) q (fun x => e'[mid]! ≤ x) hsl hR (fun i hi hi' => by rw [keep i (by omega)]; exact hP.hi i (by omega) hi')
    refine glue (fun i j x y z => by rw [kR i (by omega), kR j (by omega)]; exact hsL i j x y z) hsR (fun i x y => ?_) (fun i x y => ?_)
    · rw [kR i (by omega), kR mid (Nat.le_refl _), keep mid (Nat.le_refl _)]; exact loL i x y
    · rw [kR mid (Nat.le_refl _), keep mid (Nat.le_refl _)]; exact hiR i (by omega) y

/-- The right part is sorted first. -/
theorem Todo.right {a b : Nat} {d : Array Int} {p q mid : Nat} {e e' L : Array Int} (h : Todo a b d p q e) (hP : PartR p q e mid e') (hL : PermIn (mid + 1) q e' L) (hsL : SortedIn lz (mid + 1) q L) : Todo a b d p mid L := by
  obtain ⟨h1, h2, h3, h4, h5⟩ := h
  have hm1 := hP.h1
  have hm2 := hP.h2
  have hs : q ≤ e'.size := by rw [hP.perm.1]; exact h2
  have hsl : q ≤ L.size := by rw [hL.1]; exact hs
  have keep : ∀ i, i ≤ mid → L[i]! = e'[i]! := fun i hi => hL.2.1 i (.inl (by omega))
  have hiL := permIn_all e' L (mid + 1) q (fun x => e'[mid]! ≤ x) hs hL (fun i hi hi' => hP.hi i (by omega) hi')
  refine ⟨by omega, by omega, by rw [hL.1, hP.perm.1]; exact h3, ?_, fun R hR hsR => h5 R ?_ ?_⟩
  · rcases (hP.below h2 h4).1 with h0 | hB
    · exact .inl h0
    · refine .inr fun i hi hi' => ?_
      rw [keep i (by omega), keep (p - 1) (by omega)]; exact hB i hi hi'
  · exact permIn_trans _ _ _ _ _ hP.perm (permIn_trans _ _ _ _ _ (permIn_mono _ _ (mid + 1) q p q (by omega) (Nat.le_refl _) hs hL) (permIn_mono _ _ p mid p q (Nat.le_refl _) (by omega) hsl hR))
  · have kR : ∀ i, mid ≤ i → R[i]! = L[i]! := fun i hi => hR.2.1 i (.inr hi)
    have loR := permIn_all L R p mid (fun x => x < e'[mid]!) (by omega) hR (fun i hi hi' => by rw [keep i (by omega)]; exact hP.lo i hi hi')
    refine glue hsR (fun i j x y z => by rw [kR i (by omega), kR j (by omega)]; exact hsL i j x y z) (fun i x y => ?_) (fun i x y => ?_)
    · rw [kR mid (Nat.le_refl _), keep mid (Nat.le_refl _)]; exact loR i x y
    · rw [kR i (by omega), kR mid (Nat.le_refl _), keep mid (Nat.le_refl _)]; exact hiL i (by omega) y
end Go.Proofs.Ytnnoicacpcahfaa
namespace Go.Proofs.Ytnnoicacpcahfaa
open Go Go.Sort
/-- Partition under way: what lies ahead of i is less than the pivot at a, what lies behind j isn't. -/
structure Mid (a b : Nat) (d f : Array Int) (i j : Nat) : Prop where
  perm : PermIn a b d f
  ai : a < i
  ij : i ≤ j + 1
  jb : j < b
  lo : ∀ k, a < k → k < i → f[k]! < f[a]!
  hi : ∀ k, j < k → k < b → f[a]! ≤ f[k]!
theorem Mid.start {a b : Nat} {d f : Array Int} (h : PermIn a b d f) (hab : a < b) : Mid a b d f (a + 1) (b - 1) := ⟨h, by omega, by omega, by omega, fun k h1 h2 => by omega, fun k h1 h2 => by omega⟩
theorem Mid.up {a b : Nat} {d f : Array Int} {i j : Nat} (h : Mid a b d f i j) (hij : i ≤ j) (hx : f[i]! < f[a]!) : Mid a b d f (i + 1) j :=
  ⟨h.perm, by have := h.ai; omega, by omega, h.jb, fun k h1 h2 => by
    by_cases e : k = i
    · rw [e]; exact hx
    · exact h.lo k h1 (by omega), h.hi⟩
theorem Mid.down {a b : Nat} {d f : Array Int} {i j : Nat} (h : Mid a b d f i j) (hij : i ≤ j) (hx : f[a]! ≤ f[j]!) : Mid a b d f i (j - 1) :=
  ⟨h.perm, h.ai, by omega, by have := h.jb; omega, h.lo, fun k h1 h2 => by
    by_cases e : k = j
    · rw [e]; exact hx
    · exact h.hi k (by omega) h2⟩
theorem Mid.swap {a b : Nat} {d f : Array Int} {i j : Nat} (h : Mid a b d f i j) (hij : i ≤ j) (hb : b ≤ f.size) (hx : f[a]! ≤ f[i]!) (hy : f[j]! < f[a]!) : i < j ∧ Mid a b d (Sort.swp f i j) (i + 1) (j - 1) := by
  have ha := h.ai
  have hj := h.jb
  have hne : i ≠ j := fun e => by rw [e] at hx; omega
  have g := swp_get f (show i < f.size by omega) (show j < f.size by omega)
  have gk : ∀ k, k ≠ i → k ≠ j → (Sort.swp f i j)[k]! = f[k]! := fun k h1 h2 => by rw [g]; simp [h1, h2]
  have gi : (Sort.swp f i j)[i]! = f[j]! := by rw [g]; simp [hne]
  have gj : (Sort.swp f i j)[j]! = f[i]! := by rw [g]; simp
  have ga := gk a (by omega) (by omega)
  refine ⟨by omega, permIn_trans _ _ _ _ _ h.perm (swp_permIn _ _ _ _ _ (by omega) (by omega) (by omega) (by omega) hb), by omega, by omega, by omega, fun k h1 h2 => ?_, fun k h1 h2 => ?_⟩
  · rw [ga]
    by_cases e : k = i
    · rw [e, gi]; exact hy
    · rw [gk k e (by omega)]; exact h.lo k h1 (by omega)
  · rw [ga]
    by_cases e : k = j
    · rw [e, gj]; exact hx
    · rw [gk k (by omega) e]; exact h.hi k (by omega) h2
theorem Mid.fin {a b : Nat} {d f : Array Int} {i j : Nat} (h : Mid a b d f i j) (hij : j < i) (hb : b ≤ f.size) : PartR a b d j (Sort.swp f j a) := by
  have ha := h.ai
  have hj := h.jb
  have h1 := h.ij
  have g := swp_get f (show j < f.size by omega) (show a < f.size by omega)
  have gk : ∀ k, k ≠ j → k ≠ a → (Sort.swp f j a)[k]! = f[k]! := fun k h1 h2 => by rw [g]; simp [h1, h2]
  have gj : (Sort.swp f j a)[j]! = f[a]! := by
    rw [g]
    by_cases e : j = a
    · subst e; simp
    · simp [e]
  have ga : (Sort.swp f j a)[a]! = f[j]! := by rw [g]; simp
  refine ⟨by omega, hj, permIn_trans _ _ _ _ _ h.perm (swp_permIn _ _ _ _ _ (by omega) hj (Nat.le_refl _) (by omega) hb), fun k h1 h2 => ?_, fun k h1 h2 => ?_⟩
  · rw [gj]
    by_cases e : k = a
    · rw [e, ga]; exact h.lo j (by omega) (by omega)
    · rw [gk k (by omega) e]; exact h.lo k (by omega) (by omega)
  · rw [gj, gk k (by omega) (by omega)]; exact h.hi k h1 h2
end Go.Proofs.Ytnnoicacpcahfaa
namespace Go.Proofs.Ytnnoicacpcahfaa
open Go Go.Sort
/-- partitionEqual under way. -/
structure MidE (a b : Nat) (d f : Array Int) (i j : Nat) : Prop where
  perm : PermIn a b d f
  ai : a < i
  ij : i ≤ j + 1
  jb : j < b
  lo : ∀ k, a < k → k < i → f[k]! ≤ f[a]!
  hi : ∀ k, j < k → k < b → f[a]! < f[k]!
theorem MidE.start {a b : Nat} {d f : Array Int} (h : PermIn a b d f) (hab : a < b) : MidE a b d f (a + 1) (b - 1) := ⟨h, by omega, by omega, by omega, fun k h1 h2 => by omega, fun k h1 h2 => by omega⟩
theorem MidE.up {a b : Nat} {d f : Array Int} {i j : Nat} (h : MidE a b d f i j) (hij : i ≤ j) (hx : f[i]! ≤ f[a]!) : MidE a b d f (i + 1) j :=
  ⟨h.perm, by have := h.ai; omega, by omega, h.jb, fun k h1 h2 => by
    by_cases e : k = i
    · rw [e]; exact hx
    · exact h.lo k h1 (by omega), h.hi⟩
theorem MidE.down {a b : Nat} {d f : Array Int} {i j : Nat} (h : MidE a b d f i j) (hij : i ≤ j) (hx : f[a]! < f[j]!) : MidE a b d f i (j - 1) :=
  ⟨h.perm, h.ai, by omega, by have := h.jb; omega, h.lo, fun k h1 h2 => by
    by_cases e : k = j
    · rw [e]; exact hx
    · exact h.hi k (by omega) h2⟩
theorem MidE.swap {a b : Nat} {d f : Array Int} {i j : Nat} (h : MidE a b d f i j) (hij : i ≤ j) (hb : b ≤ f.size) (hx : f[a]! < f[i]!) (hy : f[j]! ≤ f[a]!) : i < j ∧ MidE a b d (Sort.swp f i j) (i + 1) (j - 1) ∧ (Sort.swp f i j)[a]! = f[a]! := by
  have ha := h.ai
  have hj := h.jb
  have hne : i ≠ j := fun e => by rw [e] at hx; omega
  have g := swp_get f (show i < f.size by omega) (show j < f.size by omega)
  have gk : ∀ k, k ≠ i → k ≠ j → (Sort.swp f i j)[k]! = f[k]! := fun k h1 h2 => by rw [g]; simp [h1, h2]
  have gi : (Sort.swp f i j)[i]! = f[j]! := by rw [g]; simp [hne]
  have gj : (Sort.swp f i j)[j]! = f[i]! := by rw [g]; simp
  have ga := gk a (by omega) (by omega)
  refine ⟨by omega, ⟨permIn_trans _ _ _ _ _ h.perm (swp_permIn _ _ _ _ _ (by omega) (by omega) (by omega) (by omega) hb), by omega, by omega, by omega, fun k h1 h2 => ?_, fun k h1 h2 => ?_⟩, ga⟩
  · rw [ga]
    by_cases e : k = i
    · rw [e, gi]; exact hy
    · rw [gk k e (by omega)]; exact h.lo k h1 (by omega)
  · rw [ga]
    by_cases e : k = j
    · rw [e, gj]; exact hx
    · rw [gk k (by omega) e]; exact h.hi k (by omega) h2
theorem MidE.fin {a b : Nat} {d f : Array Int} {i j : Nat} (h : MidE a b d f i j) (hij : j < i) : PartE a b d f[a]! i f := by
  have ha := h.ai
  have hj := h.jb
  have h1 := h.ij
  refine ⟨ha, by omega, h.perm, fun k h1 h2 => ?_, fun k h1 h2 => h.hi k (by omega) h2⟩
  by_cases e : k = a
  · rw [e]; exact Int.le_refl _
  · exact h.lo k (by omega) h2
end Go.Proofs.Ytnnoicacpcahfaa
