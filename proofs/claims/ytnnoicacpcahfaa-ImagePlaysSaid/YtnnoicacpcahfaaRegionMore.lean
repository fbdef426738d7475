/- A drawn region: guarded operations that are carried out. No condition. -/
import Derived.Test.YtnnoicacpcahfaaRegion
namespace Go.Proofs.Ytnnoicacpcahfaa
open Go
section
variable {P : Program} {l : List Oper} {Q : Exit → Act → World → Prop} {S : World → Prop} {a : Act} {w : World} {i : Nat} {rest : List (Kind × Nat)} {o : Oper}
theorem reg_ben_on (ho : l[i]? = some o) (hg : Region.wanted o (yielded l.toArray a.tmps) = true)
    (h : ∀ K : Act → World → Prop, (∀ a' w', S w' → wpReg P l Q S rest a' w' → K a' w') → o.wp P a w K Q) : wpReg P l Q S ((.ben, i) :: rest) a w := by
  refine ⟨o, ho, ?_⟩
  dsimp only
  rw [if_pos hg]
  exact .inl (h _ fun _ _ h1 h2 => ⟨h1, h2⟩)
theorem reg_eff_on (ho : l[i]? = some o) (hg : Region.wanted o (yielded l.toArray a.tmps) = true)
    (h : ∀ K : Act → World → Prop, (∀ a' w', wpReg P l Q S rest a' w' → K a' w') → o.wp P a w K Q) : wpReg P l Q S ((.eff, i) :: rest) a w := by
  refine ⟨o, ho, ?_⟩
  dsimp only
  rw [if_pos hg]
  exact .inl (h _ fun _ _ h => h)
/-- Its guard says no: nothing happens. -/
theorem reg_ben_off (ho : l[i]? = some o) (hg : Region.wanted o (yielded l.toArray a.tmps) = false)
    (h : wpReg P l Q S rest (a.put o.dst undef) w) : wpReg P l Q S ((.ben, i) :: rest) a w := by
  refine ⟨o, ho, ?_⟩
  dsimp only
  rw [if_neg (by rw [hg]; decide)]
  exact h
end
end Go.Proofs.Ytnnoicacpcahfaa
