/- What the reference of layer 9 does, as plain functions; the cells of a list of batches. No condition. -/
import Derived.Test.YtnnoicacpcahfaaProdModel
namespace Go.Proofs.Ytnnoicacpcahfaa
open Go

theorem Bt.len (b : Bt) : b.cells.length = 9 := rfl

theorem btCells {w : World} {g off k n : Nat} {l : List Bt} {b : Bt} (h : ∀ j, j < n * 9 → w.cell? ⟨g, off + j, none⟩ = (l.flatMap Bt.cells)[j]?) (hn : l.length = n) (hb : l[k]? = some b) :
    w.cell? ⟨g, off + k * 9, none⟩ = some (.int .i64 b.base) ∧ w.cell? ⟨g, off + k * 9 + 1, none⟩ = some (.int .i64 b.ep) ∧ w.cell? ⟨g, off + k * 9 + 2, none⟩ = some (.int .u64 b.pid) ∧
    w.cell? ⟨g, off + k * 9 + 3, none⟩ = some (.int .i64 b.pe) ∧ w.cell? ⟨g, off + k * 9 + 4, none⟩ = some (.int .i64 b.sq) ∧ w.cell? ⟨g, off + k * 9 + 5, none⟩ = some (.bool b.txn) ∧
    w.cell? ⟨g, off + k * 9 + 6, none⟩ = some (.bool b.ctl) ∧ w.cell? ⟨g, off + k * 9 + 7, none⟩ = some (.bool b.com) ∧ w.cell? ⟨g, off + k * 9 + 8, none⟩ = some (.slice b.va b.vn b.vc) := by
  have hk : k < l.length := (List.getElem?_eq_some_iff.1 hb).1
  have key : ∀ j, j < 9 → w.cell? ⟨g, off + k * 9 + j, none⟩ = b.cells[j]? := fun j hj => by
    rw [Nat.add_assoc, h _ (by omega), flat_get Bt.cells Bt.len l k j b hb hj]
  exact ⟨key 0 (by omega), key 1 (by omega), key 2 (by omega), key 3 (by omega), key 4 (by omega), key 5 (by omega), key 6 (by omega), key 7 (by omega), key 8 (by omega)⟩

/-- What Known has found. -/
structure KSt where
  epoch : Int
  next : Int
  opn : Int
  is : Bool
def KSt.up (s : KSt) (b : Bt) : KSt := if s.is = false ∨ s.epoch < b.pe then ⟨b.pe, 0, s.opn, true⟩ else ⟨s.epoch, s.next, s.opn, true⟩
def KSt.on (s : KSt) (b : Bt) : KSt :=
  if b.ctl then ⟨s.epoch, s.next, -1, true⟩ else ⟨s.epoch, IntKind.i64.wrap (b.sq + b.vn), if b.txn && decide (s.opn < 0) then b.base else s.opn, true⟩
def kstep (pid : Int) (s : KSt) (b : Bt) : KSt := if b.pid ≠ pid ∨ pid = 0 then s else (s.up b).on b
def known (l : List Bt) (pid : Int) : KSt := l.foldl (kstep pid) ⟨0, 0, -1, false⟩
theorem known_snoc (l : List Bt) (b : Bt) (pid : Int) : known (l ++ [b]) pid = kstep pid (known l pid) b := by simp [known]
theorem known_take (l : List Bt) (k : Nat) (b : Bt) (pid : Int) (h : l[k]? = some b) : known (l.take (k + 1)) pid = kstep pid (known (l.take k) pid) b := by
  rw [List.take_add_one, h]; exact known_snoc _ _ _
def KSt.out (s : KSt) : Value := if s.is then .tuple #[.int .i64 s.epoch, .int .i64 s.next, .int .i64 s.opn, .bool true] else .tuple #[.int .i64 0, .int .i64 0, .int .i64 0, .bool false]
end Go.Proofs.Ytnnoicacpcahfaa
