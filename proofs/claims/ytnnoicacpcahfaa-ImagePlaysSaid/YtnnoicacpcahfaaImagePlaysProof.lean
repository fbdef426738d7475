/- ImagePlays: commands, one behind the other, answer what the document says, and behind each the image tells all that the document tells: the statement as given. No condition. -/
import Derived.Carry
import Derived.Test.YtnnoicacpcahfaaRow
import Derived.Test.YtnnoicacpcahfaaOpenCo
namespace Go.Proofs.Ytnnoicacpcahfaa
open Go.ChangeShapes Go.WideShapes Go.ChangeAt Go.RowKit

theorem u8Nat {n : Int} (h : (Lit.int .u8 n).wf = true) : ∃ a : Nat, a < 256 ∧ n = (a : Int) := by
  simp only [Lit.wf, Bool.and_eq_true, decide_eq_true_eq] at h
  have e0 : IntKind.min .u8 = 0 := by decide
  have e1 : IntKind.max .u8 = 255 := by decide
  rw [e0, e1] at h
  exact ⟨n.toNat, by omega, by omega⟩

set_option maxRecDepth 100000 in
theorem imagePlays_lifted (os : Os) (started : os.Started) (H : Type) (enc : TypeId × Value → H) :
    ReturnsInHanded {} Try.checked os 5 .any (Rows.imagePlaysSpec.pre6 enc Try.prog Try.f5 Rows.imagePlaysRow.domain false) (Rows.imagePlaysSpec.post enc Try.prog Try.f5 false true false false) := by
  refine returnsInHanded_of_change_sized (C := Try.checked) own started (by kernel_rfl) Try.func5
    (ChangeSpec.witness6 (enc := enc) (C := Try.checked) false ⟨#[], #[.int .u8 0, .int .u8 0, .int .u8 0, .slice none 0 0], []⟩ 8 (by kernel_rfl) (by kernel_rfl) (by kernel_rfl) (by kernel_rfl)) ?_
  intro W base args ds gs before hval0 hW hcnd hsz0 _
  have hval : ∀ (j : Nat) t v, Try.f5.params[j]? = some t → args[j]? = some v → Value.okWide Try.prog W .any base t v := hval0
  have hsz : (DataW.weightsEach Try.prog (Try.f5.params.toList ++ Rows.imagePlaysSpec.plain.varTypes Try.prog) (ds ++ gs)).all (· ≤ reachBytes) = true := hsz0
  have hW' := hW
  obtain ⟨p, q, hA0, hV, rfl, hfz, hnd⟩ := hW
  have hA : DataW.TrodAll enc Try.prog W 0 (fun _ => true) true Try.f5.params.toList args.toList ds p := hA0
  rw [Try.params5] at hA hval hsz
  obtain ⟨v0, v1, v2, v3, d0, d1, d2, d3, p0, p1, p2, p3, rfl, rfl, rfl, h0, h1, h2, h3⟩ := trodAll_four hA
  obtain ⟨rfl, rfl⟩ := trodVars_none hV
  obtain ⟨a, rfl, rfl, rfl, w0⟩ := open_int Try.underlying5 (hval 0 5 v0 rfl rfl) h0
  obtain ⟨b, rfl, rfl, rfl, w1⟩ := open_int Try.underlying5 (hval 1 5 v1 rfl rfl) h1
  obtain ⟨c, rfl, rfl, rfl, w2⟩ := open_int Try.underlying5 (hval 2 5 v2 rfl rfl) h2
  obtain ⟨la, ln, lc, rfl⟩ := okWide_slice Try.underlying52 (hval 3 52 v3 rfl rfl)
  obtain ⟨fuel, hf⟩ := id h3
  have hw : ∀ m ∈ d3.weights Try.prog 52, m ≤ reachBytes := fun m hm => by
    have := List.all_eq_true.1 hsz m (DataW.weights_mem_each (j := 3) rfl rfl m hm)
    simpa using this
  obtain ⟨l, rfl, hrd, hin, hn⟩ := openCos hf hw
  obtain ⟨a, ha, rfl⟩ := u8Nat w0
  obtain ⟨b, hb, rfl⟩ := u8Nat w1
  obtain ⟨c, hc, rfl⟩ := u8Nat w2
  clear hA0 hval0 hsz0
  simp only [List.append_nil] at hW'
  refine (imagePlays_walk W a b c la lc l ha hb hc hrd hin hn).mono fun e W' ⟨he, hm⟩ => ?_
  subst he
  have hlt : ∀ x ∈ p3, x.block < W.heap.size := fun x hx => hW'.lt x (by simpa using hx)
  have hb0 := Below.trod laidOut (by kernel_rfl) (of_decide_eq_true (by kernel_rfl)) h3 hm.below hlt
  have hargs := trodAll_mk4 (shut_int (enc := enc) (w := W') (base := 0) (spare := fun b => decide (b < W.heap.size)) (held := true) Try.underlying5 w0) (shut_int Try.underlying5 w1) (shut_int Try.underlying5 w2) hb0
  simp only [List.nil_append] at hargs hW'
  exact ⟨_, rfl, post_of_nil hW' hm (trodAll_mk1 (shut_bool Try.underlying4 true)) hargs rfl⟩

theorem imagePlays_holds : Rows.ImagePlaysSaid :=
  OpenClaim.holds_of_wide 5 Try.f5 rfl rfl rfl rfl rfl rfl rfl ⟨rfl, rfl, rfl, rfl, rfl⟩ rfl rfl rfl rfl rfl (by kernel_rfl) Try.func5 (by kernel_rfl)
    (of_decide_eq_true (by kernel_rfl)) (by unfold Func.isWrapper; first | (rw [if_pos (by decide +kernel)]; kernel_rfl) | (rw [if_neg (by decide +kernel)]; exact ⟨rfl, rfl⟩))
    (fun os started H enc _ => imagePlays_lifted os started H enc)
#print axioms imagePlays_holds
end Go.Proofs.Ytnnoicacpcahfaa
