/- The law's awake of the image, walked. No condition. -/
import Derived.IntWalk
import Derived.Test.YtnnoicacpcahfaaImgNew
namespace Go.Proofs.Ytnnoicacpcahfaa
open Go.RowKit

theorem awake13_app : (Im.app ⟨List.replicate 3 ⟨false, 0, 0⟩, (List.range 2).map (newP 3 2), 1, 0⟩ ⟨1, 1, 0, 1, 0, []⟩).2 = 0 ∧
    (Im.app ⟨List.replicate 3 ⟨false, 0, 0⟩, (List.range 2).map (newP 3 2), 1, 0⟩ ⟨1, 1, 0, 1, 0, []⟩).1.pts[1]? = some ⟨1, 1, 0, [1, 2], [1, 2], []⟩ := by
  refine ⟨rfl, ?_⟩
  have h1 : newP 3 2 1 = ⟨-1, 0, 0, [1, 2], [1, 2], []⟩ := rfl
  have h2 : (Im.app ⟨List.replicate 3 ⟨false, 0, 0⟩, (List.range 2).map (newP 3 2), 1, 0⟩ ⟨1, 1, 0, 1, 0, []⟩).1.pts[1]? = some (joinP [⟨false, 0, 0⟩, ⟨true, 1, 0⟩, ⟨false, 0, 0⟩] 1 (newP 3 2 1)) := rfl
  rw [h2, h1]
  have h3 : joinP [⟨false, 0, 0⟩, ⟨true, 1, 0⟩, ⟨false, 0, 0⟩] 1 ⟨-1, 0, 0, [1, 2], [1, 2], []⟩ = elP [⟨false, 0, 0⟩, ⟨true, 1, 0⟩, ⟨false, 0, 0⟩] ⟨-1, 0, 0, [1, 2], [1, 2], []⟩ := by
    rw [joinP, if_pos (.inr ⟨by decide, by decide⟩)]
  rw [h3]
  have h4 : w64 (0 + 1) = 1 := IntWalk.wrap64_in _ (by omega)
  show some (Pl.mk (([1, 2] : List Int).find? (isUp [⟨false, 0, 0⟩, ⟨true, 1, 0⟩, ⟨false, 0, 0⟩]) |>.getD (-1)) (w64 (0 + 1)) 0 [1, 2] [1, 2] []) = _
  rw [h4]
  rfl

set_option maxRecDepth 100000 in
set_option maxHeartbeats 3200000 in
theorem awake13_walk (w : World) :
    Calls Try.prog 20 #[] w
      fun e w' => e = .returned (.bool true) ∧ Mods Nil w w' := by
  have hne : Calls Try.prog 18 #[.int .i64 3, .int .i64 2, .int .i64 2] w (fun e w' => NewPost w 3 2 2 e w') := imgNew_walk w 3 2 2 (by omega) (by omega) (by omega) (by omega) (by omega) (by omega)
  go_enter Try.func20, Try.ntmps20
  go_wp2_with fail
  refine hne.mono ?_
  rintro e w1 ⟨d, L, rfl, hI, hL, hA, hm1⟩
  clear hne
  have hap := apply_walk13 w1 d _ L 1 0 1 1 0 1 0 none 0 [] hI (by simp) (Sl.nil _ _ _) (by simp)
  rw [hL] at hap
  replace hI := Lib.hid hI
  replace hA := Lib.hid hA
  replace hL := Lib.hid hL
  go_wp2_with fail
  refine hap.mono ?_
  rintro e w2 ⟨he, hm2, L2, hI2, hL2⟩
  rw [awake13_app.1] at he
  subst he
  clear hap
  obtain ⟨p, hp, hpl⟩ : ∃ p, L2[1]? = some p ∧ p.pl = ⟨1, 1, 0, [1, 2], [1, 2], []⟩ := by
    have := awake13_app.2
    rw [← hL2, List.getElem?_map] at this
    exact Option.map_eq_some_iff.1 this
  have hpa := part_walk w2 d _ L2 _ _ 1 p hI2 hp
  have hm02 : Mods Nil w w2 := hm1.trans hm2 (fun i hi h => by have := hA.out i h; omega)
  clear hI2 hm1 hm2 hL2 hp
  rw [hpl] at hpa
  clear hpl
  replace hm02 := Lib.hid hm02
  go_wp2_with fail
  refine hpa.mono ?_
  clear hpa
  rintro e w3 ⟨ia, ic, ra, rc, ta, tc, rfl, -, -, -, hm3⟩
  have hm03 := Lib.hid (hm02.out.trans hm3 (fun _ _ h => h))
  clear hm3
  go_wp2
  go_ret
  exact ⟨rfl, hm03.out.alloc _⟩
end Go.Proofs.Ytnnoicacpcahfaa
