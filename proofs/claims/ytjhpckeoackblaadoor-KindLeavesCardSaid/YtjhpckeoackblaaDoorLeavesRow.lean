/- KindLeaves: for every input the law answers true, and its arguments read as they did. Conditions: the listed tables hold what the program's text lays. -/
import Derived.Test.YtjhpckeoackblaaDoorLeaves

import Derived.Test.YtjhpckeoackblaaDoorDoor
namespace Go.Proofs.YtjhpckeoackblaaDoor
open Go.ChangeShapes Go.WideShapes Go.ChangeAt Go.RowKit Go.Deep Go.Kx
set_option maxRecDepth 1000000

theorem leaves_lifted (os : Os) (started : os.Started) (H : Type) (enc : TypeId × Value → H) :
    ReturnsInHanded {} Tryd.checked os 5 .any (fun w args => (Rows.kindLeavesSpec.pre enc Tryd.prog Tryd.f5 [] false w args ∧ laidMetH Tryd.prog laidW w) ∧ sizedMet enc Tryd.prog Tryd.f5 (OpenSpec.ofChange Rows.kindLeavesSpec) false w args)
      (Rows.kindLeavesSpec.post enc Tryd.prog Tryd.f5 false true false false) := by
  refine law_lifted_laid (C := Tryd.checked) (tb := 4) ownK started (by kernel_rfl) Tryd.func5
    (ChangeSpec.witness_shaped (enc := enc) (C := Tryd.checked) (os := os) (X := fun w _ => laidMetH Tryd.prog laidW w) false (World.doorLaid Tryd.prog 200 os) #[.int .u8 0, .int .i64 0, .string ⟨#[]⟩, .string ⟨#[]⟩, .agg #[.slice none 0 0, .slice none 0 0, .bool false, .slice none 0 0]] 8 rfl (World.shaped_of_RefB (by kernel_rfl) (by kernel_rfl)) (by kernel_rfl) (by kernel_rfl) (by kernel_rfl) (door_metW os _))
    laidK (by kernel_rfl) (by kernel_rfl) Tryd.underlying4 rfl (fun ds h => by match ds, h with | [_, _, _, _, _], _ => rfl) ?_
  intro W base args ds ps hval0 hA0 hlt hsz hL
  have hval : ∀ (j : Nat) t v, Tryd.f5.params[j]? = some t → args[j]? = some v → Value.okWide Tryd.prog W .any base t v := hval0
  have hA : DataW.TrodAll enc Tryd.prog W 0 (fun _ => true) true Tryd.f5.params.toList args.toList ds ps := hA0
  rw [Tryd.params5] at hA hval
  obtain ⟨v0, v1, v2, v3, v4, d0, d1, d2, d3, d4, p0, p1, p2, p3, p4, rfl, rfl, rfl, h0, h1, h2, h3, h4⟩ := trodAll_five hA
  obtain ⟨z, rfl, rfl, rfl, wz⟩ := Go.ChangeShapes.open_int Tryd.underlying5 (hval 0 5 v0 rfl rfl) h0
  have hz : 0 ≤ z ∧ z ≤ 255 := by simpa [Lit.wf, IntKind.min, IntKind.max, IntKind.signed, IntKind.bits] using wz
  obtain ⟨n, rfl, rfl, rfl, wn⟩ := Go.ChangeShapes.open_int Tryd.underlying3 (hval 1 3 v1 rfl rfl) h1
  have hnn : I64 n := by simpa [I64, Lit.wf, IntKind.min, IntKind.max, IntKind.signed, IntKind.bits] using wn
  obtain ⟨s, rfl, rfl, rfl, ws⟩ := Go.ChangeMaps.open_string Tryd.underlying9 (hval 2 9 v2 rfl rfl) h2
  obtain ⟨u, rfl, rfl, rfl, wu⟩ := Go.ChangeMaps.open_string Tryd.underlying9 (hval 3 9 v3 rfl rfl) h3
  obtain ⟨A1, c1, vars, A2, c2, ports, bag, A3, c3, of, rfl, hn⟩ := open_argN (hval 4 28 v4 rfl rfl) h4
  exact (leaves_law hz hnn (by unfold maxLen at ws; omega) (by unfold maxLen at wu; omega) hn (words_of_laid hL)).mono fun e W' ⟨he, ho⟩ => ⟨he, ho.below (Nat.le_refl _) (by simp)⟩

theorem leaves_said : Rows.KindLeavesSaid :=
  OpenClaim.holds_of_wide 5 Tryd.f5 rfl rfl rfl rfl rfl rfl rfl ⟨rfl, rfl, rfl, rfl, rfl⟩ rfl rfl rfl rfl rfl (by kernel_rfl) Tryd.func5 (by kernel_rfl)
    (of_decide_eq_true (by kernel_rfl)) (by unfold Func.isWrapper; first | (rw [if_pos (by decide +kernel)]; kernel_rfl) | (rw [if_neg (by decide +kernel)]; exact ⟨rfl, rfl⟩))
    (fun os started H enc _ => leaves_lifted os started H enc)

theorem leaves_holds : Rows.KindLeavesCardSaid :=
  Claim7.holds_tied_plain_at .later [] [.data] true (true, "76bd96c490b4bb4026a533bfab9887332ccd05f7bbca0b4cb600e4e8bc3d6325") false
    leaves_said (fun _ h => by cases h) (by kernel_rfl) (fun _ h => by cases h) kindLeaves_row_tie rfl ⟨rfl, rfl⟩ (by kernel_rfl) rfl
    (fun f fn hf hfn => by
      obtain rfl : f = 5 := Option.some.inj ((show Tryd.prog.funcNamed "gavotte/gavottelaw12.KindLeaves" = some 5 by kernel_rfl).symm.trans hf) |>.symm
      obtain rfl : fn = Tryd.f5 := (Option.some.inj (Tryd.func5.symm.trans hfn)).symm
      exact ⟨by kernel_rfl, fun j t ht => by
        rw [Tryd.params5] at ht
        have hm : t ∈ [5, 3, 9, 9, 28] := by simpa using Array.mem_of_getElem? ht
        have hall : ([5, 3, 9, 9, 28].all fun u => !Tryd.prog.wantsStandIn u) = true := by kernel_rfl
        exact (show Tryd.prog.wantsStandIn t = false by simpa using List.all_eq_true.1 hall t hm)⟩)
    (by kernel_rfl)

end Go.Proofs.YtjhpckeoackblaaDoor
