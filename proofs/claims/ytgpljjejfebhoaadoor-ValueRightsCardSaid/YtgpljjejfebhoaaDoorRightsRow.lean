/- ValueRights: for every input the law answers true, and its arguments read as they did. Conditions: the listed tables hold what the program's text lays. -/
import Derived.Test.YtgpljjejfebhoaaDoorRights
import Derived.Test.YtgpljjejfebhoaaDoorDoor
namespace Go.Proofs.YtgpljjejfebhoaaDoor
open Go.ChangeShapes Go.WideShapes Go.ChangeAt Go.RowKit Go.Deep Go.Kx
set_option maxRecDepth 1000000

theorem rights_lifted (os : Os) (started : os.Started) (H : Type) (enc : TypeId × Value → H) :
    ReturnsInHanded {} Tryd.checked os 5 .any (fun w args => (Rows.valueRightsSpec.pre enc Tryd.prog Tryd.f5 [] false w args ∧ laidMetH Tryd.prog laid3 w) ∧ sizedMet enc Tryd.prog Tryd.f5 (OpenSpec.ofChange Rows.valueRightsSpec) false w args)
      (Rows.valueRightsSpec.post enc Tryd.prog Tryd.f5 false true false false) := by
  refine law_lifted_laid (C := Tryd.checked) (tb := 4) ownK started (by kernel_rfl) Tryd.func5
    (ChangeSpec.witness_shaped (enc := enc) (C := Tryd.checked) (os := os) (X := fun w _ => laidMetH Tryd.prog laid3 w) false (World.doorLaid Tryd.prog 110 os) #[.agg #[.int .i64 0, .int .i64 0, .string ⟨#[]⟩, .slice none 0 0]] 8 rfl (World.shaped_of_RefB (by kernel_rfl) (by kernel_rfl)) (by kernel_rfl) (by kernel_rfl) (by kernel_rfl) (door_met3 os _))
    laidK (by kernel_rfl) (by kernel_rfl) Tryd.underlying4 rfl (fun ds h => by match ds, h with | [_], _ => rfl) ?_
  intro W base args ds ps hval0 hA0 hlt hsz hL
  have hval : ∀ (j : Nat) t v, Tryd.f5.params[j]? = some t → args[j]? = some v → Value.okWide Tryd.prog W .any base t v := hval0
  have hA : DataW.TrodAll enc Tryd.prog W 0 (fun _ => true) true Tryd.f5.params.toList args.toList ds ps := hA0
  rw [Tryd.params5] at hA hval
  obtain ⟨v0, d0, rfl, rfl, h0⟩ := trodAll_one hA
  obtain ⟨a, rfl, ha⟩ := open_argV (hval 0 34 v0 rfl rfl) h0
  exact (rights_any ha (tab_of_laid hL)).mono fun e W' ⟨he, ho⟩ => ⟨he, ho.below (Nat.le_refl _) (by simp)⟩

theorem rights_said : Rows.ValueRightsSaid :=
  OpenClaim.holds_of_wide 5 Tryd.f5 rfl rfl rfl rfl rfl rfl rfl ⟨rfl, rfl, rfl, rfl, rfl⟩ rfl rfl rfl rfl rfl (by kernel_rfl) Tryd.func5 (by kernel_rfl)
    (of_decide_eq_true (by kernel_rfl)) (by unfold Func.isWrapper; first | (rw [if_pos (by decide +kernel)]; kernel_rfl) | (rw [if_neg (by decide +kernel)]; exact ⟨rfl, rfl⟩))
    (fun os started H enc _ => rights_lifted os started H enc)

theorem rights_holds : Rows.ValueRightsCardSaid :=
  Claim7.holds_tied_plain_at .later [] [.data, .data, .data] true (true, "c261f324c0aea6cedfcceec41e8679341dc76fa21036c178f3da8a59c51290f8") false
    rights_said (fun _ h => by cases h) (by kernel_rfl) (fun _ h => by cases h) valueRights_row_tie rfl ⟨rfl, rfl⟩ (by kernel_rfl) rfl
    (fun f fn hf hfn => by
      obtain rfl : f = 5 := Option.some.inj ((show Tryd.prog.funcNamed "gavotte/gavottelaw02.ValueRights" = some 5 by kernel_rfl).symm.trans hf) |>.symm
      obtain rfl : fn = Tryd.f5 := (Option.some.inj (Tryd.func5.symm.trans hfn)).symm
      exact ⟨by kernel_rfl, fun j t ht => by
        rw [Tryd.params5] at ht
        have hm : t ∈ [34] := by simpa using Array.mem_of_getElem? ht
        have hall : ([34].all fun u => !Tryd.prog.wantsStandIn u) = true := by kernel_rfl
        exact (show Tryd.prog.wantsStandIn t = false by simpa using List.all_eq_true.1 hall t hm)⟩)
    (by kernel_rfl)

end Go.Proofs.YtgpljjejfebhoaaDoor
