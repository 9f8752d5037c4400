/- AstExprs: for every input the law answers true, and its arguments read as they did. Conditions: the listed tables hold what the program's text lays. -/
import Derived.Test.YtfnacnlaphpflaaDoorExps
import Derived.Test.YtfnacnlaphpflaaDoorDoor
namespace Go.Proofs.YtfnacnlaphpflaaDoor
open Go.ChangeShapes Go.WideShapes Go.ChangeAt Go.RowKit Go.Deep Go.Kx
set_option maxRecDepth 1000000

theorem exprs_lifted (os : Os) (started : os.Started) (H : Type) (enc : TypeId × Value → H) :
    ReturnsInHanded {} Tryd.checked os 6 .any (fun w args => (Rows.astExprsSpec.pre enc Tryd.prog Tryd.f6 [] false w args ∧ laidMetH Tryd.prog laidW w) ∧ sizedMet enc Tryd.prog Tryd.f6 (OpenSpec.ofChange Rows.astExprsSpec) false w args)
      (Rows.astExprsSpec.post enc Tryd.prog Tryd.f6 false true false false) := by
  refine law_lifted_laid (C := Tryd.checked) (tb := 4) ownK started (by kernel_rfl) Tryd.func6
    (ChangeSpec.witness_shaped (enc := enc) (C := Tryd.checked) (os := os) (X := fun w _ => laidMetH Tryd.prog laidW w) false (World.doorLaid Tryd.prog 200 os) #[.agg #[.int .i64 0, .int .i64 0, .string ⟨#[]⟩, .string ⟨#[]⟩, .slice none 0 0], .agg #[.int .i64 0, .int .i64 0, .string ⟨#[]⟩, .string ⟨#[]⟩, .slice none 0 0]] 8 rfl (World.shaped_of_RefB (by kernel_rfl) (by kernel_rfl)) (by kernel_rfl) (by kernel_rfl) (by kernel_rfl) (door_metW os _))
    laidK (by kernel_rfl) (by kernel_rfl) Tryd.underlying4 rfl (fun ds h => by match ds, h with | [_, _], _ => rfl) ?_
  intro W base args ds ps hval0 hA0 hlt hsz hL
  have hval : ∀ (j : Nat) t v, Tryd.f6.params[j]? = some t → args[j]? = some v → Value.okWide Tryd.prog W .any base t v := hval0
  have hA : DataW.TrodAll enc Tryd.prog W 0 (fun _ => true) true Tryd.f6.params.toList args.toList ds ps := hA0
  rw [Tryd.params6] at hA hval
  obtain ⟨v0, v1, d0, d1, p0, p1, rfl, rfl, rfl, h0, h1⟩ := trodAll_two hA
  obtain ⟨a, rfl, ha⟩ := open_expr (hval 0 24 v0 rfl rfl) h0
  obtain ⟨b, rfl, hb⟩ := open_expr (hval 1 24 v1 rfl rfl) h1
  exact (exprs_any ha hb (words_of_laid hL)).mono fun e W' ⟨he, ho⟩ => ⟨he, ho.below (Nat.le_refl _) (by simp)⟩

theorem exprs_said : Rows.AstExprsSaid :=
  OpenClaim.holds_of_wide 6 Tryd.f6 rfl rfl rfl rfl rfl rfl rfl ⟨rfl, rfl, rfl, rfl, rfl⟩ rfl rfl rfl rfl rfl (by kernel_rfl) Tryd.func6 (by kernel_rfl)
    (of_decide_eq_true (by kernel_rfl)) (by unfold Func.isWrapper; first | (rw [if_pos (by decide +kernel)]; kernel_rfl) | (rw [if_neg (by decide +kernel)]; exact ⟨rfl, rfl⟩))
    (fun os started H enc _ => exprs_lifted os started H enc)

theorem exprs_holds : Rows.AstExprsCardSaid :=
  Claim7.holds_tied_plain_at .later [] [.data] true (true, "9c8efafc9d58b19ffc70a9d09af3fa2534371a64b891f9210ffb9bed5253d9c4") false
    exprs_said (fun _ h => by cases h) (by kernel_rfl) (fun _ h => by cases h) astExprs_row_tie rfl ⟨rfl, rfl⟩ (by kernel_rfl) rfl
    (fun f fn hf hfn => by
      obtain rfl : f = 6 := Option.some.inj ((show Tryd.prog.funcNamed "gavotte/gavottelaw09.AstExprs" = some 6 by kernel_rfl).symm.trans hf) |>.symm
      obtain rfl : fn = Tryd.f6 := (Option.some.inj (Tryd.func6.symm.trans hfn)).symm
      exact ⟨by kernel_rfl, fun j t ht => by
        rw [Tryd.params6] at ht
        have hm : t ∈ [24, 24] := by simpa using Array.mem_of_getElem? ht
        have hall : ([24, 24].all fun u => !Tryd.prog.wantsStandIn u) = true := by kernel_rfl
        exact (show Tryd.prog.wantsStandIn t = false by simpa using List.all_eq_true.1 hall t hm)⟩)
    (by kernel_rfl)

end Go.Proofs.YtfnacnlaphpflaaDoor
