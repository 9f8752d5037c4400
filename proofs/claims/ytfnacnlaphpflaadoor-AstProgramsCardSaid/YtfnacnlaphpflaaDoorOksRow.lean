/- AstPrograms: for every input the law answers true, and its arguments read as they did. Conditions: the listed tables hold what the program's text lays. -/
import Derived.Test.YtfnacnlaphpflaaDoorPrgs
import Derived.Test.YtfnacnlaphpflaaDoorDoor
namespace Go.Proofs.YtfnacnlaphpflaaDoor
open Go.ChangeShapes Go.WideShapes Go.ChangeAt Go.RowKit Go.Deep Go.Kx
set_option maxRecDepth 1000000

theorem progs_lifted (os : Os) (started : os.Started) (H : Type) (enc : TypeId × Value → H) :
    ReturnsInHanded {} Tryd.checked os 8 .any (fun w args => (Rows.astProgramsSpec.pre enc Tryd.prog Tryd.f8 [] false w args ∧ laidMetH Tryd.prog laidW w) ∧ sizedMet enc Tryd.prog Tryd.f8 (OpenSpec.ofChange Rows.astProgramsSpec) false w args)
      (Rows.astProgramsSpec.post enc Tryd.prog Tryd.f8 false true false false) := by
  refine law_lifted_laid (C := Tryd.checked) (tb := 4) ownK started (by kernel_rfl) Tryd.func8
    (ChangeSpec.witness_shaped (enc := enc) (C := Tryd.checked) (os := os) (X := fun w _ => laidMetH Tryd.prog laidW w) false (World.doorLaid Tryd.prog 200 os) #[.agg #[.slice none 0 0, .string ⟨#[]⟩]] 8 rfl (World.shaped_of_RefB (by kernel_rfl) (by kernel_rfl)) (by kernel_rfl) (by kernel_rfl) (by kernel_rfl) (door_metW os _))
    laidK (by kernel_rfl) (by kernel_rfl) Tryd.underlying4 rfl (fun ds h => by match ds, h with | [_], _ => rfl) ?_
  intro W base args ds ps hval0 hA0 hlt hsz hL
  have hval : ∀ (j : Nat) t v, Tryd.f8.params[j]? = some t → args[j]? = some v → Value.okWide Tryd.prog W .any base t v := hval0
  have hA : DataW.TrodAll enc Tryd.prog W 0 (fun _ => true) true Tryd.f8.params.toList args.toList ds ps := hA0
  rw [Tryd.params8] at hA hval
  obtain ⟨v0, d0, rfl, rfl, h0⟩ := trodAll_one hA
  obtain ⟨A0, c0, l0, s0, rfl, r0, k0⟩ := open_prog (hval 0 39 v0 rfl rfl) h0
  exact (progs_any r0 k0 (words_of_laid hL)).mono fun e W' ⟨he, ho⟩ => ⟨he, ho.below (Nat.le_refl _) (by simp)⟩

theorem progs_said : Rows.AstProgramsSaid :=
  OpenClaim.holds_of_wide 8 Tryd.f8 rfl rfl rfl rfl rfl rfl rfl ⟨rfl, rfl, rfl, rfl, rfl⟩ rfl rfl rfl rfl rfl (by kernel_rfl) Tryd.func8 (by kernel_rfl)
    (of_decide_eq_true (by kernel_rfl)) (by unfold Func.isWrapper; first | (rw [if_pos (by decide +kernel)]; kernel_rfl) | (rw [if_neg (by decide +kernel)]; exact ⟨rfl, rfl⟩))
    (fun os started H enc _ => progs_lifted os started H enc)

theorem progs_holds : Rows.AstProgramsCardSaid :=
  Claim7.holds_tied_plain_at .later [] [.data] true (true, "9c8efafc9d58b19ffc70a9d09af3fa2534371a64b891f9210ffb9bed5253d9c4") false
    progs_said (fun _ h => by cases h) (by kernel_rfl) (fun _ h => by cases h) astPrograms_row_tie rfl ⟨rfl, rfl⟩ (by kernel_rfl) rfl
    (fun f fn hf hfn => by
      obtain rfl : f = 8 := Option.some.inj ((show Tryd.prog.funcNamed "gavotte/gavottelaw09.AstPrograms" = some 8 by kernel_rfl).symm.trans hf) |>.symm
      obtain rfl : fn = Tryd.f8 := (Option.some.inj (Tryd.func8.symm.trans hfn)).symm
      exact ⟨by kernel_rfl, fun j t ht => by
        rw [Tryd.params8] at ht
        have hm : t ∈ [39] := by simpa using Array.mem_of_getElem? ht
        have hall : ([39].all fun u => !Tryd.prog.wantsStandIn u) = true := by kernel_rfl
        exact (show Tryd.prog.wantsStandIn t = false by simpa using List.all_eq_true.1 hall t hm)⟩)
    (by kernel_rfl)

end Go.Proofs.YtfnacnlaphpflaaDoor
