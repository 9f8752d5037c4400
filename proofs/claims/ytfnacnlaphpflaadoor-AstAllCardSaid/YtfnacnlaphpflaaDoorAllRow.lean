/- AstAll: for every input the law answers true, and its arguments read as they did. Conditions: the listed tables hold what the program's text lays. -/
import Derived.Test.YtfnacnlaphpflaaDoorAll
import Derived.Test.YtfnacnlaphpflaaDoorDoor
namespace Go.Proofs.YtfnacnlaphpflaaDoor
open Go.ChangeShapes Go.WideShapes Go.ChangeAt Go.RowKit Go.Deep Go.Kx
set_option maxRecDepth 1000000

theorem alls_lifted (os : Os) (started : os.Started) (H : Type) (enc : TypeId × Value → H) :
    ReturnsInHanded {} Tryd.checked os 9 .any (fun w args => (Rows.astAllSpec.pre enc Tryd.prog Tryd.f9 [] false w args ∧ laidMetH Tryd.prog laidW w) ∧ sizedMet enc Tryd.prog Tryd.f9 (OpenSpec.ofChange Rows.astAllSpec) false w args)
      (Rows.astAllSpec.post enc Tryd.prog Tryd.f9 false true false false) := by
  refine law_lifted_laid (C := Tryd.checked) (tb := 4) ownK started (by kernel_rfl) Tryd.func9
    (ChangeSpec.witness_shaped (enc := enc) (C := Tryd.checked) (os := os) (X := fun w _ => laidMetH Tryd.prog laidW w) false (World.doorLaid Tryd.prog 200 os) #[.agg #[.slice none 0 0, .string ⟨#[]⟩], .int .u16 0] 8 rfl (World.shaped_of_RefB (by kernel_rfl) (by kernel_rfl)) (by kernel_rfl) (by kernel_rfl) (by kernel_rfl) (door_metW os _))
    laidK (by kernel_rfl) (by kernel_rfl) Tryd.underlying4 rfl (fun ds h => by match ds, h with | [_, _], _ => rfl) ?_
  intro W base args ds ps hval0 hA0 hlt hsz hL
  have hval : ∀ (j : Nat) t v, Tryd.f9.params[j]? = some t → args[j]? = some v → Value.okWide Tryd.prog W .any base t v := hval0
  have hA : DataW.TrodAll enc Tryd.prog W 0 (fun _ => true) true Tryd.f9.params.toList args.toList ds ps := hA0
  rw [Tryd.params9] at hA hval
  obtain ⟨v0, v1, d0, d1, p0, p1, rfl, rfl, rfl, h0, h1⟩ := trodAll_two hA
  obtain ⟨A0, c0, l0, s0, rfl, r0, k0⟩ := open_prog (hval 0 39 v0 rfl rfl) h0
  obtain ⟨z, rfl, rfl, rfl, wz⟩ := Go.ChangeShapes.open_int Tryd.underlying43 (hval 1 43 v1 rfl rfl) h1
  have hz : 0 ≤ z ∧ z ≤ 65535 := by simpa [Lit.wf, IntKind.min, IntKind.max, IntKind.signed, IntKind.bits] using wz
  exact (alls_any r0 k0 hz.1 hz.2 (words_of_laid hL)).mono fun e W' ⟨he, ho⟩ => ⟨he, ho.below (Nat.le_refl _) (by simp)⟩

theorem alls_said : Rows.AstAllSaid :=
  OpenClaim.holds_of_wide 9 Tryd.f9 rfl rfl rfl rfl rfl rfl rfl ⟨rfl, rfl, rfl, rfl, rfl⟩ rfl rfl rfl rfl rfl (by kernel_rfl) Tryd.func9 (by kernel_rfl)
    (of_decide_eq_true (by kernel_rfl)) (by unfold Func.isWrapper; first | (rw [if_pos (by decide +kernel)]; kernel_rfl) | (rw [if_neg (by decide +kernel)]; exact ⟨rfl, rfl⟩))
    (fun os started H enc _ => alls_lifted os started H enc)

theorem alls_holds : Rows.AstAllCardSaid :=
  Claim7.holds_tied_plain_at .later [] [.data] true (true, "9c8efafc9d58b19ffc70a9d09af3fa2534371a64b891f9210ffb9bed5253d9c4") false
    alls_said (fun _ h => by cases h) (by kernel_rfl) (fun _ h => by cases h) astAll_row_tie rfl ⟨rfl, rfl⟩ (by kernel_rfl) rfl
    (fun f fn hf hfn => by
      obtain rfl : f = 9 := Option.some.inj ((show Tryd.prog.funcNamed "gavotte/gavottelaw09.AstAll" = some 9 by kernel_rfl).symm.trans hf) |>.symm
      obtain rfl : fn = Tryd.f9 := (Option.some.inj (Tryd.func9.symm.trans hfn)).symm
      exact ⟨by kernel_rfl, fun j t ht => by
        rw [Tryd.params9] at ht
        have hm : t ∈ [39, 43] := by simpa using Array.mem_of_getElem? ht
        have hall : ([39, 43].all fun u => !Tryd.prog.wantsStandIn u) = true := by kernel_rfl
        exact (show Tryd.prog.wantsStandIn t = false by simpa using List.all_eq_true.1 hall t hm)⟩)
    (by kernel_rfl)

end Go.Proofs.YtfnacnlaphpflaaDoor
