/- What the six listed variables hold. -/
import Derived.Test.YtghofiehkdhbeaaDoorLaid
import Derived.Test.YtghofiehkdhbeaaDoorWord
import Derived.Stop.LaidErr
import Derived.Lib.LaidTab
import Derived.ChangeMaps5
namespace Go.Proofs.YtghofiehkdhbeaaDoor
open Go.ChangeShapes Go.WideShapes Go.ChangeAt Go.RowKit Go.Deep Go.Kx
set_option maxRecDepth 1000000

theorem door_met6 (os : Os) (args : Array Value) : laidMetH Tryd.prog laid6 ((World.doorLaid Tryd.prog 300 os).forCall (fun _ _ => 0) ⟨#[], args, []⟩).memory :=
  laidMetH_of_parts3 (fuel := 8) (laidMet_of_run' 8 (by kernel_rfl) (by kernel_rfl)) (by kernel_rfl) (by kernel_rfl)
theorem star_err : "*" ++ "errors.errorString" = "*errors.errorString" := by decide
theorem row74 : ∀ u, Tryd.prog.typeName? 3 u = some "*errors.errorString" → u = 74 := fun u h =>
  typeName_ptr_named (nm := "errors.errorString") (by rw [star_err]; kernel_rfl) (by kernel_rfl) (by decide) u (by rw [star_err]; exact h)
/-- an array of texts that reads as the list holds its texts -/
theorem cells_of_texts {H : Type} {enc : TypeId × Value → H} {P : Program} {w : World} {base : Nat} {sp : Nat → Bool} {held : Bool} {fuel : Nat} {t e : TypeId} {n : Nat} {cs : List Value} {zs : List (List UInt8)} {p : List MemPlace}
    (ht : P.underlying t = some (.array n e)) (he : P.underlying e = some .string) (hce : P.cellsOf e = 1) (hct : P.cellsOf t = n)
    (h : DataW.trod enc P w base sp held fuel t cs = some (.agg (zs.map fun z => .lit (.string z)), p)) : cs = zs.map strV := by
  cases fuel with
  | zero => simp [DataW.trod] at h
  | succ fuel =>
    simp only [DataW.trod, ht, hce, hct, Nat.mul_one] at h
    split at h
    · rename_i hl
      obtain ⟨xs, hm, hx⟩ := Option.map_eq_some_iff.1 h
      have hxs : xs.map (·.1) = zs.map fun z => (DataW.lit (.string z) : DataW H) := by
        have := congrArg Prod.fst hx
        simpa using this
      have hxl : xs.length = n := by simpa using Lib.mapM_length hm
      have hzl : zs.length = n := by
        have := congrArg List.length hxs
        simp at this
        omega
      apply List.ext_getElem?
      intro i
      by_cases hi : i < n
      · obtain ⟨b, hb, hf⟩ := Lib.mapM_at hm i i (by simp [hi])
        obtain ⟨s, hc, rfl, _⟩ := DataW.trod_string he hf
        have h1 : cs[i]? = some (.string s) := by
          have := congrArg (·[0]?) hc
          simpa [List.getElem?_take, List.getElem?_drop] using this
        have h2 : (xs.map (·.1))[i]? = some (DataW.lit (.string s.data.toList) : DataW H) := by simp [hb]
        rw [hxs] at h2
        simp only [List.getElem?_map, Option.map_eq_some_iff, DataW.lit.injEq, Lit.string.injEq] at h2
        obtain ⟨z', hz', hzs⟩ := h2
        rw [h1, List.getElem?_map, hz', Option.map_some]
        congr 1
        unfold strV
        rw [hzs]
      · rw [List.getElem?_eq_none (by omega), List.getElem?_eq_none (by simp; omega)]
    · cases h
theorem tabs_of_laid {W : World} (hL : laidMetH Tryd.prog laid6 W) : Tabs W := by
  have hL2 : laidMet Tryd.prog laid6 W := hL
  have h4 := hL2.tail.tail.tail
  have h6 := h4.tail.tail
  refine ⟨?_, ?_⟩
  · obtain ⟨ps, ⟨g', t', cs, fuel, p, q, hg', ht', hvar, hd, _, _⟩, _⟩ := h6
    have hg : Tryd.prog.globalNamed "gavotte/token.marks" = some 0 := by kernel_rfl
    have hty : (Tryd.prog.globals[0]?).map (·.type) = some 49 := by kernel_rfl
    obtain rfl := Option.some.inj (hg.symm.trans hg')
    obtain rfl := Option.some.inj (hty.symm.trans ht')
    have hu : Tryd.prog.underlying 49 = some (.array 17 9) := by kernel_rfl
    have h9 : Tryd.prog.underlying 9 = some .string := by kernel_rfl
    have e : cs.toList = marksL.map strV := cells_of_texts (zs := marksL) hu h9 (by kernel_rfl) (by kernel_rfl) hd
    have e2 : cs = marksV := by
      apply Array.toList_inj.1
      rw [e]; rfl
    subst e2
    simp only [World.var?, hg, Option.bind_some] at hvar
    split at hvar
    · rename_i c t fr hh
      injection hvar with hvar
      subst hvar
      exact ⟨t, fr, hh⟩
    · cases hvar
  · obtain ⟨a, s, hv, _⟩ := laid_sentinel (g := 3) (ti := 53) (tp := 74) (te := 76) (ts := 9) h4 (by kernel_rfl) (by kernel_rfl) Tryd.underlying53 row74 Tryd.underlying74 Tryd.underlying76 rfl rfl Tryd.underlying9 (by kernel_rfl) (by kernel_rfl)
    have hg : Tryd.prog.globalNamed "strconv.ErrRange" = some 3 := by kernel_rfl
    simp only [World.var?, hg, Option.bind_some] at hv
    split at hv
    · rename_i c t fr hh
      injection hv with hv
      subst hv
      exact ⟨_, _, t, fr, hh⟩
    · cases hv
end Go.Proofs.YtghofiehkdhbeaaDoor
