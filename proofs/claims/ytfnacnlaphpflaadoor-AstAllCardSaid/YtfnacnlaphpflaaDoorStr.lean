/- The words of the language; names. -/
import Derived.Test.YtfnacnlaphpflaaDoorWords
import Derived.Test.YtfnacnlaphpflaaDoorLaid
import Derived.Lib.LaidTab
import Derived.Laws.Rows
namespace Go.Proofs.YtfnacnlaphpflaaDoor
open Go.RowKit Go.Kx
set_option maxRecDepth 100000

def wordsL : List (List UInt8) := [[97, 116, 111, 109, 105, 99], [99, 111, 117, 112, 108, 101, 100], [114, 111, 111, 116], [105, 110], [111, 117, 116], [118, 97, 114], [116, 97], [101, 109, 105, 116], [105, 110, 116], [98, 111, 111, 108], [115, 121, 109], [101, 120, 116], [99, 111, 110], [112, 97, 114, 116], [108, 105, 110, 107], [114, 117, 108, 101], [97, 100, 100], [100, 114, 111, 112], [116, 105, 101], [99, 117, 116], [105, 102], [116, 104, 101, 110], [101, 108, 115, 101], [97, 110, 100], [111, 114], [110, 111, 116], [116, 114, 117, 101], [102, 97, 108, 115, 101], [99, 111, 117, 110, 116], [104, 97, 115], [115, 117, 109], [108, 101, 97, 115, 116], [101, 108, 97, 112, 115, 101, 100]]
def strV (l : List UInt8) : Value := .string ⟨l.toArray⟩
def wordsV : Array Value := (wordsL.map strV).toArray
theorem wordsV_size : wordsV.size = 33 := rfl
def WordsIs (W : World) : Prop := ∃ t fr, W.heap[0]? = some (.cells wordsV t fr)
theorem WordsIs.only {S : List Nat} {w w' : World} (h : WordsIs w) (o : Only S w w') (h0 : 0 ∉ S) : WordsIs w' := by
  obtain ⟨t, fr, h⟩ := h
  exact ⟨t, fr, (o.block 0 (Array.getElem?_eq_some_iff.1 h).1 h0).trans h⟩
theorem WordsIs.keep {w w' : World} (h : WordsIs w) (o : Only [] w w') : WordsIs w' := h.only o (by simp)
/-- an array of texts that reads as the list holds its texts -/
theorem cells_of_texts {H : Type} {enc : TypeId × Value → H} {P : Program} {w : World} {base : Nat} {sp : Nat → Bool} {held : Bool} {fuel : Nat} {t e : TypeId} {n : Nat} {cs : List Value} {zs : List (List UInt8)} {p : List MemPlace}
    (ht : P.underlying t = some (.array n e)) (he : P.underlying e = some .string) (hce : P.cellsOf e = 1) (hct : P.cellsOf t = n)
    (h : DataW.trod enc P w base sp held fuel t cs = some (.agg (zs.map fun z => .lit (.string z)), p)) : cs = zs.map strV := by
  cases fuel with
  | zero => simp [DataW.trod] at h
  | succ fuel =>
    simp only [DataW.trod, ht, hce, hct, Nat.mul_one] at h
    split at h
    · rename_i hl
      obtain ⟨xs, hm, hx⟩ := Option.map_eq_some_iff.1 h
      have hxs : xs.map (·.1) = zs.map fun z => (DataW.lit (.string z) : DataW H) := by
        have := congrArg Prod.fst hx
        simpa using this
      have hxl : xs.length = n := by simpa using Lib.mapM_length hm
      have hzl : zs.length = n := by
        have := congrArg List.length hxs
        simp at this
        omega
      apply List.ext_getElem?
      intro i
      by_cases hi : i < n
      · obtain ⟨b, hb, hf⟩ := Lib.mapM_at hm i i (by simp [hi])
        obtain ⟨s, hc, rfl, _⟩ := DataW.trod_string he hf
        have h1 : cs[i]? = some (.string s) := by
          have := congrArg (·[0]?) hc
          simpa [List.getElem?_take, List.getElem?_drop] using this
        have h2 : (xs.map (·.1))[i]? = some (DataW.lit (.string s.data.toList) : DataW H) := by simp [hb]
        rw [hxs] at h2
        simp only [List.getElem?_map, Option.map_eq_some_iff, DataW.lit.injEq, Lit.string.injEq] at h2
        obtain ⟨z', hz', hzs⟩ := h2
        rw [h1, List.getElem?_map, hz', Option.map_some]
        congr 1
        unfold strV
        rw [hzs]
      · rw [List.getElem?_eq_none (by omega), List.getElem?_eq_none (by simp; omega)]
    · cases h
theorem words_of_laid {W : World} (hL : laidMetH Tryd.prog laidW W) : WordsIs W := by
  have hL2 : laidMet Tryd.prog laidW W := hL
  obtain ⟨ps, ⟨g', t', cs, fuel, p, q, hg', ht', hvar, hd, _, _⟩, _⟩ := hL2
  have hg : Tryd.prog.globalNamed "gavotte/ast.words" = some 0 := by kernel_rfl
  have hty : (Tryd.prog.globals[0]?).map (·.type) = some 60 := by kernel_rfl
  obtain rfl := Option.some.inj (hg.symm.trans hg')
  obtain rfl := Option.some.inj (hty.symm.trans ht')
  have hu : Tryd.prog.underlying 60 = some (.array 33 9) := by kernel_rfl
  have h9 : Tryd.prog.underlying 9 = some .string := by kernel_rfl
  have e : cs.toList = wordsL.map strV := cells_of_texts (zs := wordsL) hu h9 (by kernel_rfl) (by kernel_rfl) hd
  have e2 : cs = wordsV := by
    apply Array.toList_inj.1
    rw [e]; rfl
  subst e2
  simp only [World.var?, hg, Option.bind_some] at hvar
  split at hvar
  · rename_i c t fr hh
    injection hvar with hvar
    subst hvar
    exact ⟨t, fr, hh⟩
  · cases hvar
def wordAt (k : Nat) : List UInt8 := wordsL.getD k []
theorem index_texts (L : List (List UInt8)) (hL : L.length = 33) (k : Nat) (h : k < 33) (w : World) : (Instr.index 60 (.agg (L.map strV).toArray) (.int .i64 (k : Int))).run Tryd.prog w = .ok (strV (L.getD k [])) w := by
  have hu : Tryd.prog.underlying 60 = some (.array 33 9) := by kernel_rfl
  have ha : (isAgg 9).run Tryd.prog w = .ok false w := by kernel_rfl
  have hs : (sizeOf 9).run Tryd.prog w = .ok 1 w := by kernel_rfl
  have hn : (0 : Int) ≤ (k : Int) ∧ (k : Int) < ((33 : Nat) : Int) := by omega
  have hk : (L.map strV).toArray[k]? = some (strV (L.getD k [])) := by
    rw [List.getElem?_toArray, List.getElem?_map, List.getD_eq_getElem?_getD, List.getElem?_eq_getElem (by omega)]
    rfl
  generalize (L.map strV).toArray = V at hk
  generalize strV (L.getD k []) = r at hk
  have hpart : (part 9 V k).run Tryd.prog w = .ok r w := by
    unfold part
    simp only [Sem.run_bind, ha, Result.andThen_ok, Bool.false_eq_true, if_false, hk, Sem.run_pure]
  have e : (Instr.index 60 (.agg V) (.int .i64 (k : Int))).run Tryd.prog w = ((do let __do_lift ← sizeOf 9; part 9 V ((k : Int).toNat * __do_lift)) : Sem Value).run Tryd.prog w := by
    unfold Instr.index
    rw [Sem.run_bind, show (asIntOf (.int .i64 (k : Int))).run Tryd.prog w = .ok (IntKind.i64, (k : Int)) w from rfl, Result.andThen_ok]
    dsimp only
    rw [Sem.run_bind, run_underlying hu, Result.andThen_ok]
    dsimp only
    rw [if_pos hn]
  rw [e, Sem.run_bind, hs, Result.andThen_ok, Int.toNat_natCast, Nat.mul_one]
  exact hpart
theorem word_index (k : Nat) (h : k < 33) (w : World) : (Instr.index 60 (.agg wordsV) (.int .i64 (k : Int))).run Tryd.prog w = .ok (strV (wordAt k)) w := index_texts wordsL rfl k h w
theorem take_contains (L : List (List UInt8)) (l : List UInt8) {k : Nat} (h : k < L.length) : (L.take (k + 1)).contains l = ((L.take k).contains l || L.getD k [] == l) := by
  rw [List.take_add_one, List.getElem?_eq_getElem h, List.getD_eq_getElem?_getD, List.getElem?_eq_getElem h, Option.getD_some, Option.toList_some]
  have e : ∀ (A : List (List UInt8)) (x : List UInt8), (A ++ [x]).contains l = (A.contains l || x == l) := fun A x => by
    induction A with
    | nil => rw [List.nil_append, List.contains_cons, List.contains_nil, Bool.or_false, Bool.false_or, BEq.comm]
    | cons a A ih => simp only [List.cons_append, List.contains_cons, ih, Bool.or_assoc]
  exact e _ _
/-- a word of the language -/
def resB (l : List UInt8) : Bool := wordsL.contains l
def resTo (k : Nat) (l : List UInt8) : Bool := (wordsL.take k).contains l
theorem resTo_zero (l : List UInt8) : resTo 0 l = false := rfl
theorem resTo_all (l : List UInt8) : resTo 33 l = resB l := rfl
theorem resTo_succ {k : Nat} (h : k < 33) (l : List UInt8) : resTo (k + 1) l = (resTo k l || wordAt k == l) :=
   take_contains wordsL l h
end Go.Proofs.YtfnacnlaphpflaaDoor
