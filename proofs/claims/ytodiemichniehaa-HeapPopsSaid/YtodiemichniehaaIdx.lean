/- slices.Contains at numbers: one that is not among them. -/
import Derived.Test.YtodiemichniehaaSets
namespace Go.Proofs.Ytodiemichniehaa
open Go.RowKit Go.Kx Go.Maps
set_option maxRecDepth 20000

abbrev nums (K : List Int) : List Value := K.map (Value.int .i64)
theorem int_info : ((Try.prog.info? 3).map fun i => (i.zero, i.size, i.bytes)) = some (some (.int .i64 0), 1, 8) := by kernel_rfl
theorem own_num {W : World} {base n cap : Nat} {A : Option Addr} {t : TypeId} {K : List Int} (hn : n = K.length) (h : W.ownsRow base t 1 (.slice A n cap) n (nums K)) {i : Nat} {e : Int} (hi : K[i]? = some e) :
    ∃ b, A = some ⟨b, 0, none⟩ ∧ b < W.heap.size ∧ W.cell? ⟨b, i, none⟩ = some (.int .i64 e) := by
  subst hn
  have hil : i < K.length := (List.getElem?_eq_some_iff.1 hi).1
  rcases h.2 with ⟨h1, h2⟩ | ⟨g, cap', cur, h1, hb, hg, _, _, _, hcur⟩
  · omega
  · injection h1 with hA _ _
    subst hA
    have hlt : g < W.heap.size := (Array.getElem?_eq_some_iff.1 hg).1
    refine ⟨g, rfl, hlt, ?_⟩
    rw [cell_of_row W g i cur t (0, 0) hg]
    have hj : (nums K)[i]? = some (.int .i64 e) := by simp [hi]
    rw [← hcur] at hj
    have hlt2 := (List.getElem?_eq_some_iff.1 hj).1
    rw [List.getElem?_take_of_lt (by simp at hlt2; omega)] at hj
    simpa using hj
theorem index_none {B : Nat} {w : World} {A : Option Addr} {c : Nat} {K : List Int} {x : Int} (hK : w.ownsRow B 3 1 (.slice A K.length c) K.length (nums K)) (hno : ∀ z ∈ K, z ≠ x) (hl : K.length ≤ 1048576) :
    Calls Try.prog 31 #[.slice A K.length c, .int .i64 x] w fun e w' => e = .returned (.int .i64 (-1)) ∧ Only [] w w' := by
  have HK := Lib.hid hK
  clear hK
  go_enter Try.func31, Try.ntmps31
  go_wp2_with (fail)
  go_loopw [8] (fun u wr => ∃ (i : Nat), u = .int .i64 i ∧ i ≤ K.length ∧ Only [] w wr) (fun u _ => K.length - (intOf u).toNat)
  case atStart => exact ⟨0, rfl, Nat.zero_le _, Only.refl _ _⟩
  case round =>
    obtain ⟨i, rfl, hi, ho⟩ := hrel
    by_cases hlt : i < K.length
    · have hit : K[i]? = some K[i] := List.getElem?_eq_getElem hlt
      have hne : K[i] ≠ x := hno _ (List.getElem_mem _)
      obtain ⟨p, rfl, pl, c0⟩ := own_num rfl (ownsRow_only ho HK.out (fun _ _ => by simp)) hit
      generalize K[i] = e at hne c0
      have iz0 : (0 : Int) ≤ (i : Int) := by omega
      have iz1 : (i : Int) < (K.length : Int) := by omega
      have hb : (x == e) = false := by simpa using Ne.symm hne
      have HO := Lib.hid ho
      clear ho hit hne hno
      go_wp2_with (fail)
      go_roundw
      case rel => exact ⟨i + 1, by go_num, by omega, HO.out⟩
      case measure => simp [intOf]; omega
    · have iz1 : ¬ (i : Int) < (K.length : Int) := by omega
      have HO := Lib.hid ho
      clear ho
      go_wp2_with (fail)
      go_ret
      exact ⟨rfl, HO.out⟩
theorem contains_none {B : Nat} {w : World} {A : Option Addr} {c : Nat} {K : List Int} {x : Int} (hK : w.ownsRow B 3 1 (.slice A K.length c) K.length (nums K)) (hno : ∀ z ∈ K, z ≠ x) (hl : K.length ≤ 1048576) :
    Calls Try.prog 23 #[.slice A K.length c, .int .i64 x] w fun e w' => e = .returned (.bool false) ∧ Only [] w w' := by
  have t := index_none hK hno hl
  clear hK hno
  go_enter Try.func23, Try.ntmps23
  go_wp2_with (fail)
  refine t.mono ?_
  clear t
  rintro e w1 ⟨rfl, o1⟩
  go_wp2_with (fail)
  go_ret
  exact ⟨rfl, o1⟩
end Go.Proofs.Ytodiemichniehaa
