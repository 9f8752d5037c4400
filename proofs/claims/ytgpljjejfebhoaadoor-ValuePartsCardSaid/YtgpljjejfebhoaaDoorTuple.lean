/- Texts: tuple. -/
import Derived.Test.YtgpljjejfebhoaaDoorEachS
namespace Go.Proofs.YtgpljjejfebhoaaDoor
open Go.RowKit Go.Kx Go.Val
set_option maxRecDepth 100000
theorem str_app (a b : Array UInt8) : (⟨a⟩ : ByteArray) ++ ⟨b⟩ = ⟨a ++ b⟩ := by
  apply ByteArray.ext
  simp
theorem only_of_below {w w' : World} (h : Below w.heap.size w w') : Only [] w w' := ⟨h.1, h.2, h.3, h.4, fun k hk _ => h.5 k hk⟩
theorem tupS_one (a : List UInt8) : tupS [a] = 40 :: (a ++ [44, 41]) := rfl
theorem tupS_more {ls : List (List UInt8)} (h : ls.length ≠ 1) : tupS ls = 40 :: (joinS ls ++ [41]) := by unfold tupS; rw [if_neg h]
set_option maxHeartbeats 2000000 in
theorem tuple_any {w : World} {b n : Nat} {ls : List (List UInt8)} (hb : Blk w b 9 (ls.map strV).toArray) (hn : ls.length = n) (h1 : 1 ≤ n) (h4 : n ≤ 1000) (hbl : (joinS ls).length ≤ 1000000) :
    Calls Tryd.prog 51 #[.slice (some ⟨b, 0, none⟩) n n] w fun r w' => r = .returned (strV (tupS ls)) ∧ Only [] w w' := by
  by_cases hn1 : n = 1
  · subst hn1
    obtain ⟨a, rfl⟩ := List.length_eq_one_iff.1 hn
    have c0 : w.cell? ⟨b, 0, none⟩ = some (.string ⟨a.toArray⟩) := hb.cell 0
    have bl := hb.lt
    have hal : a.length ≤ 1000000 := hbl
    have HE := Lib.hid (show strV (tupS [a]) = .string (((⟨#[40]⟩ : ByteArray) ++ ⟨a.toArray⟩) ++ ⟨#[44, 41]⟩) by
      rw [tupS_one]
      unfold strV
      rw [str_app, str_app]
      congr 2
      apply Array.ext'
      simp)
    rw [HE.out]
    clear hb hn hbl
    go_enter Tryd.func51, Tryd.ntmps51
    go_wp2_with (fail)
    go_ret
    exact ⟨rfl, Only.refl _ _⟩
  · have hl1 : ls.length ≠ 1 := by omega
    have d1 : ((n : Int) == 1) = false := beq_eq_false_iff_ne.2 (by omega)
    obtain ⟨xs, hxs⟩ : ∃ xs : List ByteArray, xs = ls.map (fun s => ⟨s.toArray⟩) := ⟨_, rfl⟩
    have hm : xs.map (·.data.toList) = ls := by
      rw [hxs, List.map_map]
      have e : ((fun x : ByteArray => x.data.toList) ∘ fun s : List UInt8 => (⟨s.toArray⟩ : ByteArray)) = id := by funext s; simp
      rw [e, List.map_id]
    have hxl : xs.length = n := by rw [hxs, List.length_map, hn]
    have hsep : (⟨#[44, 32]⟩ : ByteArray).data.toList = [44, 32] := rfl
    have hJ := Tryd.strings_Join b 0 n xs ⟨#[44, 32]⟩ w (by
      intro j x hj
      rw [Nat.zero_add]
      have h := hb.cell j
      rw [h, List.getElem?_toArray, List.getElem?_map]
      rw [hxs, List.getElem?_map] at hj
      cases hl : ls[j]? with
      | none => rw [hl] at hj; cases hj
      | some s => rw [hl] at hj; cases hj; rfl) hb.lt (by omega) (by omega) (by rw [hm, hsep, join_eq]; omega)
    rw [hm, hsep, join_eq, hxl] at hJ
    have HJ := Lib.hid hJ
    have HE := Lib.hid (show strV (tupS ls) = .string (((⟨#[40]⟩ : ByteArray) ++ ⟨(joinS ls).toArray⟩) ++ ⟨#[41]⟩) by
      rw [tupS_more hl1]
      unfold strV
      rw [str_app, str_app]
      congr 2
      apply Array.ext'
      simp)
    rw [HE.out]
    obtain ⟨t, ht⟩ : ∃ t, joinS ls = t := ⟨_, rfl⟩
    rw [ht] at HJ hbl ⊢
    clear hb hn hJ hm hxs hxl hsep hn1 hl1 ht HE
    go_enter Tryd.func51, Tryd.ntmps51
    go_wp2_with (fail)
    refine HJ.out.mono ?_
    rintro e w2 ⟨rfl, o2⟩
    have HO2 := Lib.hid (only_of_below o2)
    clear o2
    go_wp2_with (fail)
    go_ret
    exact ⟨rfl, HO2.out⟩
end Go.Proofs.YtgpljjejfebhoaaDoor
