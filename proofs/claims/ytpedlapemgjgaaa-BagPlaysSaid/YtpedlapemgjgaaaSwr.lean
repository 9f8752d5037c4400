/- swapRange, rotate. -/
import Derived.Test.YtpedlapemgjgaaaMem
import Derived.BigRegion
namespace Go.Proofs.Ytpedlapemgjgaaa
open Go.RowKit Go.Kx Go.Bag
set_option maxRecDepth 100000

section
variable {α : Type}
def swL (P X Y Z S : List α) (t : Nat) : List α := P ++ ((Z.take t ++ X.drop t) ++ (Y ++ ((X.take t ++ Z.drop t) ++ S)))
theorem swL_zero (P X Y Z S : List α) : swL P X Y Z S 0 = P ++ (X ++ (Y ++ (Z ++ S))) := by simp [swL]
theorem swL_end {P X Y Z S : List α} {k : Nat} (hX : X.length = k) (hZ : Z.length = k) : swL P X Y Z S k = P ++ (Z ++ (Y ++ (X ++ S))) := by
  unfold swL
  rw [List.take_of_length_le (by omega), List.drop_of_length_le (by omega), List.take_of_length_le (by omega), List.drop_of_length_le (by omega)]
  simp
theorem swL_step {P X Y Z S : List α} {k t : Nat} (hX : X.length = k) (hZ : Z.length = k) (ht : t < k) :
    ∃ x z, (swL P X Y Z S t)[P.length + t]? = some x ∧ (swL P X Y Z S t)[P.length + k + Y.length + t]? = some z ∧ swap (swL P X Y Z S t) (P.length + t) (P.length + k + Y.length + t) x z = swL P X Y Z S (t + 1) := by
  have hx : X.drop t = X[t] :: X.drop (t + 1) := List.drop_eq_getElem_cons (by omega)
  have hz : Z.drop t = Z[t] :: Z.drop (t + 1) := List.drop_eq_getElem_cons (by omega)
  have hx2 : X.take (t + 1) = X.take t ++ [X[t]] := List.take_succ_eq_append_getElem (by omega)
  have hz2 : Z.take (t + 1) = Z.take t ++ [Z[t]] := List.take_succ_eq_append_getElem (by omega)
  have e : swL P X Y Z S t = (P ++ Z.take t) ++ X[t] :: ((X.drop (t + 1) ++ (Y ++ X.take t)) ++ Z[t] :: (Z.drop (t + 1) ++ S)) := by
    unfold swL
    rw [hx, hz]
    simp only [List.append_assoc, List.cons_append]
  have e2 : swL P X Y Z S (t + 1) = (P ++ Z.take t) ++ Z[t] :: ((X.drop (t + 1) ++ (Y ++ X.take t)) ++ X[t] :: (Z.drop (t + 1) ++ S)) := by
    unfold swL
    rw [hx2, hz2]
    simp only [List.append_assoc, List.cons_append, List.nil_append]
  have l1 : (P ++ Z.take t).length = P.length + t := by simp; omega
  have l2 : (P ++ Z.take t).length + 1 + (X.drop (t + 1) ++ (Y ++ X.take t)).length = P.length + k + Y.length + t := by simp; omega
  refine ⟨X[t], Z[t], ?_, ?_, ?_⟩
  · rw [e, ← l1, List.getElem?_append_right (Nat.le_refl _), Nat.sub_self]
    rfl
  · rw [e, ← l2, List.getElem?_append_right (by omega)]
    have e3 : (P ++ Z.take t).length + 1 + (X.drop (t + 1) ++ (Y ++ X.take t)).length - (P ++ Z.take t).length = (X.drop (t + 1) ++ (Y ++ X.take t)).length + 1 := by omega
    rw [e3, List.getElem?_cons_succ, List.getElem?_append_right (Nat.le_refl _), Nat.sub_self]
    rfl
  · rw [e2, ← l2, ← l1, e, swap_mid]
end
set_option maxHeartbeats 4000000 in
theorem swrI (P X Y Z S : List Int) {w : World} {B b cap n k : Nat} (cv : Value) (hX : X.length = k) (hZ : Z.length = k) (hlen : (P ++ (X ++ (Y ++ (Z ++ S)))).length = n) (hn : n ≤ 1000000) (how : w.ownsRow B 3 1 (.slice (some ⟨b, 0, none⟩) n cap) n (flat1 (P ++ (X ++ (Y ++ (Z ++ S)))))) {a bb : Nat} (ha : P.length = a) (hb : P.length + k + Y.length = bb) :
    Calls Try.prog 60 #[.slice (some ⟨b, 0, none⟩) n cap, .int .i64 a, .int .i64 bb, .int .i64 k, cv] w fun e w' => e = .returned (.tuple #[]) ∧ w'.ownsRow B 3 1 (.slice (some ⟨b, 0, none⟩) n cap) n (flat1 (P ++ (Z ++ (Y ++ (X ++ S))))) ∧ Only [b] w w' := by
  have hbn : bb + k ≤ n := by rw [← hlen, ← hb]; simp; omega
  have hab : a + k ≤ bb := by omega
  have HSTEP := Lib.hid (show ∀ t, t < k → ∃ x z, (swL P X Y Z S t)[a + t]? = some x ∧ (swL P X Y Z S t)[bb + t]? = some z ∧ swap (swL P X Y Z S t) (a + t) (bb + t) x z = swL P X Y Z S (t + 1) from fun t ht => by rw [← hb, ← ha]; exact swL_step hX hZ ht)
  have HLEN := Lib.hid (show ∀ t, t ≤ k → (swL P X Y Z S t).length = n from fun t ht => by rw [← hlen]; unfold swL; simp; omega)
  have HEND := Lib.hid (swL_end (P := P) (Y := Y) (S := S) hX hZ)
  have HOW := Lib.hid (show w.ownsRow B 3 1 (.slice (some ⟨b, 0, none⟩) n cap) n (flat1 (swL P X Y Z S 0)) by rw [swL_zero]; exact how)
  clear how hX hZ hlen ha hb
  go_enter Try.func60, Try.ntmps60
  go_wp2_with (fail)
  go_loopw [10] (fun i wr => ∃ t : Nat, i = .int .i64 t ∧ t ≤ k ∧ Hid (wr.ownsRow B 3 1 (.slice (some ⟨b, 0, none⟩) n cap) n (flat1 (swL P X Y Z S t))) ∧ Hid (Only [b] w wr)) (fun i _ => k - (intOf i).toNat)
  case atStart => exact ⟨0, rfl, Nat.zero_le _, HOW, Lib.hid (Only.refl _ _)⟩
  case round =>
    obtain ⟨t, rfl, ht, HOQ, HO⟩ := hrel
    by_cases hlt : t < k
    · obtain ⟨x, z, hxi, hzj, hsw⟩ := HSTEP.out t hlt
      have hlen := HLEN.out t ht
      have HOWQ := HOQ.out
      obtain ⟨b', hA, hb, -, ci⟩ := own_cell1 hlen.symm HOWQ hxi
      cases hA
      obtain ⟨b', hA, -, -, cj⟩ := own_cell1 hlen.symm HOWQ hzj
      cases hA
      have fi := own_frozen HOWQ (a + t)
      have fj := own_frozen HOWQ (bb + t)
      have hns := own_swap1 (i := a + t) (j := bb + t) (x := x) (z := z) HOWQ
      have i0 : (0 : Int) ≤ (a : Int) + (t : Int) := by omega
      have j0 : (0 : Int) ≤ (bb : Int) + (t : Int) := by omega
      have i1 : (a : Int) + (t : Int) < (n : Int) := by omega
      have j1 : (bb : Int) + (t : Int) < (n : Int) := by omega
      have i2 : ((a : Int) + (t : Int)).toNat = a + t := by omega
      have j2 : ((bb : Int) + (t : Int)).toNat = bb + t := by omega
      rw [hsw] at hns
      have HNS := Lib.hid hns
      clear hxi hzj hsw hlen HOWQ hns
      go_wp2_with (fail)
      go_region
      go_wp2_with (fail)
      go_roundw
      case rel => exact ⟨t + 1, by go_num, by omega, HNS, Lib.hid ((HO.out.setCell (.inl (by simp)) _).setCell (.inl (by simp)) _).drew⟩
      case measure => simp [intOf]; omega
    · obtain rfl : t = k := by omega
      go_wp2_with (fail)
      go_end0
      exact ⟨rfl, by rw [← HEND.out]; exact HOQ.out, HO.out⟩
set_option maxHeartbeats 4000000 in
theorem swrJ (P X Y Z S : List Ent) {w : World} {B b cap n k : Nat} (cv : Value) (hX : X.length = k) (hZ : Z.length = k) (hlen : (P ++ (X ++ (Y ++ (Z ++ S)))).length = n) (hn : n ≤ 1000000) (how : w.ownsRow B 49 2 (.slice (some ⟨b, 0, none⟩) n cap) n (flat2 (P ++ (X ++ (Y ++ (Z ++ S)))))) {a bb : Nat} (ha : P.length = a) (hb : P.length + k + Y.length = bb) :
    Calls Try.prog 59 #[.slice (some ⟨b, 0, none⟩) n cap, .int .i64 a, .int .i64 bb, .int .i64 k, cv] w fun e w' => e = .returned (.tuple #[]) ∧ w'.ownsRow B 49 2 (.slice (some ⟨b, 0, none⟩) n cap) n (flat2 (P ++ (Z ++ (Y ++ (X ++ S))))) ∧ Only [b] w w' := by
  have hbn : bb + k ≤ n := by rw [← hlen, ← hb]; simp; omega
  have hab : a + k ≤ bb := by omega
  have HSTEP := Lib.hid (show ∀ t, t < k → ∃ x z, (swL P X Y Z S t)[a + t]? = some x ∧ (swL P X Y Z S t)[bb + t]? = some z ∧ swap (swL P X Y Z S t) (a + t) (bb + t) x z = swL P X Y Z S (t + 1) from fun t ht => by rw [← hb, ← ha]; exact swL_step hX hZ ht)
  have HLEN := Lib.hid (show ∀ t, t ≤ k → (swL P X Y Z S t).length = n from fun t ht => by rw [← hlen]; unfold swL; simp; omega)
  have HEND := Lib.hid (swL_end (P := P) (Y := Y) (S := S) hX hZ)
  have HOW := Lib.hid (show w.ownsRow B 49 2 (.slice (some ⟨b, 0, none⟩) n cap) n (flat2 (swL P X Y Z S 0)) by rw [swL_zero]; exact how)
  clear how hX hZ hlen ha hb
  go_enter Try.func59, Try.ntmps59
  go_wp2_with (fail)
  go_loopw [10] (fun i wr => ∃ t : Nat, i = .int .i64 t ∧ t ≤ k ∧ Hid (wr.ownsRow B 49 2 (.slice (some ⟨b, 0, none⟩) n cap) n (flat2 (swL P X Y Z S t))) ∧ Hid (Only [b] w wr)) (fun i _ => k - (intOf i).toNat)
  case atStart => exact ⟨0, rfl, Nat.zero_le _, HOW, Lib.hid (Only.refl _ _)⟩
  case round =>
    obtain ⟨t, rfl, ht, HOQ, HO⟩ := hrel
    by_cases hlt : t < k
    · obtain ⟨x, z, hxi, hzj, hsw⟩ := HSTEP.out t hlt
      have hlen := HLEN.out t ht
      have HOWQ := HOQ.out
      obtain ⟨b', hA, hb, -, ci, ci1⟩ := own_cell hlen.symm HOWQ hxi
      cases hA
      obtain ⟨b', hA, -, -, cj, cj1⟩ := own_cell hlen.symm HOWQ hzj
      cases hA
      have fi := own_frozen HOWQ ((a + t) * 2)
      have fi1 := own_frozen HOWQ ((a + t) * 2 + 1)
      have fj := own_frozen HOWQ ((bb + t) * 2)
      have fj1 := own_frozen HOWQ ((bb + t) * 2 + 1)
      have hns := own_swap2 (i := a + t) (j := bb + t) (x := x) (z := z) hlen HOWQ (by omega) (by omega)
      have i0 : (0 : Int) ≤ (a : Int) + (t : Int) := by omega
      have j0 : (0 : Int) ≤ (bb : Int) + (t : Int) := by omega
      have i1 : (a : Int) + (t : Int) < (n : Int) := by omega
      have j1 : (bb : Int) + (t : Int) < (n : Int) := by omega
      have i2 : ((a : Int) + (t : Int)).toNat = a + t := by omega
      have j2 : ((bb : Int) + (t : Int)).toNat = bb + t := by omega
      rw [hsw] at hns
      have HNS := Lib.hid hns
      clear hxi hzj hsw hlen HOWQ hns
      go_wp2_with (fail)
      go_region
      go_wp2_with (fail)
      go_roundw
      case rel => exact ⟨t + 1, by go_num, by omega, HNS, Lib.hid ((((HO.out.setCell (.inl (by simp)) _).setCell (.inl (by simp)) _).setCell (.inl (by simp)) _).setCell (.inl (by simp)) _).drew⟩
      case measure => simp [intOf]; omega
    · obtain rfl : t = k := by omega
      go_wp2_with (fail)
      go_end0
      exact ⟨rfl, by rw [← HEND.out]; exact HOQ.out, HO.out⟩
/-- what is left to turn -/
def RotI (B b cap n m : Nat) (T : List Int) (w : World) (i j : Nat) : Prop := ∃ P U V S : List Int, P.length + i = m ∧ U.length = i ∧ V.length = j ∧ (P ++ (U ++ (V ++ S))).length = n ∧ P ++ (V ++ (U ++ S)) = T ∧ w.ownsRow B 3 1 (.slice (some ⟨b, 0, none⟩) n cap) n (flat1 (P ++ (U ++ (V ++ S))))
theorem RotI.more {B b cap n m : Nat} {T : List Int} {w : World} {i j : Nat} (h : RotI B b cap n m T w i j) (cv : Value) (hn : n ≤ 1000000) (hij : j < i) :
    Calls Try.prog 60 #[.slice (some ⟨b, 0, none⟩) n cap, .int .i64 ((m : Int) - (i : Int)), .int .i64 m, .int .i64 j, cv] w fun e w' => e = .returned (.tuple #[]) ∧ RotI B b cap n m T w' (i - j) j ∧ Only [b] w w' := by
  obtain ⟨P, U, V, S, h1, h2, h3, h4, h5, h6⟩ := h
  have hU : U = U.take j ++ U.drop j := (List.take_append_drop j U).symm
  have e : P ++ (U ++ (V ++ S)) = P ++ (U.take j ++ (U.drop j ++ (V ++ S))) := by rw [← List.append_assoc (U.take j), List.take_append_drop]
  rw [e] at h6 h4
  have hc := swrI P (U.take j) (U.drop j) V S cv (k := j) (by simp; omega) h3 h4 hn h6 (a := m - i) (by omega) (bb := m) (by simp; omega)
  rw [show ((m - i : Nat) : Int) = (m : Int) - (i : Int) by omega] at hc
  refine hc.mono ?_
  rintro r w' ⟨rfl, ho, o⟩
  refine ⟨rfl, ⟨P ++ V, U.drop j, U.take j, S, by simp; omega, by simp; omega, by simp; omega, ?_, ?_, ?_⟩, o⟩
  · rw [← h4]; simp; omega
  · rw [← h5]
    conv => rhs; rw [hU]
    simp only [List.append_assoc]
  · simpa only [List.append_assoc] using ho
theorem RotI.less {B b cap n m : Nat} {T : List Int} {w : World} {i j : Nat} (h : RotI B b cap n m T w i j) (cv : Value) (hn : n ≤ 1000000) (hij : i < j) :
    Calls Try.prog 60 #[.slice (some ⟨b, 0, none⟩) n cap, .int .i64 ((m : Int) - (i : Int)), .int .i64 ((m : Int) + (j : Int) - (i : Int)), .int .i64 i, cv] w fun e w' => e = .returned (.tuple #[]) ∧ RotI B b cap n m T w' i (j - i) ∧ Only [b] w w' := by
  obtain ⟨P, U, V, S, h1, h2, h3, h4, h5, h6⟩ := h
  have e : P ++ (U ++ (V ++ S)) = P ++ (U ++ (V.take (j - i) ++ (V.drop (j - i) ++ S))) := by rw [← List.append_assoc (V.take _), List.take_append_drop]
  rw [e] at h6 h4
  have hc := swrI P U (V.take (j - i)) (V.drop (j - i)) S cv (k := i) h2 (by simp; omega) h4 hn h6 (a := m - i) (by omega) (bb := m + j - i) (by simp; omega)
  rw [show ((m - i : Nat) : Int) = (m : Int) - (i : Int) by omega, show ((m + j - i : Nat) : Int) = (m : Int) + (j : Int) - (i : Int) by omega] at hc
  refine hc.mono ?_
  rintro r w' ⟨rfl, ho, o⟩
  refine ⟨rfl, ⟨P, V.drop (j - i), V.take (j - i), U ++ S, h1, by simp; omega, by simp; omega, ?_, ?_, ho⟩, o⟩
  · rw [← h4]; simp; omega
  · rw [← h5]
    have hV : V = V.take (j - i) ++ V.drop (j - i) := (List.take_append_drop _ V).symm
    conv => rhs; rw [hV]
    simp only [List.append_assoc]
theorem RotI.last {B b cap n m : Nat} {T : List Int} {w : World} {i : Nat} (h : RotI B b cap n m T w i i) (cv : Value) (hn : n ≤ 1000000) :
    Calls Try.prog 60 #[.slice (some ⟨b, 0, none⟩) n cap, .int .i64 ((m : Int) - (i : Int)), .int .i64 m, .int .i64 i, cv] w fun e w' => e = .returned (.tuple #[]) ∧ w'.ownsRow B 3 1 (.slice (some ⟨b, 0, none⟩) n cap) n (flat1 T) ∧ Only [b] w w' := by
  obtain ⟨P, U, V, S, h1, h2, h3, h4, h5, h6⟩ := h
  have hc := swrI P U [] V S cv (k := i) h2 h3 h4 hn h6 (a := m - i) (by omega) (bb := m) (by simp; omega)
  rw [show ((m - i : Nat) : Int) = (m : Int) - (i : Int) by omega] at hc
  refine hc.mono ?_
  rintro r w' ⟨rfl, ho, o⟩
  exact ⟨rfl, by rw [← h5]; exact ho, o⟩
set_option maxHeartbeats 4000000 in
theorem rotI (P U V S : List Int) {w : World} {B b cap n : Nat} (cv : Value) (hU : 1 ≤ U.length) (hV : 1 ≤ V.length) (hlen : (P ++ (U ++ (V ++ S))).length = n) (hn : n ≤ 1000000) (how : w.ownsRow B 3 1 (.slice (some ⟨b, 0, none⟩) n cap) n (flat1 (P ++ (U ++ (V ++ S))))) {a m bb : Nat} (ha : P.length = a) (hm : P.length + U.length = m) (hb : P.length + U.length + V.length = bb) :
    Calls Try.prog 58 #[.slice (some ⟨b, 0, none⟩) n cap, .int .i64 a, .int .i64 m, .int .i64 bb, cv] w fun e w' => e = .returned (.tuple #[]) ∧ w'.ownsRow B 3 1 (.slice (some ⟨b, 0, none⟩) n cap) n (flat1 (P ++ (V ++ (U ++ S)))) ∧ Only [b] w w' := by
  have hbn : bb ≤ n := by rw [← hlen, ← hb]; simp; omega
  obtain ⟨i0, hi0⟩ : ∃ i0, m = a + i0 := ⟨m - a, by omega⟩
  obtain ⟨j0, hj0⟩ : ∃ j0, bb = m + j0 := ⟨bb - m, by omega⟩
  have hi1 : 1 ≤ i0 := by omega
  have hj1 : 1 ≤ j0 := by omega
  have HR := Lib.hid (show RotI B b cap n m (P ++ (V ++ (U ++ S))) w i0 j0 from ⟨P, U, V, S, by omega, by omega, by omega, hlen, rfl, how⟩)
  have d1 : (m : Int) - (a : Int) = (i0 : Int) := by omega
  have d2 : (bb : Int) - (m : Int) = (j0 : Int) := by omega
  have him : i0 ≤ m := by omega
  have hjm : m + j0 ≤ n := by omega
  clear how hlen hb ha hm hi0 hj0
  go_enter Try.func58, Try.ntmps58
  go_wp2_with (fail)
  clear d1 d2
  go_loopw [10, 11] (fun iv jv wr => ∃ i j : Nat, iv = .int .i64 i ∧ jv = .int .i64 j ∧ 1 ≤ i ∧ 1 ≤ j ∧ i ≤ m ∧ m + j ≤ n ∧ Hid (RotI B b cap n m (P ++ (V ++ (U ++ S))) wr i j) ∧ Hid (Only [b] w wr)) (fun iv jv _ => (intOf iv).toNat + (intOf jv).toNat)
  case atStart => exact ⟨i0, j0, rfl, rfl, hi1, hj1, him, hjm, HR, Lib.hid (Only.refl _ _)⟩
  case round =>
    clear him hjm hi1 hj1
    obtain ⟨i, j, rfl, rfl, hi, hj, him, hjm, HQ, HO⟩ := hrel
    rcases Nat.lt_trichotomy i j with hij | hij | hij
    · have e1 : ((i : Int) != (j : Int)) = true := by simp; omega
      have e2 : ¬ (j : Int) < (i : Int) := by omega
      go_wp2_with (fail)
      refine (HQ.out.less cv hn hij).mono ?_
      rintro r w1 ⟨rfl, hq, o1⟩
      have HQ2 := Lib.hid hq
      have HO2 := Lib.hid (HO.out.trans o1 (fun x hx => .inl hx))
      clear hq o1
      go_wp2_with (fail)
      go_roundw
      case rel => exact ⟨i, j - i, rfl, congrArg (fun x => Value.int .i64 x) (by omega), hi, by omega, him, by omega, HQ2, HO2⟩
      case measure => simp [intOf]; omega
    · subst hij
      have e1 : ((i : Int) != (i : Int)) = false := by simp
      go_wp2_with (fail)
      refine (HQ.out.last cv hn).mono ?_
      rintro r w1 ⟨rfl, hq, o1⟩
      have HQ2 := Lib.hid hq
      have HO2 := Lib.hid (HO.out.trans o1 (fun x hx => .inl hx))
      clear hq o1
      go_wp2_with (fail)
      go_end0
      exact ⟨rfl, HQ2.out, HO2.out⟩
    · have e1 : ((i : Int) != (j : Int)) = true := by simp; omega
      have e2 : (j : Int) < (i : Int) := by omega
      go_wp2_with (fail)
      refine (HQ.out.more cv hn hij).mono ?_
      rintro r w1 ⟨rfl, hq, o1⟩
      have HQ2 := Lib.hid hq
      have HO2 := Lib.hid (HO.out.trans o1 (fun x hx => .inl hx))
      clear hq o1
      go_wp2_with (fail)
      go_roundw
      case rel => exact ⟨i - j, j, congrArg (fun x => Value.int .i64 x) (by omega), rfl, by omega, hj, by omega, hjm, HQ2, HO2⟩
      case measure => simp [intOf]; omega
/-- what is left to turn -/
def RotJ (B b cap n m : Nat) (T : List Ent) (w : World) (i j : Nat) : Prop := ∃ P U V S : List Ent, P.length + i = m ∧ U.length = i ∧ V.length = j ∧ (P ++ (U ++ (V ++ S))).length = n ∧ P ++ (V ++ (U ++ S)) = T ∧ w.ownsRow B 49 2 (.slice (some ⟨b, 0, none⟩) n cap) n (flat2 (P ++ (U ++ (V ++ S))))
theorem RotJ.more {B b cap n m : Nat} {T : List Ent} {w : World} {i j : Nat} (h : RotJ B b cap n m T w i j) (cv : Value) (hn : n ≤ 1000000) (hij : j < i) :
    Calls Try.prog 59 #[.slice (some ⟨b, 0, none⟩) n cap, .int .i64 ((m : Int) - (i : Int)), .int .i64 m, .int .i64 j, cv] w fun e w' => e = .returned (.tuple #[]) ∧ RotJ B b cap n m T w' (i - j) j ∧ Only [b] w w' := by
  obtain ⟨P, U, V, S, h1, h2, h3, h4, h5, h6⟩ := h
  have hU : U = U.take j ++ U.drop j := (List.take_append_drop j U).symm
  have e : P ++ (U ++ (V ++ S)) = P ++ (U.take j ++ (U.drop j ++ (V ++ S))) := by rw [← List.append_assoc (U.take j), List.take_append_drop]
  rw [e] at h6 h4
  have hc := swrJ P (U.take j) (U.drop j) V S cv (k := j) (by simp; omega) h3 h4 hn h6 (a := m - i) (by omega) (bb := m) (by simp; omega)
  rw [show ((m - i : Nat) : Int) = (m : Int) - (i : Int) by omega] at hc
  refine hc.mono ?_
  rintro r w' ⟨rfl, ho, o⟩
  refine ⟨rfl, ⟨P ++ V, U.drop j, U.take j, S, by simp; omega, by simp; omega, by simp; omega, ?_, ?_, ?_⟩, o⟩
  · rw [← h4]; simp; omega
  · rw [← h5]
    conv => rhs; rw [hU]
    simp only [List.append_assoc]
  · simpa only [List.append_assoc] using ho
theorem RotJ.less {B b cap n m : Nat} {T : List Ent} {w : World} {i j : Nat} (h : RotJ B b cap n m T w i j) (cv : Value) (hn : n ≤ 1000000) (hij : i < j) :
    Calls Try.prog 59 #[.slice (some ⟨b, 0, none⟩) n cap, .int .i64 ((m : Int) - (i : Int)), .int .i64 ((m : Int) + (j : Int) - (i : Int)), .int .i64 i, cv] w fun e w' => e = .returned (.tuple #[]) ∧ RotJ B b cap n m T w' i (j - i) ∧ Only [b] w w' := by
  obtain ⟨P, U, V, S, h1, h2, h3, h4, h5, h6⟩ := h
  have e : P ++ (U ++ (V ++ S)) = P ++ (U ++ (V.take (j - i) ++ (V.drop (j - i) ++ S))) := by rw [← List.append_assoc (V.take _), List.take_append_drop]
  rw [e] at h6 h4
  have hc := swrJ P U (V.take (j - i)) (V.drop (j - i)) S cv (k := i) h2 (by simp; omega) h4 hn h6 (a := m - i) (by omega) (bb := m + j - i) (by simp; omega)
  rw [show ((m - i : Nat) : Int) = (m : Int) - (i : Int) by omega, show ((m + j - i : Nat) : Int) = (m : Int) + (j : Int) - (i : Int) by omega] at hc
  refine hc.mono ?_
  rintro r w' ⟨rfl, ho, o⟩
  refine ⟨rfl, ⟨P, V.drop (j - i), V.take (j - i), U ++ S, h1, by simp; omega, by simp; omega, ?_, ?_, ho⟩, o⟩
  · rw [← h4]; simp; omega
  · rw [← h5]
    have hV : V = V.take (j - i) ++ V.drop (j - i) := (List.take_append_drop _ V).symm
    conv => rhs; rw [hV]
    simp only [List.append_assoc]
theorem RotJ.last {B b cap n m : Nat} {T : List Ent} {w : World} {i : Nat} (h : RotJ B b cap n m T w i i) (cv : Value) (hn : n ≤ 1000000) :
    Calls Try.prog 59 #[.slice (some ⟨b, 0, none⟩) n cap, .int .i64 ((m : Int) - (i : Int)), .int .i64 m, .int .i64 i, cv] w fun e w' => e = .returned (.tuple #[]) ∧ w'.ownsRow B 49 2 (.slice (some ⟨b, 0, none⟩) n cap) n (flat2 T) ∧ Only [b] w w' := by
  obtain ⟨P, U, V, S, h1, h2, h3, h4, h5, h6⟩ := h
  have hc := swrJ P U [] V S cv (k := i) h2 h3 h4 hn h6 (a := m - i) (by omega) (bb := m) (by simp; omega)
  rw [show ((m - i : Nat) : Int) = (m : Int) - (i : Int) by omega] at hc
  refine hc.mono ?_
  rintro r w' ⟨rfl, ho, o⟩
  exact ⟨rfl, by rw [← h5]; exact ho, o⟩
set_option maxHeartbeats 4000000 in
theorem rotJ (P U V S : List Ent) {w : World} {B b cap n : Nat} (cv : Value) (hU : 1 ≤ U.length) (hV : 1 ≤ V.length) (hlen : (P ++ (U ++ (V ++ S))).length = n) (hn : n ≤ 1000000) (how : w.ownsRow B 49 2 (.slice (some ⟨b, 0, none⟩) n cap) n (flat2 (P ++ (U ++ (V ++ S))))) {a m bb : Nat} (ha : P.length = a) (hm : P.length + U.length = m) (hb : P.length + U.length + V.length = bb) :
    Calls Try.prog 57 #[.slice (some ⟨b, 0, none⟩) n cap, .int .i64 a, .int .i64 m, .int .i64 bb, cv] w fun e w' => e = .returned (.tuple #[]) ∧ w'.ownsRow B 49 2 (.slice (some ⟨b, 0, none⟩) n cap) n (flat2 (P ++ (V ++ (U ++ S)))) ∧ Only [b] w w' := by
  have hbn : bb ≤ n := by rw [← hlen, ← hb]; simp; omega
  obtain ⟨i0, hi0⟩ : ∃ i0, m = a + i0 := ⟨m - a, by omega⟩
  obtain ⟨j0, hj0⟩ : ∃ j0, bb = m + j0 := ⟨bb - m, by omega⟩
  have hi1 : 1 ≤ i0 := by omega
  have hj1 : 1 ≤ j0 := by omega
  have HR := Lib.hid (show RotJ B b cap n m (P ++ (V ++ (U ++ S))) w i0 j0 from ⟨P, U, V, S, by omega, by omega, by omega, hlen, rfl, how⟩)
  have d1 : (m : Int) - (a : Int) = (i0 : Int) := by omega
  have d2 : (bb : Int) - (m : Int) = (j0 : Int) := by omega
  have him : i0 ≤ m := by omega
  have hjm : m + j0 ≤ n := by omega
  clear how hlen hb ha hm hi0 hj0
  go_enter Try.func57, Try.ntmps57
  go_wp2_with (fail)
  clear d1 d2
  go_loopw [10, 11] (fun iv jv wr => ∃ i j : Nat, iv = .int .i64 i ∧ jv = .int .i64 j ∧ 1 ≤ i ∧ 1 ≤ j ∧ i ≤ m ∧ m + j ≤ n ∧ Hid (RotJ B b cap n m (P ++ (V ++ (U ++ S))) wr i j) ∧ Hid (Only [b] w wr)) (fun iv jv _ => (intOf iv).toNat + (intOf jv).toNat)
  case atStart => exact ⟨i0, j0, rfl, rfl, hi1, hj1, him, hjm, HR, Lib.hid (Only.refl _ _)⟩
  case round =>
    clear him hjm hi1 hj1
    obtain ⟨i, j, rfl, rfl, hi, hj, him, hjm, HQ, HO⟩ := hrel
    rcases Nat.lt_trichotomy i j with hij | hij | hij
    · have e1 : ((i : Int) != (j : Int)) = true := by simp; omega
      have e2 : ¬ (j : Int) < (i : Int) := by omega
      go_wp2_with (fail)
      refine (HQ.out.less cv hn hij).mono ?_
      rintro r w1 ⟨rfl, hq, o1⟩
      have HQ2 := Lib.hid hq
      have HO2 := Lib.hid (HO.out.trans o1 (fun x hx => .inl hx))
      clear hq o1
      go_wp2_with (fail)
      go_roundw
      case rel => exact ⟨i, j - i, rfl, congrArg (fun x => Value.int .i64 x) (by omega), hi, by omega, him, by omega, HQ2, HO2⟩
      case measure => simp [intOf]; omega
    · subst hij
      have e1 : ((i : Int) != (i : Int)) = false := by simp
      go_wp2_with (fail)
      refine (HQ.out.last cv hn).mono ?_
      rintro r w1 ⟨rfl, hq, o1⟩
      have HQ2 := Lib.hid hq
      have HO2 := Lib.hid (HO.out.trans o1 (fun x hx => .inl hx))
      clear hq o1
      go_wp2_with (fail)
      go_end0
      exact ⟨rfl, HQ2.out, HO2.out⟩
    · have e1 : ((i : Int) != (j : Int)) = true := by simp; omega
      have e2 : (j : Int) < (i : Int) := by omega
      go_wp2_with (fail)
      refine (HQ.out.more cv hn hij).mono ?_
      rintro r w1 ⟨rfl, hq, o1⟩
      have HQ2 := Lib.hid hq
      have HO2 := Lib.hid (HO.out.trans o1 (fun x hx => .inl hx))
      clear hq o1
      go_wp2_with (fail)
      go_roundw
      case rel => exact ⟨i - j, j, congrArg (fun x => Value.int .i64 x) (by omega), rfl, by omega, hj, by omega, hjm, HQ2, HO2⟩
      case measure => simp [intOf]; omega
end Go.Proofs.Ytpedlapemgjgaaa
