/- insertionSortCmpFunc. -/
import Derived.Test.YtpedlapemgjgaaaCmp
import Derived.Test.YtpedlapemgjgaaaSwr
import Derived.Test.YtpedlapemgjgaaaFactsR
import Derived.Deep.QuietTactic
import Derived.BigQuiet
import Derived.IntWalk
namespace Go.Proofs.Ytpedlapemgjgaaa
open Go.RowKit Go.Kx Go.Bag
set_option maxRecDepth 100000

theorem swap_back {α : Type} (L1 L3 : List α) (x y : α) : swap (L1 ++ y :: (x :: L3)) (L1.length + 1) L1.length x y = L1 ++ x :: (y :: L3) := by
  unfold swap
  rw [List.set_append_right _ _ (by omega), List.set_append_right _ _ (by omega)]
  have e : L1.length + 1 - L1.length = 0 + 1 := by omega
  rw [e, List.set_cons_succ, List.set_cons_zero, Nat.sub_self, List.set_cons_zero]
section
variable {α : Type} {key : α → Int}
/-- the list where x has come down to place s -/
def insL (P M R : List α) (x : α) (s : Nat) : List α := P ++ (M.take s ++ (x :: (M.drop s ++ R)))
theorem insL_x {P M R : List α} {x : α} {s : Nat} (hs : s ≤ M.length) : (insL P M R x s)[P.length + s]? = some x := by
  unfold insL
  rw [List.getElem?_append_right (by omega), List.getElem?_append_right (by simp; omega)]
  have e : P.length + s - P.length - (M.take s).length = 0 := by simp; omega
  rw [e]
  rfl
theorem insL_step {P M R : List α} {x y : α} {s : Nat} (hs : s + 1 ≤ M.length) (hy : M[s]? = some y) : (insL P M R x (s + 1))[P.length + s]? = some y ∧ swap (insL P M R x (s + 1)) (P.length + (s + 1)) (P.length + s) x y = insL P M R x s := by
  have hy2 : M[s] = y := by rw [List.getElem?_eq_getElem (by omega)] at hy; exact Option.some.inj hy
  have e1 : M.take (s + 1) = M.take s ++ [y] := by rw [List.take_succ_eq_append_getElem (by omega), hy2]
  have e2 : M.drop s = y :: M.drop (s + 1) := by rw [List.drop_eq_getElem_cons (by omega), hy2]
  have e3 : insL P M R x (s + 1) = (P ++ M.take s) ++ y :: (x :: (M.drop (s + 1) ++ R)) := by
    unfold insL
    rw [e1]
    simp only [List.append_assoc, List.cons_append, List.nil_append]
  have e4 : insL P M R x s = (P ++ M.take s) ++ x :: (y :: (M.drop (s + 1) ++ R)) := by
    unfold insL
    rw [e2]
    simp only [List.append_assoc, List.cons_append]
  have l1 : (P ++ M.take s).length = P.length + s := by simp; omega
  refine ⟨?_, ?_⟩
  · rw [e3, List.getElem?_append_right (by omega), l1, Nat.sub_self]
    rfl
  · rw [e4, ← swap_back (P ++ M.take s) (M.drop (s + 1) ++ R) x y, e3, l1]
    rfl
theorem insL_len {P M R : List α} {x : α} {s : Nat} : (insL P M R x s).length = P.length + M.length + R.length + 1 := by
  unfold insL
  have : (M.take s).length + (M.drop s).length = M.length := by rw [← List.length_append, List.take_append_drop]
  simp only [List.length_append, List.length_cons]
  omega
end
set_option maxHeartbeats 8000000 in
theorem insI (P W S : List Int) {w : World} {B b cap n : Nat} (hlen0 : (P ++ (W ++ S)).length = n) (hn : n ≤ 1000000) (how : w.ownsRow B 3 1 (.slice (some ⟨b, 0, none⟩) n cap) n (flat1 (P ++ (W ++ S)))) {a bb : Nat} (ha : P.length = a) (hb : a + W.length = bb) :
    Calls Try.prog 55 #[.slice (some ⟨b, 0, none⟩) n cap, .int .i64 a, .int .i64 bb, .func (.func 11) #[] #[]] w fun e w' => e = .returned (.tuple #[]) ∧ w'.ownsRow B 3 1 (.slice (some ⟨b, 0, none⟩) n cap) n (flat1 (P ++ (st keyI W ++ S))) ∧ Only [b] w w' := by
  have hbn : bb ≤ n := by rw [← hlen0]; simp; omega
  have HST := Lib.hid (show w.ownsRow B 3 1 (.slice (some ⟨b, 0, none⟩) n cap) n (flat1 (P ++ (st keyI (W.take 1) ++ (W.drop 1 ++ S)))) by
    have e : st keyI (W.take 1) = W.take 1 := by
      cases W with
      | nil => rfl
      | cons x r => simp [st, ins]
    rw [e, ← List.append_assoc (W.take 1), List.take_append_drop]
    exact how)
  have han : a ≤ 1000000 := by omega
  have HLEN := Lib.hid hlen0
  have HA := Lib.hid ha
  have HWL := Lib.hid hb
  clear how hlen0 ha hb
  go_enter Try.func55, Try.ntmps55
  go_wp2_with (fail)
  go_loopw [8] (fun i wr => ∃ t : Nat, i = .int .i64 ((a : Int) + (t : Int)) ∧ 1 ≤ t ∧ t ≤ n + 1 ∧ Hid (t ≤ W.length + 1) ∧ Hid (wr.ownsRow B 3 1 (.slice (some ⟨b, 0, none⟩) n cap) n (flat1 (P ++ (st keyI (W.take t) ++ (W.drop t ++ S))))) ∧ Hid (Only [b] w wr)) (fun i _ => bb + 1 - (intOf i).toNat)
  case atStart => exact ⟨1, rfl, Nat.le_refl _, by omega, Lib.hid (by omega), HST, Lib.hid (Only.refl _ _)⟩
  case round =>
    obtain ⟨t, rfl, ht1, htn, HTW, HQ, HO⟩ := hrel
    by_cases hlt : a + t < bb
    · have htw : t < W.length := by have := HWL.out; omega
      obtain ⟨x, hx⟩ : ∃ x, W[t]? = some x := ⟨_, List.getElem?_eq_getElem htw⟩
      have hx2 : W.drop t = x :: W.drop (t + 1) := by
        rw [List.drop_eq_getElem_cons htw]
        rw [List.getElem?_eq_getElem htw] at hx
        rw [Option.some.inj hx]
      have hx3 : W.take (t + 1) = W.take t ++ [x] := by rw [List.take_add_one, hx]; rfl
      obtain ⟨M, hM⟩ : ∃ M, st keyI (W.take t) = M := ⟨_, rfl⟩
      obtain ⟨R, hR⟩ : ∃ R, W.drop (t + 1) ++ S = R := ⟨_, rfl⟩
      have hMl : M.length = t := by rw [← hM, st_len]; simp; omega
      have HMS := Lib.hid (show Sorted keyI M by rw [← hM]; exact st_sorted _)
      have HFIN := Lib.hid (show ∀ s, s ≤ M.length → (∀ c ∈ M.drop s, keyI x < keyI c) → (∀ y ∈ M.take s, keyI y ≤ keyI x) → insL P M R x s = P ++ (st keyI (W.take (t + 1)) ++ (W.drop (t + 1) ++ S)) from fun s hs h1 h2 => by
        have e := ins_mid HMS.out hs h1 h2
        have e2 : st keyI (W.take (t + 1)) = st keyI (M ++ [x]) := by rw [hx3, ← hM, st_app]
        rw [e2, ← e, hR]
        unfold insL
        simp only [List.append_assoc, List.cons_append])
      have HLQ := Lib.hid (show ∀ s, (insL P M R x s).length = n from fun s => by
        rw [insL_len, ← HLEN.out, ← hR]
        simp
        omega)
      have HS0 := Lib.hid (show wr.ownsRow B 3 1 (.slice (some ⟨b, 0, none⟩) n cap) n (flat1 (insL P M R x t)) by
        have h := HQ.out
        rw [hM, hx2] at h
        unfold insL
        rw [List.take_of_length_le (by omega), List.drop_of_length_le (by omega), List.nil_append, ← hR]
        exact h)
      have HML := Lib.hid hMl
      clear hx hx2 hx3 hM hR hMl
      have hi : (a : Int) + (t : Int) < (bb : Int) := by omega
      go_wp2_with (fail)
      go_loopw [9] (fun j wz => ∃ s : Nat, j = .int .i64 ((a : Int) + (s : Int)) ∧ s ≤ t ∧ Hid (∀ c ∈ M.drop s, keyI x < keyI c) ∧ Hid (wz.ownsRow B 3 1 (.slice (some ⟨b, 0, none⟩) n cap) n (flat1 (insL P M R x s))) ∧ Hid (Only [b] w wz)) (fun j _ => (intOf j).toNat)
      case atStart => exact ⟨t, rfl, Nat.le_refl _, Lib.hid (fun c hc => by rw [List.drop_of_length_le (by have := HML.out; omega)] at hc; cases hc), HS0, HO⟩
      case round =>
        obtain ⟨wq, rfl⟩ : ∃ wq : World, wq = wr := ⟨_, rfl⟩
        obtain ⟨s, rfl, hst, HC, HOQ, HOz⟩ := hrel
        have hlen := HLQ.out s
        have HOWQ := HOQ.out
        cases s with
        | zero =>
          have hg : decide ((a : Int) < (a : Int)) = false := by simp
          have HNX := Lib.hid (show wq.ownsRow B 3 1 (.slice (some ⟨b, 0, none⟩) n cap) n (flat1 (P ++ (st keyI (W.take (t + 1)) ++ (W.drop (t + 1) ++ S)))) by
            rw [← HFIN.out 0 (Nat.zero_le _) HC.out (fun y hy => by simp at hy)]; exact HOWQ)
          have e0 : (a : Int) + ((0 : Nat) : Int) = (a : Int) := by omega
          simp only [e0]
          clear hlen HOWQ e0
          go_wp2_with (fail)
          go_quiet (fail)
          go_wp2_with (fail)
          go_roundw
          case rel => exact ⟨t + 1, by go_num, by omega, by omega, Lib.hid (by omega), Lib.hid (ownsRow_only ((Only.refl [] _).drewN _) HNX.out (by simp)), Lib.hid (HOz.out.drewN _)⟩
          case measure => simp [intOf]; omega
        | succ s =>
          obtain ⟨y, hy⟩ : ∃ y, M[s]? = some y := ⟨_, List.getElem?_eq_getElem (by have := HML.out; omega)⟩
          obtain ⟨q1, q2⟩ := insL_step (P := P) (R := R) (x := x) (by have := HML.out; omega) hy
          have hxi := insL_x (P := P) (R := R) (x := x) (M := M) (s := s + 1) (by have := HML.out; omega)
          rw [HA.out] at q1 q2 hxi
          have hyi := q1
          have hk1 : (0 : Int) ≤ (a : Int) + ((s + 1 : Nat) : Int) - 1 := by omega
          have HX := Lib.hid (show b < wq.heap.size ∧ wq.cell? ⟨b, (a + (s + 1)), none⟩ = some (.int .i64 x) from by obtain ⟨b', hA, hb, -, ci⟩ := own_cell1 hlen.symm HOWQ hxi; cases hA; exact ⟨hb, ci⟩)
          have HY := Lib.hid (show b < wq.heap.size ∧ wq.cell? ⟨b, (a + s), none⟩ = some (.int .i64 y) from by obtain ⟨b', hA, hb, -, ci⟩ := own_cell1 hlen.symm HOWQ hyi; cases hA; exact ⟨hb, ci⟩)
          have HMY := Lib.hid hy
          have HSW := Lib.hid q2
          obtain ⟨lb, hlb⟩ : ∃ lb, decide (keyI x < keyI y) = lb := ⟨_, rfl⟩
          have HLB := Lib.hid (show decide (cmpZ (keyI x) (keyI y) < 0) = lb by rw [cmpZ_neg, hlb])
          have HLB2 := Lib.hid hlb
          have HCA := Lib.hid (fun w => order_any x y w)
          obtain ⟨cz, hcz⟩ : ∃ cz, cmpZ (keyI x) (keyI y) = cz := ⟨_, rfl⟩
          have hcz2 : cmpZ x y = cz := hcz
          rw [hcz] at HLB
          rw [hcz2] at HCA
          have e1 : ((s + 1 : Nat) : Int) = (s : Int) + 1 := by omega
          have hsn : a + (s + 1) < n := by have := HTW.out; omega
          simp only [e1]
          have hgt : (a : Int) < (a : Int) + ((s : Int) + 1) := by omega
          have hgtd : decide ((a : Int) < (a : Int) + ((s : Int) + 1)) = true := decide_eq_true hgt
          clear hlb hcz hcz2 hxi hyi q1 q2 hy hlen HOWQ e1 hk1
          go_wp2_with (fail)
          refine (wpIn_wide (n := 9)).1 ?_
          refine wpIn_region_relR 17 (Only []) (fr := ?frg) (tl := ?tlg) (fun iq v wv => match iq with
            | 0 => v = .int .i64 ((a : Int) + ((s : Int) + 1))
            | 1 => v = .int .i64 (a : Nat)
            | 2 => v = .bool true
            | 3 => v = .bool true
            | 4 => v = .func (.func 11) #[] #[]
            | 5 => v = .slice (some ⟨b, 0, none⟩) n cap
            | 6 => v = .int .i64 ((a : Int) + ((s : Int) + 1))
            | 7 => v = .pointer (some ⟨b, (a + (s + 1)), none⟩)
            | 8 => v = .int .i64 x
            | 9 => v = .slice (some ⟨b, 0, none⟩) n cap
            | 10 => v = .int .i64 ((a : Int) + ((s : Int) + 1))
            | 11 => v = .int .i64 ((a : Int) + ((s : Int) + 1) - 1)
            | 12 => v = .pointer (some ⟨b, (a + s), none⟩)
            | 13 => v = .int .i64 y
            | 14 => v = .int .i64 cz
            | 15 => v = .bool lb
            | 16 => v = .bool lb
            | _ => True) (.inl rfl) (by kernel_rfl) (by kernel_rfl) (by kernel_rfl) (by kernel_rfl) (by kernel_rfl) (by kernel_rfl) (by decide) ?htlg ?hfrg (Only.refl _ _) (fun _ _ _ h k => h.trans k (fun _ hx => .inl hx)) ?stabg ?stepsg ?doneg
          case htlg => simp only [List.drop_succ_cons, List.drop_zero]; rfl
          case hfrg => intro vals; simp only [putAll, dstAt, Act.put, List.getElem?_toArray, List.getElem?_cons_zero, List.getElem?_cons_succ, Option.bind_some, List.setIfInBounds_toArray, List.set_cons_zero, List.set_cons_succ]; rfl
          case stabg =>
            intro i v wa wb h
            try dsimp only
            split <;> first | exact id
          case stepsg =>
            refine ⟨?_, ?_, ?_, ?_, ?_, ?_, ?_, ?_, ?_, ?_, ?_, ?_, ?_, ?_, ?_, ?_, ?_, trivial⟩
            · intro vals wr hR hp K hK
              dsimp only at hK ⊢
              clear hp
              unfold RunsOp
              go_simp
              exact hK.out _ _ ⟨_, rfl, Only.refl _ _, rfl⟩
            · intro vals wr hR hp K hK
              dsimp only at hK ⊢
              clear hp
              unfold RunsOp
              go_simp
              exact hK.out _ _ ⟨_, rfl, Only.refl _ _, rfl⟩
            · intro vals wr hR hp K hK
              dsimp only at hK ⊢
              obtain ⟨p0, p1, -⟩ := hp
              replace p0 := p0 rfl
              replace p1 := p1 rfl
              dsimp only at p0 p1
              rw [p0, p1] at hK ⊢
              clear p0 p1
              unfold RunsOp
              go_simp
              exact hK.out _ _ ⟨_, rfl, Only.refl _ _, rfl⟩
            · intro vals wr hR hp K hK
              dsimp only at hK ⊢
              obtain ⟨p2, -⟩ := hp
              replace p2 := p2 rfl
              dsimp only at p2
              rw [p2] at hK ⊢
              clear p2
              unfold RunsOp
              go_simp
              exact hK.out _ _ ⟨_, rfl, Only.refl _ _, rfl⟩
            · intro vals wr hR hp K hK
              dsimp only at hK ⊢
              obtain ⟨p3, -⟩ := hp
              replace p3 := p3 rfl
              dsimp only at p3
              rw [p3] at hK ⊢
              clear p3
              unfold RunsOp
              go_simp
              exact hK.out _ _ ⟨_, rfl, Only.refl _ _, rfl⟩
            · intro vals wr hR hp K hK
              dsimp only at hK ⊢
              obtain ⟨p3, -⟩ := hp
              replace p3 := p3 rfl
              dsimp only at p3
              rw [p3] at hK ⊢
              clear p3
              unfold RunsOp
              go_simp
              exact hK.out _ _ ⟨_, rfl, Only.refl _ _, rfl⟩
            · intro vals wr hR hp K hK
              dsimp only at hK ⊢
              obtain ⟨p3, -⟩ := hp
              replace p3 := p3 rfl
              dsimp only at p3
              rw [p3] at hK ⊢
              clear p3
              unfold RunsOp
              go_simp
              exact hK.out _ _ ⟨_, rfl, Only.refl _ _, rfl⟩
            · intro vals wr hR hp K hK
              dsimp only at hK ⊢
              obtain ⟨p5, p6, p3, -⟩ := hp
              replace p5 := p5 rfl
              replace p6 := p6 rfl
              replace p3 := p3 rfl
              dsimp only at p5 p6 p3
              rw [p5, p6, p3] at hK ⊢
              clear p5 p6 p3
              unfold RunsOp
              have i1 : (0 : Int) ≤ (a : Int) + ((s : Int) + 1) := by omega
              have i2 : (a : Int) + ((s : Int) + 1) < (n : Int) := by omega
              have i3 : ((a : Int) + ((s : Int) + 1)).toNat = (a + (s + 1)) := by omega
              go_simp
              exact hK.out _ _ ⟨_, rfl, Only.refl _ _, rfl⟩
            · intro vals wr hR hp K hK
              dsimp only at hK ⊢
              obtain ⟨p7, p3, -⟩ := hp
              replace p7 := p7 rfl
              replace p3 := p3 rfl
              dsimp only at p7 p3
              rw [p7, p3] at hK ⊢
              clear p7 p3
              unfold RunsOp
              have k0 := (hR.cell (p := ⟨b, (a + (s + 1)), none⟩) HX.out.1 (by simp)).trans HX.out.2
              go_simp
              exact hK.out _ _ ⟨_, rfl, Only.refl _ _, rfl⟩
            · intro vals wr hR hp K hK
              dsimp only at hK ⊢
              obtain ⟨p3, -⟩ := hp
              replace p3 := p3 rfl
              dsimp only at p3
              rw [p3] at hK ⊢
              clear p3
              unfold RunsOp
              go_simp
              exact hK.out _ _ ⟨_, rfl, Only.refl _ _, rfl⟩
            · intro vals wr hR hp K hK
              dsimp only at hK ⊢
              obtain ⟨p3, -⟩ := hp
              replace p3 := p3 rfl
              dsimp only at p3
              rw [p3] at hK ⊢
              clear p3
              unfold RunsOp
              go_simp
              exact hK.out _ _ ⟨_, rfl, Only.refl _ _, rfl⟩
            · intro vals wr hR hp K hK
              dsimp only at hK ⊢
              obtain ⟨p10, p3, -⟩ := hp
              replace p10 := p10 rfl
              replace p3 := p3 rfl
              dsimp only at p10 p3
              rw [p10, p3] at hK ⊢
              clear p10 p3
              unfold RunsOp
              have hwr : IntKind.i64.wrap ((a : Int) + ((s : Int) + 1) - 1) = (a : Int) + ((s : Int) + 1) - 1 := IntWalk.i64_in _ (by omega)
              have i4 : (1 : Int) ≤ (a : Int) + ((s : Int) + 1) := by omega
              have i5 : (a : Int) + ((s : Int) + 1) ≤ 1000000 := by omega
              go_simp
              exact hK.out _ _ ⟨_, rfl, Only.refl _ _, rfl⟩
            · intro vals wr hR hp K hK
              dsimp only at hK ⊢
              obtain ⟨p9, p11, p3, -⟩ := hp
              replace p9 := p9 rfl
              replace p11 := p11 rfl
              replace p3 := p3 rfl
              dsimp only at p9 p11 p3
              rw [p9, p11, p3] at hK ⊢
              clear p9 p11 p3
              unfold RunsOp
              have i4 : (1 : Int) ≤ (a : Int) + ((s : Int) + 1) := by omega
              have i1 : (0 : Int) ≤ (a : Int) + ((s : Int) + 1) - 1 := by omega
              have i2 : (a : Int) + ((s : Int) + 1) - 1 < (n : Int) := by omega
              have i3 : ((a : Int) + ((s : Int) + 1) - 1).toNat = (a + s) := by omega
              go_simp
              exact hK.out _ _ ⟨_, rfl, Only.refl _ _, rfl⟩
            · intro vals wr hR hp K hK
              dsimp only at hK ⊢
              obtain ⟨p12, p3, -⟩ := hp
              replace p12 := p12 rfl
              replace p3 := p3 rfl
              dsimp only at p12 p3
              rw [p12, p3] at hK ⊢
              clear p12 p3
              unfold RunsOp
              have k0 := (hR.cell (p := ⟨b, (a + s), none⟩) HY.out.1 (by simp)).trans HY.out.2
              go_simp
              exact hK.out _ _ ⟨_, rfl, Only.refl _ _, rfl⟩
            · intro vals wr hR hp K hK
              dsimp only at hK ⊢
              obtain ⟨p4, p8, p13, p3, -, -⟩ := hp
              replace p4 := p4 rfl
              replace p8 := p8 rfl
              replace p13 := p13 rfl
              replace p3 := p3 rfl
              dsimp only at p4 p8 p13 p3
              rw [p4, p8, p13, p3] at hK ⊢
              clear p4 p8 p13 p3
              unfold RunsOp
              go_simp
              refine (HCA.out _).mono ?_
              rintro e' w2 ⟨rfl, o2⟩
              exact hK.out _ _ ⟨_, rfl, o2, rfl⟩
            · intro vals wr hR hp K hK
              dsimp only at hK ⊢
              obtain ⟨p14, p3, -⟩ := hp
              replace p14 := p14 rfl
              replace p3 := p3 rfl
              dsimp only at p14 p3
              rw [p14, p3] at hK ⊢
              clear p14 p3
              unfold RunsOp
              have hlb := HLB.out
              go_simp
              exact hK.out _ _ ⟨_, rfl, Only.refl _ _, rfl⟩
            · intro vals wr hR hp K hK
              dsimp only at hK ⊢
              obtain ⟨p3, p15, -⟩ := hp
              replace p3 := p3 rfl
              replace p15 := p15 rfl
              dsimp only at p3 p15
              rw [p3, p15] at hK ⊢
              clear p3 p15
              unfold RunsOp
              go_simp
              exact hK.out _ _ ⟨_, rfl, Only.refl _ _, rfl⟩
          case doneg =>
            intro vals wd hR hF
            have f0 : vals 0 = .int .i64 ((a : Int) + ((s : Int) + 1)) := hF 0 (by decide)
            have f1 : vals 1 = .int .i64 (a : Nat) := hF 1 (by decide)
            have f2 : vals 2 = .bool true := hF 2 (by decide)
            have f3 : vals 3 = .bool true := hF 3 (by decide)
            have f4 : vals 4 = .func (.func 11) #[] #[] := hF 4 (by decide)
            have f5 : vals 5 = .slice (some ⟨b, 0, none⟩) n cap := hF 5 (by decide)
            have f6 : vals 6 = .int .i64 ((a : Int) + ((s : Int) + 1)) := hF 6 (by decide)
            have f7 : vals 7 = .pointer (some ⟨b, (a + (s + 1)), none⟩) := hF 7 (by decide)
            have f8 : vals 8 = .int .i64 x := hF 8 (by decide)
            have f9 : vals 9 = .slice (some ⟨b, 0, none⟩) n cap := hF 9 (by decide)
            have f10 : vals 10 = .int .i64 ((a : Int) + ((s : Int) + 1)) := hF 10 (by decide)
            have f11 : vals 11 = .int .i64 ((a : Int) + ((s : Int) + 1) - 1) := hF 11 (by decide)
            have f12 : vals 12 = .pointer (some ⟨b, (a + s), none⟩) := hF 12 (by decide)
            have f13 : vals 13 = .int .i64 y := hF 13 (by decide)
            have f14 : (vals 14) = .int .i64 cz := hF 14 (by decide)
            have f15 : vals 15 = .bool lb := hF 15 (by decide)
            have f16 : vals 16 = .bool lb := hF 16 (by decide)
            rw [f0, f1, f2, f3, f4, f5, f6, f7, f8, f9, f10, f11, f12, f13, f15, f16]
            clear f0 f1 f2 f3 f4 f5 f6 f7 f8 f9 f10 f11 f12 f13 f15 f16
            rw [f14]
            clear f14
            have HOd := Lib.hid ((Only.refl [] wq).drew.trans hR (by simp))
            clear hR hF
            cases lb with
            | false =>
              have hxy : ¬ keyI x < keyI y := of_decide_eq_false HLB2.out
              have HNX := Lib.hid (show wd.ownsRow B 3 1 (.slice (some ⟨b, 0, none⟩) n cap) n (flat1 (P ++ (st keyI (W.take (t + 1)) ++ (W.drop (t + 1) ++ S)))) by
                rw [← HFIN.out (s + 1) (by have := HML.out; omega) HC.out (le_take HMS.out (fun z _ hz => by
                  rw [Nat.add_sub_cancel, HMY.out] at hz
                  injection hz with hz
                  subst hz
                  omega) (by have := HML.out; omega))]
                exact ownsRow_only HOd.out HOQ.out (by simp))
              clear hxy
              gi_wp2_with (fail)
              go_wp2_with (fail)
              go_roundw
              case rel => exact ⟨t + 1, by go_num, by omega, by omega, Lib.hid (by omega), HNX, Lib.hid (HOz.out.trans HOd.out (by simp))⟩
              case measure => simp [intOf]; omega
            | true =>
              have hxy : keyI x < keyI y := of_decide_eq_true HLB2.out
              have HC2 := Lib.hid (show ∀ c ∈ M.drop s, keyI x < keyI c from fun c hc => by
                have e2 : M.drop s = y :: M.drop (s + 1) := by
                  have h := HMY.out
                  have hl : s < M.length := (List.getElem?_eq_some_iff.1 h).1
                  rw [List.drop_eq_getElem_cons hl]
                  rw [List.getElem?_eq_getElem hl] at h
                  rw [Option.some.inj h]
                rw [e2] at hc
                rcases List.mem_cons.1 hc with rfl | hc
                · exact hxy
                · exact HC.out c hc)
              have HOWD := ownsRow_only HOd.out HOQ.out (by simp)
              have hlen := HLQ.out (s + 1)
              have ci := (HOd.out.cell (p := ⟨b, a + (s + 1), none⟩) HX.out.1 (by simp)).trans HX.out.2
              have cj := (HOd.out.cell (p := ⟨b, a + s, none⟩) HY.out.1 (by simp)).trans HY.out.2
              have fi := own_frozen HOWD (a + (s + 1))
              have fj := own_frozen HOWD (a + s)
              have hns := own_swap1 (i := a + (s + 1)) (j := a + s) (x := x) (z := y) HOWD
              have i0 : (0 : Int) ≤ (a : Int) + ((s : Int) + 1) := by omega
              have i1 : (a : Int) + ((s : Int) + 1) < (n : Int) := by omega
              have i2 : ((a : Int) + ((s : Int) + 1)).toNat = a + (s + 1) := by omega
              have j0 : (1 : Int) ≤ (a : Int) + ((s : Int) + 1) := by omega
              have j1 : (a : Int) + ((s : Int) + 1) - 1 < (n : Int) := by omega
              have j2 : ((a : Int) + ((s : Int) + 1) - 1).toNat = a + s := by omega
              have j3 : (0 : Int) ≤ (a : Int) + ((s : Int) + 1) - 1 := by omega
              rw [HSW.out] at hns
              have HNS := Lib.hid hns
              clear hxy hns HOWD hlen
              gi_wp2_with (fail)
              go_wp2_with (fail)
              go_region
              go_wp2_with (fail)
              go_roundw
              case rel => exact ⟨s, by go_num, by omega, HC2, HNS, Lib.hid ((((HOz.out.trans HOd.out (by simp)).setCell (.inl (by simp)) _).setCell (.inl (by simp)) _).drew)⟩
              case measure => simp [intOf]; omega
    · have hge : decide ((a : Int) + (t : Int) < (bb : Int)) = false := decide_eq_false (by omega)
      have HEND := Lib.hid (show wr.ownsRow B 3 1 (.slice (some ⟨b, 0, none⟩) n cap) n (flat1 (P ++ (st keyI W ++ S))) by
        have h := HQ.out
        have hw : W.length ≤ t := by have := HWL.out; omega
        rw [List.take_of_length_le hw, List.drop_of_length_le hw, List.nil_append] at h
        exact h)
      go_wp2_with (fail)
      go_end0
      exact ⟨rfl, HEND.out, HO.out⟩
set_option maxHeartbeats 8000000 in
theorem insJ (P W S : List Ent) {w : World} {B b cap n : Nat} (hlen0 : (P ++ (W ++ S)).length = n) (hn : n ≤ 1000000) (how : w.ownsRow B 49 2 (.slice (some ⟨b, 0, none⟩) n cap) n (flat2 (P ++ (W ++ S)))) {a bb : Nat} (ha : P.length = a) (hb : a + W.length = bb) :
    Calls Try.prog 53 #[.slice (some ⟨b, 0, none⟩) n cap, .int .i64 a, .int .i64 bb, .func (.func 22) #[] #[]] w fun e w' => e = .returned (.tuple #[]) ∧ w'.ownsRow B 49 2 (.slice (some ⟨b, 0, none⟩) n cap) n (flat2 (P ++ (st keyJ W ++ S))) ∧ Only [b] w w' := by
  have hbn : bb ≤ n := by rw [← hlen0]; simp; omega
  have HST := Lib.hid (show w.ownsRow B 49 2 (.slice (some ⟨b, 0, none⟩) n cap) n (flat2 (P ++ (st keyJ (W.take 1) ++ (W.drop 1 ++ S)))) by
    have e : st keyJ (W.take 1) = W.take 1 := by
      cases W with
      | nil => rfl
      | cons x r => simp [st, ins]
    rw [e, ← List.append_assoc (W.take 1), List.take_append_drop]
    exact how)
  have han : a ≤ 1000000 := by omega
  have HLEN := Lib.hid hlen0
  have HA := Lib.hid ha
  have HWL := Lib.hid hb
  clear how hlen0 ha hb
  go_enter Try.func53, Try.ntmps53
  go_wp2_with (fail)
  go_loopw [8] (fun i wr => ∃ t : Nat, i = .int .i64 ((a : Int) + (t : Int)) ∧ 1 ≤ t ∧ t ≤ n + 1 ∧ Hid (t ≤ W.length + 1) ∧ Hid (wr.ownsRow B 49 2 (.slice (some ⟨b, 0, none⟩) n cap) n (flat2 (P ++ (st keyJ (W.take t) ++ (W.drop t ++ S))))) ∧ Hid (Only [b] w wr)) (fun i _ => bb + 1 - (intOf i).toNat)
  case atStart => exact ⟨1, rfl, Nat.le_refl _, by omega, Lib.hid (by omega), HST, Lib.hid (Only.refl _ _)⟩
  case round =>
    obtain ⟨t, rfl, ht1, htn, HTW, HQ, HO⟩ := hrel
    by_cases hlt : a + t < bb
    · have htw : t < W.length := by have := HWL.out; omega
      obtain ⟨x, hx⟩ : ∃ x, W[t]? = some x := ⟨_, List.getElem?_eq_getElem htw⟩
      have hx2 : W.drop t = x :: W.drop (t + 1) := by
        rw [List.drop_eq_getElem_cons htw]
        rw [List.getElem?_eq_getElem htw] at hx
        rw [Option.some.inj hx]
      have hx3 : W.take (t + 1) = W.take t ++ [x] := by rw [List.take_add_one, hx]; rfl
      obtain ⟨M, hM⟩ : ∃ M, st keyJ (W.take t) = M := ⟨_, rfl⟩
      obtain ⟨R, hR⟩ : ∃ R, W.drop (t + 1) ++ S = R := ⟨_, rfl⟩
      have hMl : M.length = t := by rw [← hM, st_len]; simp; omega
      have HMS := Lib.hid (show Sorted keyJ M by rw [← hM]; exact st_sorted _)
      have HFIN := Lib.hid (show ∀ s, s ≤ M.length → (∀ c ∈ M.drop s, keyJ x < keyJ c) → (∀ y ∈ M.take s, keyJ y ≤ keyJ x) → insL P M R x s = P ++ (st keyJ (W.take (t + 1)) ++ (W.drop (t + 1) ++ S)) from fun s hs h1 h2 => by
        have e := ins_mid HMS.out hs h1 h2
        have e2 : st keyJ (W.take (t + 1)) = st keyJ (M ++ [x]) := by rw [hx3, ← hM, st_app]
        rw [e2, ← e, hR]
        unfold insL
        simp only [List.append_assoc, List.cons_append])
      have HLQ := Lib.hid (show ∀ s, (insL P M R x s).length = n from fun s => by
        rw [insL_len, ← HLEN.out, ← hR]
        simp
        omega)
      have HS0 := Lib.hid (show wr.ownsRow B 49 2 (.slice (some ⟨b, 0, none⟩) n cap) n (flat2 (insL P M R x t)) by
        have h := HQ.out
        rw [hM, hx2] at h
        unfold insL
        rw [List.take_of_length_le (by omega), List.drop_of_length_le (by omega), List.nil_append, ← hR]
        exact h)
      have HML := Lib.hid hMl
      clear hx hx2 hx3 hM hR hMl
      have hi : (a : Int) + (t : Int) < (bb : Int) := by omega
      go_wp2_with (fail)
      go_loopw [9] (fun j wz => ∃ s : Nat, j = .int .i64 ((a : Int) + (s : Int)) ∧ s ≤ t ∧ Hid (∀ c ∈ M.drop s, keyJ x < keyJ c) ∧ Hid (wz.ownsRow B 49 2 (.slice (some ⟨b, 0, none⟩) n cap) n (flat2 (insL P M R x s))) ∧ Hid (Only [b] w wz)) (fun j _ => (intOf j).toNat)
      case atStart => exact ⟨t, rfl, Nat.le_refl _, Lib.hid (fun c hc => by rw [List.drop_of_length_le (by have := HML.out; omega)] at hc; cases hc), HS0, HO⟩
      case round =>
        obtain ⟨wq, rfl⟩ : ∃ wq : World, wq = wr := ⟨_, rfl⟩
        obtain ⟨s, rfl, hst, HC, HOQ, HOz⟩ := hrel
        have hlen := HLQ.out s
        have HOWQ := HOQ.out
        cases s with
        | zero =>
          have hg : decide ((a : Int) < (a : Int)) = false := by simp
          have HNX := Lib.hid (show wq.ownsRow B 49 2 (.slice (some ⟨b, 0, none⟩) n cap) n (flat2 (P ++ (st keyJ (W.take (t + 1)) ++ (W.drop (t + 1) ++ S)))) by
            rw [← HFIN.out 0 (Nat.zero_le _) HC.out (fun y hy => by simp at hy)]; exact HOWQ)
          have e0 : (a : Int) + ((0 : Nat) : Int) = (a : Int) := by omega
          simp only [e0]
          clear hlen HOWQ e0
          go_wp2_with (fail)
          go_quiet (fail)
          go_wp2_with (fail)
          go_roundw
          case rel => exact ⟨t + 1, by go_num, by omega, by omega, Lib.hid (by omega), Lib.hid (ownsRow_only ((Only.refl [] _).drewN _) HNX.out (by simp)), Lib.hid (HOz.out.drewN _)⟩
          case measure => simp [intOf]; omega
        | succ s =>
          obtain ⟨y, hy⟩ : ∃ y, M[s]? = some y := ⟨_, List.getElem?_eq_getElem (by have := HML.out; omega)⟩
          obtain ⟨q1, q2⟩ := insL_step (P := P) (R := R) (x := x) (by have := HML.out; omega) hy
          have hxi := insL_x (P := P) (R := R) (x := x) (M := M) (s := s + 1) (by have := HML.out; omega)
          rw [HA.out] at q1 q2 hxi
          have hyi := q1
          have hk1 : (0 : Int) ≤ (a : Int) + ((s + 1 : Nat) : Int) - 1 := by omega
          have HX := Lib.hid (show b < wq.heap.size ∧ wq.cell? ⟨b, (a + (s + 1)) * 2, none⟩ = some (.int .i64 x.1) ∧ wq.cell? ⟨b, (a + (s + 1)) * 2 + 1, none⟩ = some (.int .i64 x.2) from by obtain ⟨b', hA, hb, -, ci, ci1⟩ := own_cell hlen.symm HOWQ hxi; cases hA; exact ⟨hb, ci, ci1⟩)
          have HY := Lib.hid (show b < wq.heap.size ∧ wq.cell? ⟨b, (a + s) * 2, none⟩ = some (.int .i64 y.1) ∧ wq.cell? ⟨b, (a + s) * 2 + 1, none⟩ = some (.int .i64 y.2) from by obtain ⟨b', hA, hb, -, ci, ci1⟩ := own_cell hlen.symm HOWQ hyi; cases hA; exact ⟨hb, ci, ci1⟩)
          have HMY := Lib.hid hy
          have HSW := Lib.hid q2
          obtain ⟨lb, hlb⟩ : ∃ lb, decide (keyJ x < keyJ y) = lb := ⟨_, rfl⟩
          have HLB := Lib.hid (show decide (cmpZ (keyJ x) (keyJ y) < 0) = lb by rw [cmpZ_neg, hlb])
          have HLB2 := Lib.hid hlb
          have HCA := Lib.hid (fun w => level_any x.1 x.2 y.1 y.2 w)
          obtain ⟨cz, hcz⟩ : ∃ cz, cmpZ (keyJ x) (keyJ y) = cz := ⟨_, rfl⟩
          have hcz2 : cmpZ x.1 y.1 = cz := hcz
          rw [hcz] at HLB
          rw [hcz2] at HCA
          have e1 : ((s + 1 : Nat) : Int) = (s : Int) + 1 := by omega
          have hsn : a + (s + 1) < n := by have := HTW.out; omega
          simp only [e1]
          have hgt : (a : Int) < (a : Int) + ((s : Int) + 1) := by omega
          have hgtd : decide ((a : Int) < (a : Int) + ((s : Int) + 1)) = true := decide_eq_true hgt
          clear hlb hcz hcz2 hxi hyi q1 q2 hy hlen HOWQ e1 hk1
          go_wp2_with (fail)
          refine (wpIn_wide (n := 9)).1 ?_
          refine wpIn_region_relR 17 (Only []) (fr := ?frg) (tl := ?tlg) (fun iq v wv => match iq with
            | 0 => v = .int .i64 ((a : Int) + ((s : Int) + 1))
            | 1 => v = .int .i64 (a : Nat)
            | 2 => v = .bool true
            | 3 => v = .bool true
            | 4 => v = .func (.func 22) #[] #[]
            | 5 => v = .slice (some ⟨b, 0, none⟩) n cap
            | 6 => v = .int .i64 ((a : Int) + ((s : Int) + 1))
            | 7 => v = .pointer (some ⟨b, (a + (s + 1)) * 2, none⟩)
            | 8 => v = .agg #[.int .i64 x.1, .int .i64 x.2]
            | 9 => v = .slice (some ⟨b, 0, none⟩) n cap
            | 10 => v = .int .i64 ((a : Int) + ((s : Int) + 1))
            | 11 => v = .int .i64 ((a : Int) + ((s : Int) + 1) - 1)
            | 12 => v = .pointer (some ⟨b, (a + s) * 2, none⟩)
            | 13 => v = .agg #[.int .i64 y.1, .int .i64 y.2]
            | 14 => v = .int .i64 cz
            | 15 => v = .bool lb
            | 16 => v = .bool lb
            | _ => True) (.inl rfl) (by kernel_rfl) (by kernel_rfl) (by kernel_rfl) (by kernel_rfl) (by kernel_rfl) (by kernel_rfl) (by decide) ?htlg ?hfrg (Only.refl _ _) (fun _ _ _ h k => h.trans k (fun _ hx => .inl hx)) ?stabg ?stepsg ?doneg
          case htlg => simp only [List.drop_succ_cons, List.drop_zero]; rfl
          case hfrg => intro vals; simp only [putAll, dstAt, Act.put, List.getElem?_toArray, List.getElem?_cons_zero, List.getElem?_cons_succ, Option.bind_some, List.setIfInBounds_toArray, List.set_cons_zero, List.set_cons_succ]; rfl
          case stabg =>
            intro i v wa wb h
            try dsimp only
            split <;> first | exact id
          case stepsg =>
            refine ⟨?_, ?_, ?_, ?_, ?_, ?_, ?_, ?_, ?_, ?_, ?_, ?_, ?_, ?_, ?_, ?_, ?_, trivial⟩
            · intro vals wr hR hp K hK
              dsimp only at hK ⊢
              clear hp
              unfold RunsOp
              go_simp
              exact hK.out _ _ ⟨_, rfl, Only.refl _ _, rfl⟩
            · intro vals wr hR hp K hK
              dsimp only at hK ⊢
              clear hp
              unfold RunsOp
              go_simp
              exact hK.out _ _ ⟨_, rfl, Only.refl _ _, rfl⟩
            · intro vals wr hR hp K hK
              dsimp only at hK ⊢
              obtain ⟨p0, p1, -⟩ := hp
              replace p0 := p0 rfl
              replace p1 := p1 rfl
              dsimp only at p0 p1
              rw [p0, p1] at hK ⊢
              clear p0 p1
              unfold RunsOp
              go_simp
              exact hK.out _ _ ⟨_, rfl, Only.refl _ _, rfl⟩
            · intro vals wr hR hp K hK
              dsimp only at hK ⊢
              obtain ⟨p2, -⟩ := hp
              replace p2 := p2 rfl
              dsimp only at p2
              rw [p2] at hK ⊢
              clear p2
              unfold RunsOp
              go_simp
              exact hK.out _ _ ⟨_, rfl, Only.refl _ _, rfl⟩
            · intro vals wr hR hp K hK
              dsimp only at hK ⊢
              obtain ⟨p3, -⟩ := hp
              replace p3 := p3 rfl
              dsimp only at p3
              rw [p3] at hK ⊢
              clear p3
              unfold RunsOp
              go_simp
              exact hK.out _ _ ⟨_, rfl, Only.refl _ _, rfl⟩
            · intro vals wr hR hp K hK
              dsimp only at hK ⊢
              obtain ⟨p3, -⟩ := hp
              replace p3 := p3 rfl
              dsimp only at p3
              rw [p3] at hK ⊢
              clear p3
              unfold RunsOp
              go_simp
              exact hK.out _ _ ⟨_, rfl, Only.refl _ _, rfl⟩
            · intro vals wr hR hp K hK
              dsimp only at hK ⊢
              obtain ⟨p3, -⟩ := hp
              replace p3 := p3 rfl
              dsimp only at p3
              rw [p3] at hK ⊢
              clear p3
              unfold RunsOp
              go_simp
              exact hK.out _ _ ⟨_, rfl, Only.refl _ _, rfl⟩
            · intro vals wr hR hp K hK
              dsimp only at hK ⊢
              obtain ⟨p5, p6, p3, -⟩ := hp
              replace p5 := p5 rfl
              replace p6 := p6 rfl
              replace p3 := p3 rfl
              dsimp only at p5 p6 p3
              rw [p5, p6, p3] at hK ⊢
              clear p5 p6 p3
              unfold RunsOp
              have i1 : (0 : Int) ≤ (a : Int) + ((s : Int) + 1) := by omega
              have i2 : (a : Int) + ((s : Int) + 1) < (n : Int) := by omega
              have i3 : ((a : Int) + ((s : Int) + 1)).toNat = (a + (s + 1)) := by omega
              go_simp
              exact hK.out _ _ ⟨_, rfl, Only.refl _ _, rfl⟩
            · intro vals wr hR hp K hK
              dsimp only at hK ⊢
              obtain ⟨p7, p3, -⟩ := hp
              replace p7 := p7 rfl
              replace p3 := p3 rfl
              dsimp only at p7 p3
              rw [p7, p3] at hK ⊢
              clear p7 p3
              unfold RunsOp
              have k0 := (hR.cell (p := ⟨b, (a + (s + 1)) * 2, none⟩) HX.out.1 (by simp)).trans HX.out.2.1
              have k1 := (hR.cell (p := ⟨b, (a + (s + 1)) * 2 + 1, none⟩) HX.out.1 (by simp)).trans HX.out.2.2
              go_simp
              exact hK.out _ _ ⟨_, rfl, Only.refl _ _, rfl⟩
            · intro vals wr hR hp K hK
              dsimp only at hK ⊢
              obtain ⟨p3, -⟩ := hp
              replace p3 := p3 rfl
              dsimp only at p3
              rw [p3] at hK ⊢
              clear p3
              unfold RunsOp
              go_simp
              exact hK.out _ _ ⟨_, rfl, Only.refl _ _, rfl⟩
            · intro vals wr hR hp K hK
              dsimp only at hK ⊢
              obtain ⟨p3, -⟩ := hp
              replace p3 := p3 rfl
              dsimp only at p3
              rw [p3] at hK ⊢
              clear p3
              unfold RunsOp
              go_simp
              exact hK.out _ _ ⟨_, rfl, Only.refl _ _, rfl⟩
            · intro vals wr hR hp K hK
              dsimp only at hK ⊢
              obtain ⟨p10, p3, -⟩ := hp
              replace p10 := p10 rfl
              replace p3 := p3 rfl
              dsimp only at p10 p3
              rw [p10, p3] at hK ⊢
              clear p10 p3
              unfold RunsOp
              have hwr : IntKind.i64.wrap ((a : Int) + ((s : Int) + 1) - 1) = (a : Int) + ((s : Int) + 1) - 1 := IntWalk.i64_in _ (by omega)
              have i4 : (1 : Int) ≤ (a : Int) + ((s : Int) + 1) := by omega
              have i5 : (a : Int) + ((s : Int) + 1) ≤ 1000000 := by omega
              go_simp
              exact hK.out _ _ ⟨_, rfl, Only.refl _ _, rfl⟩
            · intro vals wr hR hp K hK
              dsimp only at hK ⊢
              obtain ⟨p9, p11, p3, -⟩ := hp
              replace p9 := p9 rfl
              replace p11 := p11 rfl
              replace p3 := p3 rfl
              dsimp only at p9 p11 p3
              rw [p9, p11, p3] at hK ⊢
              clear p9 p11 p3
              unfold RunsOp
              have i4 : (1 : Int) ≤ (a : Int) + ((s : Int) + 1) := by omega
              have i1 : (0 : Int) ≤ (a : Int) + ((s : Int) + 1) - 1 := by omega
              have i2 : (a : Int) + ((s : Int) + 1) - 1 < (n : Int) := by omega
              have i3 : ((a : Int) + ((s : Int) + 1) - 1).toNat = (a + s) := by omega
              go_simp
              exact hK.out _ _ ⟨_, rfl, Only.refl _ _, rfl⟩
            · intro vals wr hR hp K hK
              dsimp only at hK ⊢
              obtain ⟨p12, p3, -⟩ := hp
              replace p12 := p12 rfl
              replace p3 := p3 rfl
              dsimp only at p12 p3
              rw [p12, p3] at hK ⊢
              clear p12 p3
              unfold RunsOp
              have k0 := (hR.cell (p := ⟨b, (a + s) * 2, none⟩) HY.out.1 (by simp)).trans HY.out.2.1
              have k1 := (hR.cell (p := ⟨b, (a + s) * 2 + 1, none⟩) HY.out.1 (by simp)).trans HY.out.2.2
              go_simp
              exact hK.out _ _ ⟨_, rfl, Only.refl _ _, rfl⟩
            · intro vals wr hR hp K hK
              dsimp only at hK ⊢
              obtain ⟨p4, p8, p13, p3, -, -⟩ := hp
              replace p4 := p4 rfl
              replace p8 := p8 rfl
              replace p13 := p13 rfl
              replace p3 := p3 rfl
              dsimp only at p4 p8 p13 p3
              rw [p4, p8, p13, p3] at hK ⊢
              clear p4 p8 p13 p3
              unfold RunsOp
              go_simp
              refine (HCA.out _).mono ?_
              rintro e' w2 ⟨rfl, o2⟩
              exact hK.out _ _ ⟨_, rfl, o2, rfl⟩
            · intro vals wr hR hp K hK
              dsimp only at hK ⊢
              obtain ⟨p14, p3, -⟩ := hp
              replace p14 := p14 rfl
              replace p3 := p3 rfl
              dsimp only at p14 p3
              rw [p14, p3] at hK ⊢
              clear p14 p3
              unfold RunsOp
              have hlb := HLB.out
              go_simp
              exact hK.out _ _ ⟨_, rfl, Only.refl _ _, rfl⟩
            · intro vals wr hR hp K hK
              dsimp only at hK ⊢
              obtain ⟨p3, p15, -⟩ := hp
              replace p3 := p3 rfl
              replace p15 := p15 rfl
              dsimp only at p3 p15
              rw [p3, p15] at hK ⊢
              clear p3 p15
              unfold RunsOp
              go_simp
              exact hK.out _ _ ⟨_, rfl, Only.refl _ _, rfl⟩
          case doneg =>
            intro vals wd hR hF
            have f0 : vals 0 = .int .i64 ((a : Int) + ((s : Int) + 1)) := hF 0 (by decide)
            have f1 : vals 1 = .int .i64 (a : Nat) := hF 1 (by decide)
            have f2 : vals 2 = .bool true := hF 2 (by decide)
            have f3 : vals 3 = .bool true := hF 3 (by decide)
            have f4 : vals 4 = .func (.func 22) #[] #[] := hF 4 (by decide)
            have f5 : vals 5 = .slice (some ⟨b, 0, none⟩) n cap := hF 5 (by decide)
            have f6 : vals 6 = .int .i64 ((a : Int) + ((s : Int) + 1)) := hF 6 (by decide)
            have f7 : vals 7 = .pointer (some ⟨b, (a + (s + 1)) * 2, none⟩) := hF 7 (by decide)
            have f8 : vals 8 = .agg #[.int .i64 x.1, .int .i64 x.2] := hF 8 (by decide)
            have f9 : vals 9 = .slice (some ⟨b, 0, none⟩) n cap := hF 9 (by decide)
            have f10 : vals 10 = .int .i64 ((a : Int) + ((s : Int) + 1)) := hF 10 (by decide)
            have f11 : vals 11 = .int .i64 ((a : Int) + ((s : Int) + 1) - 1) := hF 11 (by decide)
            have f12 : vals 12 = .pointer (some ⟨b, (a + s) * 2, none⟩) := hF 12 (by decide)
            have f13 : vals 13 = .agg #[.int .i64 y.1, .int .i64 y.2] := hF 13 (by decide)
            have f14 : (vals 14) = .int .i64 cz := hF 14 (by decide)
            have f15 : vals 15 = .bool lb := hF 15 (by decide)
            have f16 : vals 16 = .bool lb := hF 16 (by decide)
            rw [f0, f1, f2, f3, f4, f5, f6, f7, f8, f9, f10, f11, f12, f13, f15, f16]
            clear f0 f1 f2 f3 f4 f5 f6 f7 f8 f9 f10 f11 f12 f13 f15 f16
            rw [f14]
            clear f14
            have HOd := Lib.hid ((Only.refl [] wq).drew.trans hR (by simp))
            clear hR hF
            cases lb with
            | false =>
              have hxy : ¬ keyJ x < keyJ y := of_decide_eq_false HLB2.out
              have HNX := Lib.hid (show wd.ownsRow B 49 2 (.slice (some ⟨b, 0, none⟩) n cap) n (flat2 (P ++ (st keyJ (W.take (t + 1)) ++ (W.drop (t + 1) ++ S)))) by
                rw [← HFIN.out (s + 1) (by have := HML.out; omega) HC.out (le_take HMS.out (fun z _ hz => by
                  rw [Nat.add_sub_cancel, HMY.out] at hz
                  injection hz with hz
                  subst hz
                  omega) (by have := HML.out; omega))]
                exact ownsRow_only HOd.out HOQ.out (by simp))
              clear hxy
              gi_wp2_with (fail)
              go_wp2_with (fail)
              go_roundw
              case rel => exact ⟨t + 1, by go_num, by omega, by omega, Lib.hid (by omega), HNX, Lib.hid (HOz.out.trans HOd.out (by simp))⟩
              case measure => simp [intOf]; omega
            | true =>
              have hxy : keyJ x < keyJ y := of_decide_eq_true HLB2.out
              have HC2 := Lib.hid (show ∀ c ∈ M.drop s, keyJ x < keyJ c from fun c hc => by
                have e2 : M.drop s = y :: M.drop (s + 1) := by
                  have h := HMY.out
                  have hl : s < M.length := (List.getElem?_eq_some_iff.1 h).1
                  rw [List.drop_eq_getElem_cons hl]
                  rw [List.getElem?_eq_getElem hl] at h
                  rw [Option.some.inj h]
                rw [e2] at hc
                rcases List.mem_cons.1 hc with rfl | hc
                · exact hxy
                · exact HC.out c hc)
              have HOWD := ownsRow_only HOd.out HOQ.out (by simp)
              have hlen := HLQ.out (s + 1)
              have ci := (HOd.out.cell (p := ⟨b, (a + (s + 1)) * 2, none⟩) HX.out.1 (by simp)).trans HX.out.2.1
              have ci1 := (HOd.out.cell (p := ⟨b, (a + (s + 1)) * 2 + 1, none⟩) HX.out.1 (by simp)).trans HX.out.2.2
              have cj := (HOd.out.cell (p := ⟨b, (a + s) * 2, none⟩) HY.out.1 (by simp)).trans HY.out.2.1
              have cj1 := (HOd.out.cell (p := ⟨b, (a + s) * 2 + 1, none⟩) HY.out.1 (by simp)).trans HY.out.2.2
              have fi := own_frozen HOWD ((a + (s + 1)) * 2)
              have fi1 := own_frozen HOWD ((a + (s + 1)) * 2 + 1)
              have fj := own_frozen HOWD ((a + s) * 2)
              have fj1 := own_frozen HOWD ((a + s) * 2 + 1)
              have hns := own_swap2 (i := a + (s + 1)) (j := a + s) (x := x) (z := y) hlen HOWD (by omega) (by omega)
              have i0 : (0 : Int) ≤ (a : Int) + ((s : Int) + 1) := by omega
              have i1 : (a : Int) + ((s : Int) + 1) < (n : Int) := by omega
              have i2 : ((a : Int) + ((s : Int) + 1)).toNat = a + (s + 1) := by omega
              have j0 : (1 : Int) ≤ (a : Int) + ((s : Int) + 1) := by omega
              have j1 : (a : Int) + ((s : Int) + 1) - 1 < (n : Int) := by omega
              have j2 : ((a : Int) + ((s : Int) + 1) - 1).toNat = a + s := by omega
              have j3 : (0 : Int) ≤ (a : Int) + ((s : Int) + 1) - 1 := by omega
              rw [HSW.out] at hns
              have HNS := Lib.hid hns
              clear hxy hns HOWD hlen
              gi_wp2_with (fail)
              go_wp2_with (fail)
              go_region
              go_wp2_with (fail)
              go_roundw
              case rel => exact ⟨s, by go_num, by omega, HC2, HNS, Lib.hid ((((((HOz.out.trans HOd.out (by simp)).setCell (.inl (by simp)) _).setCell (.inl (by simp)) _).setCell (.inl (by simp)) _).setCell (.inl (by simp)) _).drew)⟩
              case measure => simp [intOf]; omega
    · have hge : decide ((a : Int) + (t : Int) < (bb : Int)) = false := decide_eq_false (by omega)
      have HEND := Lib.hid (show wr.ownsRow B 49 2 (.slice (some ⟨b, 0, none⟩) n cap) n (flat2 (P ++ (st keyJ W ++ S))) by
        have h := HQ.out
        have hw : W.length ≤ t := by have := HWL.out; omega
        rw [List.take_of_length_le hw, List.drop_of_length_le hw, List.nil_append] at h
        exact h)
      go_wp2_with (fail)
      go_end0
      exact ⟨rfl, HEND.out, HO.out⟩
end Go.Proofs.Ytpedlapemgjgaaa
