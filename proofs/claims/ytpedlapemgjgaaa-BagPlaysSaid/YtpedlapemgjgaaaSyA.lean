/- symMergeCmpFunc where one side has one entry. -/
import Derived.Test.YtpedlapemgjgaaaIns
namespace Go.Proofs.Ytpedlapemgjgaaa
open Go.RowKit Go.Kx Go.Bag
set_option maxRecDepth 100000
section
variable {α : Type} {key : α → Int}
theorem insL_fwd {P M R : List α} {x y : α} {s : Nat} (hs : s + 1 ≤ M.length) (hy : M[s]? = some y) : (insL P M R x s)[P.length + s + 1]? = some y ∧ swap (insL P M R x s) (P.length + s) (P.length + s + 1) x y = insL P M R x (s + 1) := by
  have hy2 : M[s] = y := by rw [List.getElem?_eq_getElem (by omega)] at hy; exact Option.some.inj hy
  have e1 : M.take (s + 1) = M.take s ++ [y] := by rw [List.take_succ_eq_append_getElem (by omega), hy2]
  have e2 : M.drop s = y :: M.drop (s + 1) := by rw [List.drop_eq_getElem_cons (by omega), hy2]
  have e3 : insL P M R x (s + 1) = (P ++ M.take s) ++ y :: ([] ++ x :: (M.drop (s + 1) ++ R)) := by
    unfold insL
    rw [e1]
    simp only [List.append_assoc, List.cons_append, List.nil_append]
  have e4 : insL P M R x s = (P ++ M.take s) ++ x :: ([] ++ y :: (M.drop (s + 1) ++ R)) := by
    unfold insL
    rw [e2]
    simp only [List.append_assoc, List.cons_append, List.nil_append]
  have l1 : (P ++ M.take s).length = P.length + s := by simp; omega
  refine ⟨?_, ?_⟩
  · rw [e4, List.getElem?_append_right (by omega), l1]
    have : P.length + s + 1 - (P.length + s) = 1 := by omega
    rw [this]
    rfl
  · rw [e3, e4, ← swap_mid (P ++ M.take s) [] (M.drop (s + 1) ++ R) x y, l1]
    rfl
/-- an entry behind x -/
theorem insL_behind {P M R : List α} {x : α} {i : Nat} (hi : i < M.length) : (insL P M R x 0)[P.length + 1 + i]? = M[i]? := by
  unfold insL
  rw [List.getElem?_append_right (by omega)]
  have e : P.length + 1 + i - P.length = i + 1 := by omega
  rw [e]
  simp only [List.take_zero, List.nil_append, List.drop_zero, List.getElem?_cons_succ]
  exact List.getElem?_append_left hi
/-- an entry ahead of x -/
theorem insL_ahead {P M R : List α} {x : α} {i : Nat} (hi : i < M.length) : (insL P M R x M.length)[P.length + i]? = M[i]? := by
  unfold insL
  rw [List.getElem?_append_right (by omega)]
  have e : P.length + i - P.length = i := by omega
  rw [e, List.take_of_length_le (Nat.le_refl _)]
  exact List.getElem?_append_left hi
theorem low_take {M : List α} (h : Sorted key M) {i : Nat} {y : α} {p : Int → Prop} (hp : ∀ z : α, key z ≤ key y → p (key z)) (hy : M[i]? = some y) : ∀ c ∈ M.take (i + 1), p (key c) := by
  intro c hc
  obtain ⟨j, hj⟩ := List.getElem?_of_mem hc
  have hjl : j < i + 1 := by
    have := (List.getElem?_eq_some_iff.1 hj).1
    simp at this
    omega
  rw [List.getElem?_take_of_lt hjl] at hj
  exact hp c (at_mono h (by omega) hj hy)
theorem high_drop {M : List α} (h : Sorted key M) {i : Nat} {y : α} {p : Int → Prop} (hp : ∀ z : α, key y ≤ key z → p (key z)) (hy : M[i]? = some y) : ∀ c ∈ M.drop i, p (key c) := by
  intro c hc
  obtain ⟨j, hj⟩ := List.getElem?_of_mem hc
  rw [List.getElem?_drop] at hj
  exact hp c (at_mono h (by omega) hy hj)
end
set_option maxHeartbeats 8000000 in
theorem symAI (P N S : List Int) (x : Int) {w : World} {B b cap n : Nat} (hN : Sorted keyI N) (hlen0 : (P ++ (x :: (N ++ S))).length = n) (hn : n ≤ 1000000) (how : w.ownsRow B 3 1 (.slice (some ⟨b, 0, none⟩) n cap) n (flat1 (P ++ (x :: (N ++ S))))) {a m bb : Nat} (ha : P.length = a) (hm : a + 1 = m) (hb : m + N.length = bb) :
    Calls Try.prog 56 #[.slice (some ⟨b, 0, none⟩) n cap, .int .i64 a, .int .i64 m, .int .i64 bb, .func (.func 11) #[] #[]] w fun e w' => e = .returned (.tuple #[]) ∧ w'.ownsRow B 3 1 (.slice (some ⟨b, 0, none⟩) n cap) n (flat1 (P ++ (st keyI (x :: N) ++ S))) ∧ Only [b] w w' := by
  have hbn : bb ≤ n := by rw [← hlen0]; simp; omega
  have HST := Lib.hid (show w.ownsRow B 3 1 (.slice (some ⟨b, 0, none⟩) n cap) n (flat1 (insL P N S x 0)) from how)
  have HLQ := Lib.hid (show ∀ s, (insL P N S x s).length = n from fun s => by rw [insL_len, ← hlen0]; simp; omega)
  have HA := Lib.hid ha
  have HSN := Lib.hid hN
  have HNL := Lib.hid hb
  have HM := Lib.hid hm
  have hmi : (m : Int) - (a : Int) = 1 := by omega
  clear how hlen0 ha hb hN hm
  go_enter Try.func56, Try.ntmps56
  go_wp2_with (fail)
  clear hmi
  go_loopw [10, 11] (fun i j wr => ∃ lo hi : Nat, i = .int .i64 (lo : Int) ∧ j = .int .i64 (hi : Int) ∧ m ≤ lo ∧ lo ≤ hi ∧ hi ≤ bb ∧ Hid (∀ c ∈ N.take (lo - m), keyI c < keyI x) ∧ Hid (∀ c ∈ N.drop (hi - m), keyI x ≤ keyI c) ∧ Hid (wr.ownsRow B 3 1 (.slice (some ⟨b, 0, none⟩) n cap) n (flat1 (insL P N S x 0))) ∧ Hid (Only [b] w wr)) (fun i j _ => (intOf j).toNat - (intOf i).toNat)
  case atStart => exact ⟨m, bb, rfl, rfl, Nat.le_refl _, by have := HNL.out; omega, Nat.le_refl _, Lib.hid (fun c hc => by rw [Nat.sub_self] at hc; cases hc), Lib.hid (fun c hc => by rw [List.drop_of_length_le (by have := HNL.out; omega)] at hc; cases hc), HST, Lib.hid (Only.refl _ _)⟩
  case round =>
    obtain ⟨lo, hi, rfl, rfl, hml, hlh, hhb, HLO, HHI, HOQ, HO⟩ := hrel
    by_cases hlt : lo < hi
    · obtain ⟨wq, rfl⟩ : ∃ wq : World, wq = wr := ⟨_, rfl⟩
      obtain ⟨h, hh⟩ : ∃ h : Nat, (lo + hi) / 2 = h := ⟨_, rfl⟩
      have HH := Lib.hid (show ((lo : Int) + (hi : Int)) / 2 = (h : Int) by omega)
      have hh1 : lo ≤ h := by omega
      have hh2 : h < hi := by omega
      clear hh
      obtain ⟨y, hy⟩ : ∃ y, N[h - m]? = some y := ⟨_, List.getElem?_eq_getElem (by have := HNL.out; omega)⟩
      have hlen := HLQ.out 0
      have HOWQ := HOQ.out
      have hyi : (insL P N S x 0)[h]? = some y := by
        have e := insL_behind (P := P) (R := S) (x := x) (M := N) (i := h - m) (by have := HNL.out; omega)
        have e2 : P.length + 1 + (h - m) = h := by have := HA.out; have := HM.out; omega
        rw [e2, hy] at e
        exact e
      have hxi : (insL P N S x 0)[a]? = some x := by
        have e := insL_x (P := P) (R := S) (x := x) (M := N) (s := 0) (by omega)
        rw [Nat.add_zero, HA.out] at e
        exact e
      have HX := Lib.hid (show b < wq.heap.size ∧ wq.cell? ⟨b, a, none⟩ = some (.int .i64 x) from by obtain ⟨b', hA, hb, -, ci⟩ := own_cell1 hlen.symm HOWQ hxi; cases hA; exact ⟨hb, ci⟩)
      have HY := Lib.hid (show b < wq.heap.size ∧ wq.cell? ⟨b, h, none⟩ = some (.int .i64 y) from by obtain ⟨b', hA, hb, -, ci⟩ := own_cell1 hlen.symm HOWQ hyi; cases hA; exact ⟨hb, ci⟩)
      have HMY := Lib.hid hy
      obtain ⟨lb, hlb⟩ : ∃ lb, decide (keyI y < keyI x) = lb := ⟨_, rfl⟩
      have HLB := Lib.hid (show decide (cmpZ (keyI y) (keyI x) < 0) = lb by rw [cmpZ_neg, hlb])
      have HLB2 := Lib.hid hlb
      have HCA := Lib.hid (fun w => order_any y x w)
      obtain ⟨cz, hcz⟩ : ∃ cz, cmpZ (keyI y) (keyI x) = cz := ⟨_, rfl⟩
      have hcz2 : cmpZ y x = cz := hcz
      rw [hcz] at HLB
      rw [hcz2] at HCA
      have han : a < n := by have := HM.out; omega
      have hhn : h < n := by omega
      clear hlb hcz hcz2 hxi hyi hy hlen HOWQ
      go_wp2_with (fail)
      simp only [HH.out]
      refine (wpIn_wide (n := 9)).1 ?_
      refine wpIn_region_relR 11 (Only []) (fr := ?frg) (tl := ?tlg) (fun iq v wv => match iq with
        | 0 => v = .func (.func 11) #[] #[]
        | 1 => v = .slice (some ⟨b, 0, none⟩) n cap
        | 2 => v = .int .i64 (h : Nat)
        | 3 => v = .pointer (some ⟨b, h, none⟩)
        | 4 => v = .int .i64 y
        | 5 => v = .slice (some ⟨b, 0, none⟩) n cap
        | 6 => v = .int .i64 (a : Nat)
        | 7 => v = .pointer (some ⟨b, a, none⟩)
        | 8 => v = .int .i64 x
        | 9 => v = .int .i64 cz
        | 10 => v = .bool lb
        | _ => True) (.inl rfl) (by kernel_rfl) (by kernel_rfl) (by kernel_rfl) (by kernel_rfl) (by kernel_rfl) (by kernel_rfl) (by decide) ?htlg ?hfrg (Only.refl _ _) (fun _ _ _ h k => h.trans k (fun _ hx => .inl hx)) ?stabg ?stepsg ?doneg
      case htlg => simp only [List.drop_succ_cons, List.drop_zero]; rfl
      case hfrg => intro vals; simp only [putAll, dstAt, Act.put, List.getElem?_toArray, List.getElem?_cons_zero, List.getElem?_cons_succ, Option.bind_some, List.setIfInBounds_toArray, List.set_cons_zero, List.set_cons_succ]; rfl
      case stabg =>
        intro i v wa wb h
        try dsimp only
        split <;> first | exact id
      case stepsg =>
        refine ⟨?_, ?_, ?_, ?_, ?_, ?_, ?_, ?_, ?_, ?_, ?_, trivial⟩
        · intro vals wr hR hp K hK
          dsimp only at hK ⊢
          clear hp
          unfold RunsOp
          go_simp
          exact hK.out _ _ ⟨_, rfl, Only.refl _ _, rfl⟩
        · intro vals wr hR hp K hK
          dsimp only at hK ⊢
          clear hp
          unfold RunsOp
          go_simp
          exact hK.out _ _ ⟨_, rfl, Only.refl _ _, rfl⟩
        · intro vals wr hR hp K hK
          dsimp only at hK ⊢
          clear hp
          unfold RunsOp
          go_simp
          exact hK.out _ _ ⟨_, rfl, Only.refl _ _, rfl⟩
        · intro vals wr hR hp K hK
          dsimp only at hK ⊢
          obtain ⟨p1, p2, -⟩ := hp
          replace p1 := p1 rfl
          replace p2 := p2 rfl
          dsimp only at p1 p2
          rw [p1, p2] at hK ⊢
          clear p1 p2
          unfold RunsOp
          have i1 : (0 : Int) ≤ ((h : Nat) : Int) := by omega
          have i2 : ((h : Nat) : Int) < (n : Int) := by omega
          have i3 : ((h : Nat) : Int).toNat = h := by omega
          go_simp
          exact hK.out _ _ ⟨_, rfl, Only.refl _ _, rfl⟩
        · intro vals wr hR hp K hK
          dsimp only at hK ⊢
          obtain ⟨p3, -⟩ := hp
          replace p3 := p3 rfl
          dsimp only at p3
          rw [p3] at hK ⊢
          clear p3
          unfold RunsOp
          have k0 := (hR.cell (p := ⟨b, h, none⟩) HY.out.1 (by simp)).trans HY.out.2
          go_simp
          exact hK.out _ _ ⟨_, rfl, Only.refl _ _, rfl⟩
        · intro vals wr hR hp K hK
          dsimp only at hK ⊢
          clear hp
          unfold RunsOp
          go_simp
          exact hK.out _ _ ⟨_, rfl, Only.refl _ _, rfl⟩
        · intro vals wr hR hp K hK
          dsimp only at hK ⊢
          clear hp
          unfold RunsOp
          go_simp
          exact hK.out _ _ ⟨_, rfl, Only.refl _ _, rfl⟩
        · intro vals wr hR hp K hK
          dsimp only at hK ⊢
          obtain ⟨p5, p6, -⟩ := hp
          replace p5 := p5 rfl
          replace p6 := p6 rfl
          dsimp only at p5 p6
          rw [p5, p6] at hK ⊢
          clear p5 p6
          unfold RunsOp
          have i1 : (0 : Int) ≤ ((a : Nat) : Int) := by omega
          have i2 : ((a : Nat) : Int) < (n : Int) := by omega
          have i3 : ((a : Nat) : Int).toNat = a := by omega
          go_simp
          exact hK.out _ _ ⟨_, rfl, Only.refl _ _, rfl⟩
        · intro vals wr hR hp K hK
          dsimp only at hK ⊢
          obtain ⟨p7, -⟩ := hp
          replace p7 := p7 rfl
          dsimp only at p7
          rw [p7] at hK ⊢
          clear p7
          unfold RunsOp
          have k0 := (hR.cell (p := ⟨b, a, none⟩) HX.out.1 (by simp)).trans HX.out.2
          go_simp
          exact hK.out _ _ ⟨_, rfl, Only.refl _ _, rfl⟩
        · intro vals wr hR hp K hK
          dsimp only at hK ⊢
          obtain ⟨p0, p4, p8, -⟩ := hp
          replace p0 := p0 rfl
          replace p4 := p4 rfl
          replace p8 := p8 rfl
          dsimp only at p0 p4 p8
          rw [p0, p4, p8] at hK ⊢
          clear p0 p4 p8
          unfold RunsOp
          go_simp
          refine (HCA.out _).mono ?_
          rintro e' w2 ⟨rfl, o2⟩
          exact hK.out _ _ ⟨_, rfl, o2, rfl⟩
        · intro vals wr hR hp K hK
          dsimp only at hK ⊢
          obtain ⟨p9, -⟩ := hp
          replace p9 := p9 rfl
          dsimp only at p9
          rw [p9] at hK ⊢
          clear p9
          unfold RunsOp
          have hlb := HLB.out
          go_simp
          exact hK.out _ _ ⟨_, rfl, Only.refl _ _, rfl⟩
      case doneg =>
        intro vals wd hR hF
        have f0 : vals 0 = .func (.func 11) #[] #[] := hF 0 (by decide)
        have f1 : vals 1 = .slice (some ⟨b, 0, none⟩) n cap := hF 1 (by decide)
        have f2 : vals 2 = .int .i64 (h : Nat) := hF 2 (by decide)
        have f3 : vals 3 = .pointer (some ⟨b, h, none⟩) := hF 3 (by decide)
        have f4 : vals 4 = .int .i64 y := hF 4 (by decide)
        have f5 : vals 5 = .slice (some ⟨b, 0, none⟩) n cap := hF 5 (by decide)
        have f6 : vals 6 = .int .i64 (a : Nat) := hF 6 (by decide)
        have f7 : vals 7 = .pointer (some ⟨b, a, none⟩) := hF 7 (by decide)
        have f8 : vals 8 = .int .i64 x := hF 8 (by decide)
        have f9 : (vals 9) = .int .i64 cz := hF 9 (by decide)
        have f10 : vals 10 = .bool lb := hF 10 (by decide)
        rw [f0, f1, f2, f3, f4, f5, f6, f7, f8, f10]
        clear f0 f1 f2 f3 f4 f5 f6 f7 f8 f10
        rw [f9]
        clear f9
        have HOd := Lib.hid ((Only.refl [] wq).drew.trans hR (by simp))
        clear hR hF
        cases lb with
        | true =>
          have HL2 := Lib.hid (show ∀ c ∈ N.take (h + 1 - m), keyI c < keyI x by
            have e : h + 1 - m = (h - m) + 1 := by omega
            rw [e]
            exact low_take (p := fun k => k < keyI x) HSN.out (fun z hz => by have := of_decide_eq_true HLB2.out; omega) HMY.out)
          gi_wp2_with (fail)
          go_wp2_with (fail)
          go_roundw
          case rel => exact ⟨h + 1, hi, by go_num, rfl, by omega, by omega, hhb, HL2, HHI, Lib.hid (ownsRow_only HOd.out HOQ.out (by simp)), Lib.hid (HO.out.trans HOd.out (by simp))⟩
          case measure => simp [intOf]; omega
        | false =>
          have HL2 := Lib.hid (show ∀ c ∈ N.drop (h - m), keyI x ≤ keyI c from high_drop (p := fun k => keyI x ≤ k) HSN.out (fun z hz => by have := of_decide_eq_false HLB2.out; omega) HMY.out)
          gi_wp2_with (fail)
          go_wp2_with (fail)
          go_roundw
          case rel => exact ⟨lo, h, rfl, rfl, hml, hh1, by omega, HLO, HL2, Lib.hid (ownsRow_only HOd.out HOQ.out (by simp)), Lib.hid (HO.out.trans HOd.out (by simp))⟩
          case measure => simp [intOf]; omega
    · obtain rfl : lo = hi := by omega
      obtain ⟨q, hq⟩ : ∃ q, lo = m + q := ⟨lo - m, by omega⟩
      have HE := Lib.hid (show insL P N S x q = P ++ (st keyI (x :: N) ++ S) by
        have e : lo - m = q := by omega
        have h1 := HLO.out
        have h2 := HHI.out
        rw [e] at h1 h2
        rw [← ins_front HSN.out h2 h1]
        unfold insL
        simp only [List.append_assoc, List.cons_append])
      have hqN : q ≤ N.length := by have := HNL.out; omega
      have HQ := Lib.hid hqN
      have HB0 := Lib.hid (show m + q ≤ n by omega)
      subst hq
      have HMA := HM.out
      clear HLO HHI hml hlt hlh hhb hqN
      go_wp2_with (fail)
      go_loopw [13] (fun k wz => ∃ u : Nat, k = .int .i64 ((a : Int) + (u : Int)) ∧ u ≤ q ∧ Hid (wz.ownsRow B 3 1 (.slice (some ⟨b, 0, none⟩) n cap) n (flat1 (insL P N S x u))) ∧ Hid (Only [b] w wz)) (fun k _ => a + q - (intOf k).toNat)
      case atStart => exact ⟨0, by go_num, Nat.zero_le _, HOQ, HO⟩
      case round =>
        clear HOQ HO
        obtain ⟨u, rfl, huq, HOQ, HO⟩ := hrel
        by_cases hlt : u < q
        · obtain ⟨y, hy⟩ : ∃ y, N[u]? = some y := ⟨_, List.getElem?_eq_getElem (by have := HQ.out; omega)⟩
          obtain ⟨hyi, hsw⟩ := insL_fwd (P := P) (R := S) (x := x) (by have := HQ.out; omega) hy
          have hxi := insL_x (P := P) (R := S) (x := x) (M := N) (s := u) (by have := HQ.out; omega)
          rw [HA.out] at hyi hsw hxi
          have hlen := HLQ.out u
          have HOWQ := HOQ.out
          have hb0 := HB0.out
          obtain ⟨b', hA, hb, -, ci⟩ := own_cell1 hlen.symm HOWQ hxi
          cases hA
          obtain ⟨b', hA, -, -, cj⟩ := own_cell1 hlen.symm HOWQ hyi
          cases hA
          have fi := own_frozen HOWQ (a + u)
          have fj := own_frozen HOWQ (a + u + 1)
          have hns := own_swap1 (i := a + u) (j := a + u + 1) (x := x) (z := y) HOWQ
          have i0 : (0 : Int) ≤ (a : Int) + (u : Int) := by omega
          have i1 : (a : Int) + (u : Int) < (n : Int) := by omega
          have i2 : ((a : Int) + (u : Int)).toNat = a + u := by omega
          have j0 : (0 : Int) ≤ (a : Int) + (u : Int) + 1 := by omega
          have j1 : (a : Int) + (u : Int) + 1 < (n : Int) := by omega
          have j2 : ((a : Int) + (u : Int) + 1).toNat = a + u + 1 := by omega
          rw [hsw] at hns
          have HNS := Lib.hid hns
          have hg : decide ((a : Int) + (u : Int) < ((m + q : Nat) : Int) - 1) = true := decide_eq_true (by omega)
          have hg2 : decide ((a : Int) + (u : Int) < (m : Int) + (q : Int) - 1) = true := decide_eq_true (by omega)
          clear hxi hyi hsw hlen HOWQ hns hy
          go_wp2_with (fail)
          go_region
          go_wp2_with (fail)
          go_roundw
          case rel => exact ⟨u + 1, by go_num, by omega, HNS, Lib.hid (((HO.out.setCell (.inl (by simp)) _).setCell (.inl (by simp)) _).drew)⟩
          case measure => simp [intOf]; omega
        · obtain rfl : u = q := by omega
          have hb0 := HB0.out
          have hg : decide ((a : Int) + (u : Int) < ((m + u : Nat) : Int) - 1) = false := decide_eq_false (by omega)
          have hg2 : decide ((a : Int) + (u : Int) < (m : Int) + (u : Int) - 1) = false := decide_eq_false (by omega)
          have HEND := Lib.hid (show wr.ownsRow B 3 1 (.slice (some ⟨b, 0, none⟩) n cap) n (flat1 (P ++ (st keyI (x :: N) ++ S))) by rw [← HE.out]; exact HOQ.out)
          clear HMA
          go_wp2_with (fail)
          refine bodyPost_ret (results_none rfl _ _ _) rfl ?_
          exact ⟨rfl, HEND.out, HO.out⟩
set_option maxHeartbeats 8000000 in
theorem symBI (P N S : List Int) (x : Int) {w : World} {B b cap n : Nat} (hN : Sorted keyI N) (hN1 : N.length ≠ 1) (hlen0 : (P ++ (N ++ (x :: S))).length = n) (hn : n ≤ 1000000) (how : w.ownsRow B 3 1 (.slice (some ⟨b, 0, none⟩) n cap) n (flat1 (P ++ (N ++ (x :: S))))) {a m bb : Nat} (ha : P.length = a) (hm : a + N.length = m) (hb : m + 1 = bb) :
    Calls Try.prog 56 #[.slice (some ⟨b, 0, none⟩) n cap, .int .i64 a, .int .i64 m, .int .i64 bb, .func (.func 11) #[] #[]] w fun e w' => e = .returned (.tuple #[]) ∧ w'.ownsRow B 3 1 (.slice (some ⟨b, 0, none⟩) n cap) n (flat1 (P ++ (st keyI (N ++ [x]) ++ S))) ∧ Only [b] w w' := by
  have hbn : bb ≤ n := by rw [← hlen0]; simp; omega
  have HST := Lib.hid (show w.ownsRow B 3 1 (.slice (some ⟨b, 0, none⟩) n cap) n (flat1 (insL P N S x N.length)) by
    unfold insL
    rw [List.take_of_length_le (Nat.le_refl _), List.drop_of_length_le (Nat.le_refl _), List.nil_append]
    exact how)
  have HLQ := Lib.hid (show ∀ s, (insL P N S x s).length = n from fun s => by rw [insL_len, ← hlen0]; simp; omega)
  have HA := Lib.hid ha
  have HSN := Lib.hid hN
  have HM := Lib.hid hm
  have HBM := Lib.hid hb
  have hmi : ((m : Int) - (a : Int) == 1) = false := beq_eq_false_iff_ne.2 (by omega)
  have hbi : (bb : Int) - (m : Int) = 1 := by omega
  have ham : a ≤ m := by omega
  have hmb : m < bb := by omega
  clear how hlen0 ha hb hN hm hN1
  go_enter Try.func56, Try.ntmps56
  go_wp2_with (fail)
  clear hmi hbi
  go_loopw [14, 15] (fun i j wr => ∃ lo hi : Nat, i = .int .i64 (lo : Int) ∧ j = .int .i64 (hi : Int) ∧ a ≤ lo ∧ lo ≤ hi ∧ hi ≤ m ∧ Hid (∀ c ∈ N.take (lo - a), keyI c ≤ keyI x) ∧ Hid (∀ c ∈ N.drop (hi - a), keyI x < keyI c) ∧ Hid (wr.ownsRow B 3 1 (.slice (some ⟨b, 0, none⟩) n cap) n (flat1 (insL P N S x N.length))) ∧ Hid (Only [b] w wr)) (fun i j _ => (intOf j).toNat - (intOf i).toNat)
  case atStart => exact ⟨a, m, rfl, rfl, Nat.le_refl _, ham, Nat.le_refl _, Lib.hid (fun c hc => by rw [Nat.sub_self] at hc; cases hc), Lib.hid (fun c hc => by rw [List.drop_of_length_le (by have := HM.out; omega)] at hc; cases hc), HST, Lib.hid (Only.refl _ _)⟩
  case round =>
    obtain ⟨lo, hi, rfl, rfl, hml, hlh, hhb, HLO, HHI, HOQ, HO⟩ := hrel
    by_cases hlt : lo < hi
    · obtain ⟨wq, rfl⟩ : ∃ wq : World, wq = wr := ⟨_, rfl⟩
      obtain ⟨h, hh⟩ : ∃ h : Nat, (lo + hi) / 2 = h := ⟨_, rfl⟩
      have HH := Lib.hid (show ((lo : Int) + (hi : Int)) / 2 = (h : Int) by omega)
      have hh1 : lo ≤ h := by omega
      have hh2 : h < hi := by omega
      clear hh
      obtain ⟨y, hy⟩ : ∃ y, N[h - a]? = some y := ⟨_, List.getElem?_eq_getElem (by have := HM.out; omega)⟩
      have hlen := HLQ.out N.length
      have HOWQ := HOQ.out
      have hyi : (insL P N S x N.length)[h]? = some y := by
        have e := insL_ahead (P := P) (R := S) (x := x) (M := N) (i := h - a) (by have := HM.out; omega)
        have e2 : P.length + (h - a) = h := by have := HA.out; omega
        rw [e2, hy] at e
        exact e
      have hxi : (insL P N S x N.length)[m]? = some x := by
        have e := insL_x (P := P) (R := S) (x := x) (M := N) (s := N.length) (by omega)
        rw [HA.out, HM.out] at e
        exact e
      have HX := Lib.hid (show b < wq.heap.size ∧ wq.cell? ⟨b, m, none⟩ = some (.int .i64 x) from by obtain ⟨b', hA, hb, -, ci⟩ := own_cell1 hlen.symm HOWQ hxi; cases hA; exact ⟨hb, ci⟩)
      have HY := Lib.hid (show b < wq.heap.size ∧ wq.cell? ⟨b, h, none⟩ = some (.int .i64 y) from by obtain ⟨b', hA, hb, -, ci⟩ := own_cell1 hlen.symm HOWQ hyi; cases hA; exact ⟨hb, ci⟩)
      have HMY := Lib.hid hy
      obtain ⟨lb, hlb⟩ : ∃ lb, decide (keyI x < keyI y) = lb := ⟨_, rfl⟩
      have HLB := Lib.hid (show decide (cmpZ (keyI x) (keyI y) < 0) = lb by rw [cmpZ_neg, hlb])
      have HLB2 := Lib.hid hlb
      have HCA := Lib.hid (fun w => order_any x y w)
      obtain ⟨cz, hcz⟩ : ∃ cz, cmpZ (keyI x) (keyI y) = cz := ⟨_, rfl⟩
      have hcz2 : cmpZ x y = cz := hcz
      rw [hcz] at HLB
      rw [hcz2] at HCA
      have hmn : m < n := by omega
      have hhn : h < n := by omega
      clear hlb hcz hcz2 hxi hyi hy hlen HOWQ
      go_wp2_with (fail)
      simp only [HH.out]
      refine (wpIn_wide (n := 9)).1 ?_
      refine wpIn_region_relR 12 (Only []) (fr := ?frg) (tl := ?tlg) (fun iq v wv => match iq with
        | 0 => v = .func (.func 11) #[] #[]
        | 1 => v = .slice (some ⟨b, 0, none⟩) n cap
        | 2 => v = .int .i64 (m : Nat)
        | 3 => v = .pointer (some ⟨b, m, none⟩)
        | 4 => v = .int .i64 x
        | 5 => v = .slice (some ⟨b, 0, none⟩) n cap
        | 6 => v = .int .i64 (h : Nat)
        | 7 => v = .pointer (some ⟨b, h, none⟩)
        | 8 => v = .int .i64 y
        | 9 => v = .int .i64 cz
        | 10 => v = .bool lb
        | 11 => v = .bool (!lb)
        | _ => True) (.inl rfl) (by kernel_rfl) (by kernel_rfl) (by kernel_rfl) (by kernel_rfl) (by kernel_rfl) (by kernel_rfl) (by decide) ?htlg ?hfrg (Only.refl _ _) (fun _ _ _ h k => h.trans k (fun _ hx => .inl hx)) ?stabg ?stepsg ?doneg
      case htlg => simp only [List.drop_succ_cons, List.drop_zero]; rfl
      case hfrg => intro vals; simp only [putAll, dstAt, Act.put, List.getElem?_toArray, List.getElem?_cons_zero, List.getElem?_cons_succ, Option.bind_some, List.setIfInBounds_toArray, List.set_cons_zero, List.set_cons_succ]; rfl
      case stabg =>
        intro i v wa wb h
        try dsimp only
        split <;> first | exact id
      case stepsg =>
        refine ⟨?_, ?_, ?_, ?_, ?_, ?_, ?_, ?_, ?_, ?_, ?_, ?_, trivial⟩
        · intro vals wr hR hp K hK
          dsimp only at hK ⊢
          clear hp
          unfold RunsOp
          go_simp
          exact hK.out _ _ ⟨_, rfl, Only.refl _ _, rfl⟩
        · intro vals wr hR hp K hK
          dsimp only at hK ⊢
          clear hp
          unfold RunsOp
          go_simp
          exact hK.out _ _ ⟨_, rfl, Only.refl _ _, rfl⟩
        · intro vals wr hR hp K hK
          dsimp only at hK ⊢
          clear hp
          unfold RunsOp
          go_simp
          exact hK.out _ _ ⟨_, rfl, Only.refl _ _, rfl⟩
        · intro vals wr hR hp K hK
          dsimp only at hK ⊢
          obtain ⟨p1, p2, -⟩ := hp
          replace p1 := p1 rfl
          replace p2 := p2 rfl
          dsimp only at p1 p2
          rw [p1, p2] at hK ⊢
          clear p1 p2
          unfold RunsOp
          have i1 : (0 : Int) ≤ ((m : Nat) : Int) := by omega
          have i2 : ((m : Nat) : Int) < (n : Int) := by omega
          have i3 : ((m : Nat) : Int).toNat = m := by omega
          go_simp
          exact hK.out _ _ ⟨_, rfl, Only.refl _ _, rfl⟩
        · intro vals wr hR hp K hK
          dsimp only at hK ⊢
          obtain ⟨p3, -⟩ := hp
          replace p3 := p3 rfl
          dsimp only at p3
          rw [p3] at hK ⊢
          clear p3
          unfold RunsOp
          have k0 := (hR.cell (p := ⟨b, m, none⟩) HX.out.1 (by simp)).trans HX.out.2
          go_simp
          exact hK.out _ _ ⟨_, rfl, Only.refl _ _, rfl⟩
        · intro vals wr hR hp K hK
          dsimp only at hK ⊢
          clear hp
          unfold RunsOp
          go_simp
          exact hK.out _ _ ⟨_, rfl, Only.refl _ _, rfl⟩
        · intro vals wr hR hp K hK
          dsimp only at hK ⊢
          clear hp
          unfold RunsOp
          go_simp
          exact hK.out _ _ ⟨_, rfl, Only.refl _ _, rfl⟩
        · intro vals wr hR hp K hK
          dsimp only at hK ⊢
          obtain ⟨p5, p6, -⟩ := hp
          replace p5 := p5 rfl
          replace p6 := p6 rfl
          dsimp only at p5 p6
          rw [p5, p6] at hK ⊢
          clear p5 p6
          unfold RunsOp
          have i1 : (0 : Int) ≤ ((h : Nat) : Int) := by omega
          have i2 : ((h : Nat) : Int) < (n : Int) := by omega
          have i3 : ((h : Nat) : Int).toNat = h := by omega
          go_simp
          exact hK.out _ _ ⟨_, rfl, Only.refl _ _, rfl⟩
        · intro vals wr hR hp K hK
          dsimp only at hK ⊢
          obtain ⟨p7, -⟩ := hp
          replace p7 := p7 rfl
          dsimp only at p7
          rw [p7] at hK ⊢
          clear p7
          unfold RunsOp
          have k0 := (hR.cell (p := ⟨b, h, none⟩) HY.out.1 (by simp)).trans HY.out.2
          go_simp
          exact hK.out _ _ ⟨_, rfl, Only.refl _ _, rfl⟩
        · intro vals wr hR hp K hK
          dsimp only at hK ⊢
          obtain ⟨p0, p4, p8, -⟩ := hp
          replace p0 := p0 rfl
          replace p4 := p4 rfl
          replace p8 := p8 rfl
          dsimp only at p0 p4 p8
          rw [p0, p4, p8] at hK ⊢
          clear p0 p4 p8
          unfold RunsOp
          go_simp
          refine (HCA.out _).mono ?_
          rintro e' w2 ⟨rfl, o2⟩
          exact hK.out _ _ ⟨_, rfl, o2, rfl⟩
        · intro vals wr hR hp K hK
          dsimp only at hK ⊢
          obtain ⟨p9, -⟩ := hp
          replace p9 := p9 rfl
          dsimp only at p9
          rw [p9] at hK ⊢
          clear p9
          unfold RunsOp
          have hlb := HLB.out
          go_simp
          exact hK.out _ _ ⟨_, rfl, Only.refl _ _, rfl⟩
        · intro vals wr hR hp K hK
          dsimp only at hK ⊢
          obtain ⟨p10, -⟩ := hp
          replace p10 := p10 rfl
          dsimp only at p10
          rw [p10] at hK ⊢
          clear p10
          unfold RunsOp
          go_simp
          exact hK.out _ _ ⟨_, rfl, Only.refl _ _, rfl⟩
      case doneg =>
        intro vals wd hR hF
        have f0 : vals 0 = .func (.func 11) #[] #[] := hF 0 (by decide)
        have f1 : vals 1 = .slice (some ⟨b, 0, none⟩) n cap := hF 1 (by decide)
        have f2 : vals 2 = .int .i64 (m : Nat) := hF 2 (by decide)
        have f3 : vals 3 = .pointer (some ⟨b, m, none⟩) := hF 3 (by decide)
        have f4 : vals 4 = .int .i64 x := hF 4 (by decide)
        have f5 : vals 5 = .slice (some ⟨b, 0, none⟩) n cap := hF 5 (by decide)
        have f6 : vals 6 = .int .i64 (h : Nat) := hF 6 (by decide)
        have f7 : vals 7 = .pointer (some ⟨b, h, none⟩) := hF 7 (by decide)
        have f8 : vals 8 = .int .i64 y := hF 8 (by decide)
        have f9 : (vals 9) = .int .i64 cz := hF 9 (by decide)
        have f10 : vals 10 = .bool lb := hF 10 (by decide)
        have f11 : vals 11 = .bool (!lb) := hF 11 (by decide)
        rw [f0, f1, f2, f3, f4, f5, f6, f7, f8, f10, f11]
        clear f0 f1 f2 f3 f4 f5 f6 f7 f8 f10 f11
        rw [f9]
        clear f9
        have HOd := Lib.hid ((Only.refl [] wq).drew.trans hR (by simp))
        clear hR hF
        cases lb with
        | false =>
          have HL2 := Lib.hid (show ∀ c ∈ N.take (h + 1 - a), keyI c ≤ keyI x by
            have e : h + 1 - a = (h - a) + 1 := by omega
            rw [e]
            exact low_take (p := fun k => k ≤ keyI x) HSN.out (fun z hz => by have := of_decide_eq_false HLB2.out; omega) HMY.out)
          gi_wp2_with (fail)
          go_wp2_with (fail)
          go_roundw
          case rel => exact ⟨h + 1, hi, by go_num, rfl, by omega, by omega, hhb, HL2, HHI, Lib.hid (ownsRow_only HOd.out HOQ.out (by simp)), Lib.hid (HO.out.trans HOd.out (by simp))⟩
          case measure => simp [intOf]; omega
        | true =>
          have HL2 := Lib.hid (show ∀ c ∈ N.drop (h - a), keyI x < keyI c from high_drop (p := fun k => keyI x < k) HSN.out (fun z hz => by have := of_decide_eq_true HLB2.out; omega) HMY.out)
          gi_wp2_with (fail)
          go_wp2_with (fail)
          go_roundw
          case rel => exact ⟨lo, h, rfl, rfl, hml, hh1, by omega, HLO, HL2, Lib.hid (ownsRow_only HOd.out HOQ.out (by simp)), Lib.hid (HO.out.trans HOd.out (by simp))⟩
          case measure => simp [intOf]; omega
    · obtain rfl : lo = hi := by omega
      obtain ⟨q, hq⟩ : ∃ q, lo = a + q := ⟨lo - a, by omega⟩
      have HE := Lib.hid (show insL P N S x q = P ++ (st keyI (N ++ [x]) ++ S) by
        have e : lo - a = q := by omega
        have h1 := HLO.out
        have h2 := HHI.out
        rw [e] at h1 h2
        rw [← ins_mid HSN.out (by have := HM.out; omega) h2 h1]
        unfold insL
        simp only [List.append_assoc, List.cons_append])
      obtain ⟨N1, hN1⟩ : ∃ N1, N.length = N1 := ⟨_, rfl⟩
      rw [hN1] at HOQ
      have hqN : q ≤ N1 := by have := HM.out; omega
      have hmN : m = a + N1 := by have := HM.out; omega
      have HQ := Lib.hid hN1
      have e9 : (lo : Int) = (a : Int) + (q : Int) := by omega
      subst hmN
      simp only [e9]
      clear HLO HHI hml hlt hlh hhb hN1 e9
      go_wp2_with (fail)
      go_loopw [17] (fun k wz => ∃ u : Nat, k = .int .i64 ((a : Int) + (u : Int)) ∧ q ≤ u ∧ u ≤ N1 ∧ Hid (wz.ownsRow B 3 1 (.slice (some ⟨b, 0, none⟩) n cap) n (flat1 (insL P N S x u))) ∧ Hid (Only [b] w wz)) (fun k _ => (intOf k).toNat)
      case atStart => exact ⟨N1, by go_num, hqN, Nat.le_refl _, HOQ, HO⟩
      case round =>
        clear HOQ HO
        obtain ⟨u, rfl, huq, hun, HOQ, HO⟩ := hrel
        by_cases hlt : q < u
        · obtain ⟨u, rfl⟩ : ∃ v, u = v + 1 := ⟨u - 1, by omega⟩
          obtain ⟨y, hy⟩ : ∃ y, N[u]? = some y := ⟨_, List.getElem?_eq_getElem (by have := HQ.out; omega)⟩
          obtain ⟨hyi, hsw⟩ := insL_step (P := P) (R := S) (x := x) (by have := HQ.out; omega) hy
          have hxi := insL_x (P := P) (R := S) (x := x) (M := N) (s := u + 1) (by have := HQ.out; omega)
          rw [HA.out] at hyi hsw hxi
          have hlen := HLQ.out (u + 1)
          have HOWQ := HOQ.out
          have e1 : ((u + 1 : Nat) : Int) = (u : Int) + 1 := by omega
          simp only [e1]
          obtain ⟨b', hA, hb, -, ci⟩ := own_cell1 hlen.symm HOWQ hxi
          cases hA
          obtain ⟨b', hA, -, -, cj⟩ := own_cell1 hlen.symm HOWQ hyi
          cases hA
          have fi := own_frozen HOWQ (a + (u + 1))
          have fj := own_frozen HOWQ (a + u)
          have hns := own_swap1 (i := a + (u + 1)) (j := a + u) (x := x) (z := y) HOWQ
          have i0 : (0 : Int) ≤ (a : Int) + ((u : Int) + 1) := by omega
          have i1 : (a : Int) + ((u : Int) + 1) < (n : Int) := by omega
          have i2 : ((a : Int) + ((u : Int) + 1)).toNat = a + (u + 1) := by omega
          have j0 : (0 : Int) ≤ (a : Int) + ((u : Int) + 1) - 1 := by omega
          have j1 : (a : Int) + ((u : Int) + 1) - 1 < (n : Int) := by omega
          have j2 : ((a : Int) + ((u : Int) + 1) - 1).toNat = a + u := by omega
          have i3 : (1 : Int) ≤ (a : Int) + ((u : Int) + 1) := by omega
          rw [hsw] at hns
          have HNS := Lib.hid hns
          have hg : decide ((a : Int) + (q : Int) < (a : Int) + ((u : Int) + 1)) = true := decide_eq_true (by omega)
          clear hxi hyi hsw hlen HOWQ hns hy e1
          go_wp2_with (fail)
          go_region
          go_wp2_with (fail)
          go_roundw
          case rel => exact ⟨u, by go_num, by omega, by omega, HNS, Lib.hid (((HO.out.setCell (.inl (by simp)) _).setCell (.inl (by simp)) _).drew)⟩
          case measure => simp [intOf]; omega
        · obtain rfl : u = q := by omega
          have HEND := Lib.hid (show wr.ownsRow B 3 1 (.slice (some ⟨b, 0, none⟩) n cap) n (flat1 (P ++ (st keyI (N ++ [x]) ++ S))) by rw [← HE.out]; exact HOQ.out)
          go_wp2_with (fail)
          refine bodyPost_ret (results_none rfl _ _ _) rfl ?_
          exact ⟨rfl, HEND.out, HO.out⟩
set_option maxHeartbeats 8000000 in
theorem symAJ (P N S : List Ent) (x : Ent) {w : World} {B b cap n : Nat} (hN : Sorted keyJ N) (hlen0 : (P ++ (x :: (N ++ S))).length = n) (hn : n ≤ 1000000) (how : w.ownsRow B 49 2 (.slice (some ⟨b, 0, none⟩) n cap) n (flat2 (P ++ (x :: (N ++ S))))) {a m bb : Nat} (ha : P.length = a) (hm : a + 1 = m) (hb : m + N.length = bb) :
    Calls Try.prog 54 #[.slice (some ⟨b, 0, none⟩) n cap, .int .i64 a, .int .i64 m, .int .i64 bb, .func (.func 22) #[] #[]] w fun e w' => e = .returned (.tuple #[]) ∧ w'.ownsRow B 49 2 (.slice (some ⟨b, 0, none⟩) n cap) n (flat2 (P ++ (st keyJ (x :: N) ++ S))) ∧ Only [b] w w' := by
  have hbn : bb ≤ n := by rw [← hlen0]; simp; omega
  have HST := Lib.hid (show w.ownsRow B 49 2 (.slice (some ⟨b, 0, none⟩) n cap) n (flat2 (insL P N S x 0)) from how)
  have HLQ := Lib.hid (show ∀ s, (insL P N S x s).length = n from fun s => by rw [insL_len, ← hlen0]; simp; omega)
  have HA := Lib.hid ha
  have HSN := Lib.hid hN
  have HNL := Lib.hid hb
  have HM := Lib.hid hm
  have hmi : (m : Int) - (a : Int) = 1 := by omega
  clear how hlen0 ha hb hN hm
  go_enter Try.func54, Try.ntmps54
  go_wp2_with (fail)
  clear hmi
  go_loopw [10, 11] (fun i j wr => ∃ lo hi : Nat, i = .int .i64 (lo : Int) ∧ j = .int .i64 (hi : Int) ∧ m ≤ lo ∧ lo ≤ hi ∧ hi ≤ bb ∧ Hid (∀ c ∈ N.take (lo - m), keyJ c < keyJ x) ∧ Hid (∀ c ∈ N.drop (hi - m), keyJ x ≤ keyJ c) ∧ Hid (wr.ownsRow B 49 2 (.slice (some ⟨b, 0, none⟩) n cap) n (flat2 (insL P N S x 0))) ∧ Hid (Only [b] w wr)) (fun i j _ => (intOf j).toNat - (intOf i).toNat)
  case atStart => exact ⟨m, bb, rfl, rfl, Nat.le_refl _, by have := HNL.out; omega, Nat.le_refl _, Lib.hid (fun c hc => by rw [Nat.sub_self] at hc; cases hc), Lib.hid (fun c hc => by rw [List.drop_of_length_le (by have := HNL.out; omega)] at hc; cases hc), HST, Lib.hid (Only.refl _ _)⟩
  case round =>
    obtain ⟨lo, hi, rfl, rfl, hml, hlh, hhb, HLO, HHI, HOQ, HO⟩ := hrel
    by_cases hlt : lo < hi
    · obtain ⟨wq, rfl⟩ : ∃ wq : World, wq = wr := ⟨_, rfl⟩
      obtain ⟨h, hh⟩ : ∃ h : Nat, (lo + hi) / 2 = h := ⟨_, rfl⟩
      have HH := Lib.hid (show ((lo : Int) + (hi : Int)) / 2 = (h : Int) by omega)
      have hh1 : lo ≤ h := by omega
      have hh2 : h < hi := by omega
      clear hh
      obtain ⟨y, hy⟩ : ∃ y, N[h - m]? = some y := ⟨_, List.getElem?_eq_getElem (by have := HNL.out; omega)⟩
      have hlen := HLQ.out 0
      have HOWQ := HOQ.out
      have hyi : (insL P N S x 0)[h]? = some y := by
        have e := insL_behind (P := P) (R := S) (x := x) (M := N) (i := h - m) (by have := HNL.out; omega)
        have e2 : P.length + 1 + (h - m) = h := by have := HA.out; have := HM.out; omega
        rw [e2, hy] at e
        exact e
      have hxi : (insL P N S x 0)[a]? = some x := by
        have e := insL_x (P := P) (R := S) (x := x) (M := N) (s := 0) (by omega)
        rw [Nat.add_zero, HA.out] at e
        exact e
      have HX := Lib.hid (show b < wq.heap.size ∧ wq.cell? ⟨b, a * 2, none⟩ = some (.int .i64 x.1) ∧ wq.cell? ⟨b, a * 2 + 1, none⟩ = some (.int .i64 x.2) from by obtain ⟨b', hA, hb, -, ci, ci1⟩ := own_cell hlen.symm HOWQ hxi; cases hA; exact ⟨hb, ci, ci1⟩)
      have HY := Lib.hid (show b < wq.heap.size ∧ wq.cell? ⟨b, h * 2, none⟩ = some (.int .i64 y.1) ∧ wq.cell? ⟨b, h * 2 + 1, none⟩ = some (.int .i64 y.2) from by obtain ⟨b', hA, hb, -, ci, ci1⟩ := own_cell hlen.symm HOWQ hyi; cases hA; exact ⟨hb, ci, ci1⟩)
      have HMY := Lib.hid hy
      obtain ⟨lb, hlb⟩ : ∃ lb, decide (keyJ y < keyJ x) = lb := ⟨_, rfl⟩
      have HLB := Lib.hid (show decide (cmpZ (keyJ y) (keyJ x) < 0) = lb by rw [cmpZ_neg, hlb])
      have HLB2 := Lib.hid hlb
      have HCA := Lib.hid (fun w => level_any y.1 y.2 x.1 x.2 w)
      obtain ⟨cz, hcz⟩ : ∃ cz, cmpZ (keyJ y) (keyJ x) = cz := ⟨_, rfl⟩
      have hcz2 : cmpZ y.1 x.1 = cz := hcz
      rw [hcz] at HLB
      rw [hcz2] at HCA
      have han : a < n := by have := HM.out; omega
      have hhn : h < n := by omega
      clear hlb hcz hcz2 hxi hyi hy hlen HOWQ
      go_wp2_with (fail)
      simp only [HH.out]
      refine (wpIn_wide (n := 9)).1 ?_
      refine wpIn_region_relR 11 (Only []) (fr := ?frg) (tl := ?tlg) (fun iq v wv => match iq with
        | 0 => v = .func (.func 22) #[] #[]
        | 1 => v = .slice (some ⟨b, 0, none⟩) n cap
        | 2 => v = .int .i64 (h : Nat)
        | 3 => v = .pointer (some ⟨b, h * 2, none⟩)
        | 4 => v = .agg #[.int .i64 y.1, .int .i64 y.2]
        | 5 => v = .slice (some ⟨b, 0, none⟩) n cap
        | 6 => v = .int .i64 (a : Nat)
        | 7 => v = .pointer (some ⟨b, a * 2, none⟩)
        | 8 => v = .agg #[.int .i64 x.1, .int .i64 x.2]
        | 9 => v = .int .i64 cz
        | 10 => v = .bool lb
        | _ => True) (.inl rfl) (by kernel_rfl) (by kernel_rfl) (by kernel_rfl) (by kernel_rfl) (by kernel_rfl) (by kernel_rfl) (by decide) ?htlg ?hfrg (Only.refl _ _) (fun _ _ _ h k => h.trans k (fun _ hx => .inl hx)) ?stabg ?stepsg ?doneg
      case htlg => simp only [List.drop_succ_cons, List.drop_zero]; rfl
      case hfrg => intro vals; simp only [putAll, dstAt, Act.put, List.getElem?_toArray, List.getElem?_cons_zero, List.getElem?_cons_succ, Option.bind_some, List.setIfInBounds_toArray, List.set_cons_zero, List.set_cons_succ]; rfl
      case stabg =>
        intro i v wa wb h
        try dsimp only
        split <;> first | exact id
      case stepsg =>
        refine ⟨?_, ?_, ?_, ?_, ?_, ?_, ?_, ?_, ?_, ?_, ?_, trivial⟩
        · intro vals wr hR hp K hK
          dsimp only at hK ⊢
          clear hp
          unfold RunsOp
          go_simp
          exact hK.out _ _ ⟨_, rfl, Only.refl _ _, rfl⟩
        · intro vals wr hR hp K hK
          dsimp only at hK ⊢
          clear hp
          unfold RunsOp
          go_simp
          exact hK.out _ _ ⟨_, rfl, Only.refl _ _, rfl⟩
        · intro vals wr hR hp K hK
          dsimp only at hK ⊢
          clear hp
          unfold RunsOp
          go_simp
          exact hK.out _ _ ⟨_, rfl, Only.refl _ _, rfl⟩
        · intro vals wr hR hp K hK
          dsimp only at hK ⊢
          obtain ⟨p1, p2, -⟩ := hp
          replace p1 := p1 rfl
          replace p2 := p2 rfl
          dsimp only at p1 p2
          rw [p1, p2] at hK ⊢
          clear p1 p2
          unfold RunsOp
          have i1 : (0 : Int) ≤ ((h : Nat) : Int) := by omega
          have i2 : ((h : Nat) : Int) < (n : Int) := by omega
          have i3 : ((h : Nat) : Int).toNat = h := by omega
          go_simp
          exact hK.out _ _ ⟨_, rfl, Only.refl _ _, rfl⟩
        · intro vals wr hR hp K hK
          dsimp only at hK ⊢
          obtain ⟨p3, -⟩ := hp
          replace p3 := p3 rfl
          dsimp only at p3
          rw [p3] at hK ⊢
          clear p3
          unfold RunsOp
          have k0 := (hR.cell (p := ⟨b, h * 2, none⟩) HY.out.1 (by simp)).trans HY.out.2.1
          have k1 := (hR.cell (p := ⟨b, h * 2 + 1, none⟩) HY.out.1 (by simp)).trans HY.out.2.2
          go_simp
          exact hK.out _ _ ⟨_, rfl, Only.refl _ _, rfl⟩
        · intro vals wr hR hp K hK
          dsimp only at hK ⊢
          clear hp
          unfold RunsOp
          go_simp
          exact hK.out _ _ ⟨_, rfl, Only.refl _ _, rfl⟩
        · intro vals wr hR hp K hK
          dsimp only at hK ⊢
          clear hp
          unfold RunsOp
          go_simp
          exact hK.out _ _ ⟨_, rfl, Only.refl _ _, rfl⟩
        · intro vals wr hR hp K hK
          dsimp only at hK ⊢
          obtain ⟨p5, p6, -⟩ := hp
          replace p5 := p5 rfl
          replace p6 := p6 rfl
          dsimp only at p5 p6
          rw [p5, p6] at hK ⊢
          clear p5 p6
          unfold RunsOp
          have i1 : (0 : Int) ≤ ((a : Nat) : Int) := by omega
          have i2 : ((a : Nat) : Int) < (n : Int) := by omega
          have i3 : ((a : Nat) : Int).toNat = a := by omega
          go_simp
          exact hK.out _ _ ⟨_, rfl, Only.refl _ _, rfl⟩
        · intro vals wr hR hp K hK
          dsimp only at hK ⊢
          obtain ⟨p7, -⟩ := hp
          replace p7 := p7 rfl
          dsimp only at p7
          rw [p7] at hK ⊢
          clear p7
          unfold RunsOp
          have k0 := (hR.cell (p := ⟨b, a * 2, none⟩) HX.out.1 (by simp)).trans HX.out.2.1
          have k1 := (hR.cell (p := ⟨b, a * 2 + 1, none⟩) HX.out.1 (by simp)).trans HX.out.2.2
          go_simp
          exact hK.out _ _ ⟨_, rfl, Only.refl _ _, rfl⟩
        · intro vals wr hR hp K hK
          dsimp only at hK ⊢
          obtain ⟨p0, p4, p8, -⟩ := hp
          replace p0 := p0 rfl
          replace p4 := p4 rfl
          replace p8 := p8 rfl
          dsimp only at p0 p4 p8
          rw [p0, p4, p8] at hK ⊢
          clear p0 p4 p8
          unfold RunsOp
          go_simp
          refine (HCA.out _).mono ?_
          rintro e' w2 ⟨rfl, o2⟩
          exact hK.out _ _ ⟨_, rfl, o2, rfl⟩
        · intro vals wr hR hp K hK
          dsimp only at hK ⊢
          obtain ⟨p9, -⟩ := hp
          replace p9 := p9 rfl
          dsimp only at p9
          rw [p9] at hK ⊢
          clear p9
          unfold RunsOp
          have hlb := HLB.out
          go_simp
          exact hK.out _ _ ⟨_, rfl, Only.refl _ _, rfl⟩
      case doneg =>
        intro vals wd hR hF
        have f0 : vals 0 = .func (.func 22) #[] #[] := hF 0 (by decide)
        have f1 : vals 1 = .slice (some ⟨b, 0, none⟩) n cap := hF 1 (by decide)
        have f2 : vals 2 = .int .i64 (h : Nat) := hF 2 (by decide)
        have f3 : vals 3 = .pointer (some ⟨b, h * 2, none⟩) := hF 3 (by decide)
        have f4 : vals 4 = .agg #[.int .i64 y.1, .int .i64 y.2] := hF 4 (by decide)
        have f5 : vals 5 = .slice (some ⟨b, 0, none⟩) n cap := hF 5 (by decide)
        have f6 : vals 6 = .int .i64 (a : Nat) := hF 6 (by decide)
        have f7 : vals 7 = .pointer (some ⟨b, a * 2, none⟩) := hF 7 (by decide)
        have f8 : vals 8 = .agg #[.int .i64 x.1, .int .i64 x.2] := hF 8 (by decide)
        have f9 : (vals 9) = .int .i64 cz := hF 9 (by decide)
        have f10 : vals 10 = .bool lb := hF 10 (by decide)
        rw [f0, f1, f2, f3, f4, f5, f6, f7, f8, f10]
        clear f0 f1 f2 f3 f4 f5 f6 f7 f8 f10
        rw [f9]
        clear f9
        have HOd := Lib.hid ((Only.refl [] wq).drew.trans hR (by simp))
        clear hR hF
        cases lb with
        | true =>
          have HL2 := Lib.hid (show ∀ c ∈ N.take (h + 1 - m), keyJ c < keyJ x by
            have e : h + 1 - m = (h - m) + 1 := by omega
            rw [e]
            exact low_take (p := fun k => k < keyJ x) HSN.out (fun z hz => by have := of_decide_eq_true HLB2.out; omega) HMY.out)
          gi_wp2_with (fail)
          go_wp2_with (fail)
          go_roundw
          case rel => exact ⟨h + 1, hi, by go_num, rfl, by omega, by omega, hhb, HL2, HHI, Lib.hid (ownsRow_only HOd.out HOQ.out (by simp)), Lib.hid (HO.out.trans HOd.out (by simp))⟩
          case measure => simp [intOf]; omega
        | false =>
          have HL2 := Lib.hid (show ∀ c ∈ N.drop (h - m), keyJ x ≤ keyJ c from high_drop (p := fun k => keyJ x ≤ k) HSN.out (fun z hz => by have := of_decide_eq_false HLB2.out; omega) HMY.out)
          gi_wp2_with (fail)
          go_wp2_with (fail)
          go_roundw
          case rel => exact ⟨lo, h, rfl, rfl, hml, hh1, by omega, HLO, HL2, Lib.hid (ownsRow_only HOd.out HOQ.out (by simp)), Lib.hid (HO.out.trans HOd.out (by simp))⟩
          case measure => simp [intOf]; omega
    · obtain rfl : lo = hi := by omega
      obtain ⟨q, hq⟩ : ∃ q, lo = m + q := ⟨lo - m, by omega⟩
      have HE := Lib.hid (show insL P N S x q = P ++ (st keyJ (x :: N) ++ S) by
        have e : lo - m = q := by omega
        have h1 := HLO.out
        have h2 := HHI.out
        rw [e] at h1 h2
        rw [← ins_front HSN.out h2 h1]
        unfold insL
        simp only [List.append_assoc, List.cons_append])
      have hqN : q ≤ N.length := by have := HNL.out; omega
      have HQ := Lib.hid hqN
      have HB0 := Lib.hid (show m + q ≤ n by omega)
      subst hq
      have HMA := HM.out
      clear HLO HHI hml hlt hlh hhb hqN
      go_wp2_with (fail)
      go_loopw [13] (fun k wz => ∃ u : Nat, k = .int .i64 ((a : Int) + (u : Int)) ∧ u ≤ q ∧ Hid (wz.ownsRow B 49 2 (.slice (some ⟨b, 0, none⟩) n cap) n (flat2 (insL P N S x u))) ∧ Hid (Only [b] w wz)) (fun k _ => a + q - (intOf k).toNat)
      case atStart => exact ⟨0, by go_num, Nat.zero_le _, HOQ, HO⟩
      case round =>
        clear HOQ HO
        obtain ⟨u, rfl, huq, HOQ, HO⟩ := hrel
        by_cases hlt : u < q
        · obtain ⟨y, hy⟩ : ∃ y, N[u]? = some y := ⟨_, List.getElem?_eq_getElem (by have := HQ.out; omega)⟩
          obtain ⟨hyi, hsw⟩ := insL_fwd (P := P) (R := S) (x := x) (by have := HQ.out; omega) hy
          have hxi := insL_x (P := P) (R := S) (x := x) (M := N) (s := u) (by have := HQ.out; omega)
          rw [HA.out] at hyi hsw hxi
          have hlen := HLQ.out u
          have HOWQ := HOQ.out
          have hb0 := HB0.out
          obtain ⟨b', hA, hb, -, ci, ci1⟩ := own_cell hlen.symm HOWQ hxi
          cases hA
          obtain ⟨b', hA, -, -, cj, cj1⟩ := own_cell hlen.symm HOWQ hyi
          cases hA
          have fi := own_frozen HOWQ ((a + u) * 2)
          have fi1 := own_frozen HOWQ ((a + u) * 2 + 1)
          have fj := own_frozen HOWQ ((a + u + 1) * 2)
          have fj1 := own_frozen HOWQ ((a + u + 1) * 2 + 1)
          have hns := own_swap2 (i := a + u) (j := a + u + 1) (x := x) (z := y) hlen HOWQ (by omega) (by omega)
          have i0 : (0 : Int) ≤ (a : Int) + (u : Int) := by omega
          have i1 : (a : Int) + (u : Int) < (n : Int) := by omega
          have i2 : ((a : Int) + (u : Int)).toNat = a + u := by omega
          have j0 : (0 : Int) ≤ (a : Int) + (u : Int) + 1 := by omega
          have j1 : (a : Int) + (u : Int) + 1 < (n : Int) := by omega
          have j2 : ((a : Int) + (u : Int) + 1).toNat = a + u + 1 := by omega
          rw [hsw] at hns
          have HNS := Lib.hid hns
          have hg : decide ((a : Int) + (u : Int) < ((m + q : Nat) : Int) - 1) = true := decide_eq_true (by omega)
          have hg2 : decide ((a : Int) + (u : Int) < (m : Int) + (q : Int) - 1) = true := decide_eq_true (by omega)
          clear hxi hyi hsw hlen HOWQ hns hy
          go_wp2_with (fail)
          go_region
          go_wp2_with (fail)
          go_roundw
          case rel => exact ⟨u + 1, by go_num, by omega, HNS, Lib.hid (((((HO.out.setCell (.inl (by simp)) _).setCell (.inl (by simp)) _).setCell (.inl (by simp)) _).setCell (.inl (by simp)) _).drew)⟩
          case measure => simp [intOf]; omega
        · obtain rfl : u = q := by omega
          have hb0 := HB0.out
          have hg : decide ((a : Int) + (u : Int) < ((m + u : Nat) : Int) - 1) = false := decide_eq_false (by omega)
          have hg2 : decide ((a : Int) + (u : Int) < (m : Int) + (u : Int) - 1) = false := decide_eq_false (by omega)
          have HEND := Lib.hid (show wr.ownsRow B 49 2 (.slice (some ⟨b, 0, none⟩) n cap) n (flat2 (P ++ (st keyJ (x :: N) ++ S))) by rw [← HE.out]; exact HOQ.out)
          clear HMA
          go_wp2_with (fail)
          refine bodyPost_ret (results_none rfl _ _ _) rfl ?_
          exact ⟨rfl, HEND.out, HO.out⟩
set_option maxHeartbeats 8000000 in
theorem symBJ (P N S : List Ent) (x : Ent) {w : World} {B b cap n : Nat} (hN : Sorted keyJ N) (hN1 : N.length ≠ 1) (hlen0 : (P ++ (N ++ (x :: S))).length = n) (hn : n ≤ 1000000) (how : w.ownsRow B 49 2 (.slice (some ⟨b, 0, none⟩) n cap) n (flat2 (P ++ (N ++ (x :: S))))) {a m bb : Nat} (ha : P.length = a) (hm : a + N.length = m) (hb : m + 1 = bb) :
    Calls Try.prog 54 #[.slice (some ⟨b, 0, none⟩) n cap, .int .i64 a, .int .i64 m, .int .i64 bb, .func (.func 22) #[] #[]] w fun e w' => e = .returned (.tuple #[]) ∧ w'.ownsRow B 49 2 (.slice (some ⟨b, 0, none⟩) n cap) n (flat2 (P ++ (st keyJ (N ++ [x]) ++ S))) ∧ Only [b] w w' := by
  have hbn : bb ≤ n := by rw [← hlen0]; simp; omega
  have HST := Lib.hid (show w.ownsRow B 49 2 (.slice (some ⟨b, 0, none⟩) n cap) n (flat2 (insL P N S x N.length)) by
    unfold insL
    rw [List.take_of_length_le (Nat.le_refl _), List.drop_of_length_le (Nat.le_refl _), List.nil_append]
    exact how)
  have HLQ := Lib.hid (show ∀ s, (insL P N S x s).length = n from fun s => by rw [insL_len, ← hlen0]; simp; omega)
  have HA := Lib.hid ha
  have HSN := Lib.hid hN
  have HM := Lib.hid hm
  have HBM := Lib.hid hb
  have hmi : ((m : Int) - (a : Int) == 1) = false := beq_eq_false_iff_ne.2 (by omega)
  have hbi : (bb : Int) - (m : Int) = 1 := by omega
  have ham : a ≤ m := by omega
  have hmb : m < bb := by omega
  clear how hlen0 ha hb hN hm hN1
  go_enter Try.func54, Try.ntmps54
  go_wp2_with (fail)
  clear hmi hbi
  go_loopw [14, 15] (fun i j wr => ∃ lo hi : Nat, i = .int .i64 (lo : Int) ∧ j = .int .i64 (hi : Int) ∧ a ≤ lo ∧ lo ≤ hi ∧ hi ≤ m ∧ Hid (∀ c ∈ N.take (lo - a), keyJ c ≤ keyJ x) ∧ Hid (∀ c ∈ N.drop (hi - a), keyJ x < keyJ c) ∧ Hid (wr.ownsRow B 49 2 (.slice (some ⟨b, 0, none⟩) n cap) n (flat2 (insL P N S x N.length))) ∧ Hid (Only [b] w wr)) (fun i j _ => (intOf j).toNat - (intOf i).toNat)
  case atStart => exact ⟨a, m, rfl, rfl, Nat.le_refl _, ham, Nat.le_refl _, Lib.hid (fun c hc => by rw [Nat.sub_self] at hc; cases hc), Lib.hid (fun c hc => by rw [List.drop_of_length_le (by have := HM.out; omega)] at hc; cases hc), HST, Lib.hid (Only.refl _ _)⟩
  case round =>
    obtain ⟨lo, hi, rfl, rfl, hml, hlh, hhb, HLO, HHI, HOQ, HO⟩ := hrel
    by_cases hlt : lo < hi
    · obtain ⟨wq, rfl⟩ : ∃ wq : World, wq = wr := ⟨_, rfl⟩
      obtain ⟨h, hh⟩ : ∃ h : Nat, (lo + hi) / 2 = h := ⟨_, rfl⟩
      have HH := Lib.hid (show ((lo : Int) + (hi : Int)) / 2 = (h : Int) by omega)
      have hh1 : lo ≤ h := by omega
      have hh2 : h < hi := by omega
      clear hh
      obtain ⟨y, hy⟩ : ∃ y, N[h - a]? = some y := ⟨_, List.getElem?_eq_getElem (by have := HM.out; omega)⟩
      have hlen := HLQ.out N.length
      have HOWQ := HOQ.out
      have hyi : (insL P N S x N.length)[h]? = some y := by
        have e := insL_ahead (P := P) (R := S) (x := x) (M := N) (i := h - a) (by have := HM.out; omega)
        have e2 : P.length + (h - a) = h := by have := HA.out; omega
        rw [e2, hy] at e
        exact e
      have hxi : (insL P N S x N.length)[m]? = some x := by
        have e := insL_x (P := P) (R := S) (x := x) (M := N) (s := N.length) (by omega)
        rw [HA.out, HM.out] at e
        exact e
      have HX := Lib.hid (show b < wq.heap.size ∧ wq.cell? ⟨b, m * 2, none⟩ = some (.int .i64 x.1) ∧ wq.cell? ⟨b, m * 2 + 1, none⟩ = some (.int .i64 x.2) from by obtain ⟨b', hA, hb, -, ci, ci1⟩ := own_cell hlen.symm HOWQ hxi; cases hA; exact ⟨hb, ci, ci1⟩)
      have HY := Lib.hid (show b < wq.heap.size ∧ wq.cell? ⟨b, h * 2, none⟩ = some (.int .i64 y.1) ∧ wq.cell? ⟨b, h * 2 + 1, none⟩ = some (.int .i64 y.2) from by obtain ⟨b', hA, hb, -, ci, ci1⟩ := own_cell hlen.symm HOWQ hyi; cases hA; exact ⟨hb, ci, ci1⟩)
      have HMY := Lib.hid hy
      obtain ⟨lb, hlb⟩ : ∃ lb, decide (keyJ x < keyJ y) = lb := ⟨_, rfl⟩
      have HLB := Lib.hid (show decide (cmpZ (keyJ x) (keyJ y) < 0) = lb by rw [cmpZ_neg, hlb])
      have HLB2 := Lib.hid hlb
      have HCA := Lib.hid (fun w => level_any x.1 x.2 y.1 y.2 w)
      obtain ⟨cz, hcz⟩ : ∃ cz, cmpZ (keyJ x) (keyJ y) = cz := ⟨_, rfl⟩
      have hcz2 : cmpZ x.1 y.1 = cz := hcz
      rw [hcz] at HLB
      rw [hcz2] at HCA
      have hmn : m < n := by omega
      have hhn : h < n := by omega
      clear hlb hcz hcz2 hxi hyi hy hlen HOWQ
      go_wp2_with (fail)
      simp only [HH.out]
      refine (wpIn_wide (n := 9)).1 ?_
      refine wpIn_region_relR 12 (Only []) (fr := ?frg) (tl := ?tlg) (fun iq v wv => match iq with
        | 0 => v = .func (.func 22) #[] #[]
        | 1 => v = .slice (some ⟨b, 0, none⟩) n cap
        | 2 => v = .int .i64 (m : Nat)
        | 3 => v = .pointer (some ⟨b, m * 2, none⟩)
        | 4 => v = .agg #[.int .i64 x.1, .int .i64 x.2]
        | 5 => v = .slice (some ⟨b, 0, none⟩) n cap
        | 6 => v = .int .i64 (h : Nat)
        | 7 => v = .pointer (some ⟨b, h * 2, none⟩)
        | 8 => v = .agg #[.int .i64 y.1, .int .i64 y.2]
        | 9 => v = .int .i64 cz
        | 10 => v = .bool lb
        | 11 => v = .bool (!lb)
        | _ => True) (.inl rfl) (by kernel_rfl) (by kernel_rfl) (by kernel_rfl) (by kernel_rfl) (by kernel_rfl) (by kernel_rfl) (by decide) ?htlg ?hfrg (Only.refl _ _) (fun _ _ _ h k => h.trans k (fun _ hx => .inl hx)) ?stabg ?stepsg ?doneg
      case htlg => simp only [List.drop_succ_cons, List.drop_zero]; rfl
      case hfrg => intro vals; simp only [putAll, dstAt, Act.put, List.getElem?_toArray, List.getElem?_cons_zero, List.getElem?_cons_succ, Option.bind_some, List.setIfInBounds_toArray, List.set_cons_zero, List.set_cons_succ]; rfl
      case stabg =>
        intro i v wa wb h
        try dsimp only
        split <;> first | exact id
      case stepsg =>
        refine ⟨?_, ?_, ?_, ?_, ?_, ?_, ?_, ?_, ?_, ?_, ?_, ?_, trivial⟩
        · intro vals wr hR hp K hK
          dsimp only at hK ⊢
          clear hp
          unfold RunsOp
          go_simp
          exact hK.out _ _ ⟨_, rfl, Only.refl _ _, rfl⟩
        · intro vals wr hR hp K hK
          dsimp only at hK ⊢
          clear hp
          unfold RunsOp
          go_simp
          exact hK.out _ _ ⟨_, rfl, Only.refl _ _, rfl⟩
        · intro vals wr hR hp K hK
          dsimp only at hK ⊢
          clear hp
          unfold RunsOp
          go_simp
          exact hK.out _ _ ⟨_, rfl, Only.refl _ _, rfl⟩
        · intro vals wr hR hp K hK
          dsimp only at hK ⊢
          obtain ⟨p1, p2, -⟩ := hp
          replace p1 := p1 rfl
          replace p2 := p2 rfl
          dsimp only at p1 p2
          rw [p1, p2] at hK ⊢
          clear p1 p2
          unfold RunsOp
          have i1 : (0 : Int) ≤ ((m : Nat) : Int) := by omega
          have i2 : ((m : Nat) : Int) < (n : Int) := by omega
          have i3 : ((m : Nat) : Int).toNat = m := by omega
          go_simp
          exact hK.out _ _ ⟨_, rfl, Only.refl _ _, rfl⟩
        · intro vals wr hR hp K hK
          dsimp only at hK ⊢
          obtain ⟨p3, -⟩ := hp
          replace p3 := p3 rfl
          dsimp only at p3
          rw [p3] at hK ⊢
          clear p3
          unfold RunsOp
          have k0 := (hR.cell (p := ⟨b, m * 2, none⟩) HX.out.1 (by simp)).trans HX.out.2.1
          have k1 := (hR.cell (p := ⟨b, m * 2 + 1, none⟩) HX.out.1 (by simp)).trans HX.out.2.2
          go_simp
          exact hK.out _ _ ⟨_, rfl, Only.refl _ _, rfl⟩
        · intro vals wr hR hp K hK
          dsimp only at hK ⊢
          clear hp
          unfold RunsOp
          go_simp
          exact hK.out _ _ ⟨_, rfl, Only.refl _ _, rfl⟩
        · intro vals wr hR hp K hK
          dsimp only at hK ⊢
          clear hp
          unfold RunsOp
          go_simp
          exact hK.out _ _ ⟨_, rfl, Only.refl _ _, rfl⟩
        · intro vals wr hR hp K hK
          dsimp only at hK ⊢
          obtain ⟨p5, p6, -⟩ := hp
          replace p5 := p5 rfl
          replace p6 := p6 rfl
          dsimp only at p5 p6
          rw [p5, p6] at hK ⊢
          clear p5 p6
          unfold RunsOp
          have i1 : (0 : Int) ≤ ((h : Nat) : Int) := by omega
          have i2 : ((h : Nat) : Int) < (n : Int) := by omega
          have i3 : ((h : Nat) : Int).toNat = h := by omega
          go_simp
          exact hK.out _ _ ⟨_, rfl, Only.refl _ _, rfl⟩
        · intro vals wr hR hp K hK
          dsimp only at hK ⊢
          obtain ⟨p7, -⟩ := hp
          replace p7 := p7 rfl
          dsimp only at p7
          rw [p7] at hK ⊢
          clear p7
          unfold RunsOp
          have k0 := (hR.cell (p := ⟨b, h * 2, none⟩) HY.out.1 (by simp)).trans HY.out.2.1
          have k1 := (hR.cell (p := ⟨b, h * 2 + 1, none⟩) HY.out.1 (by simp)).trans HY.out.2.2
          go_simp
          exact hK.out _ _ ⟨_, rfl, Only.refl _ _, rfl⟩
        · intro vals wr hR hp K hK
          dsimp only at hK ⊢
          obtain ⟨p0, p4, p8, -⟩ := hp
          replace p0 := p0 rfl
          replace p4 := p4 rfl
          replace p8 := p8 rfl
          dsimp only at p0 p4 p8
          rw [p0, p4, p8] at hK ⊢
          clear p0 p4 p8
          unfold RunsOp
          go_simp
          refine (HCA.out _).mono ?_
          rintro e' w2 ⟨rfl, o2⟩
          exact hK.out _ _ ⟨_, rfl, o2, rfl⟩
        · intro vals wr hR hp K hK
          dsimp only at hK ⊢
          obtain ⟨p9, -⟩ := hp
          replace p9 := p9 rfl
          dsimp only at p9
          rw [p9] at hK ⊢
          clear p9
          unfold RunsOp
          have hlb := HLB.out
          go_simp
          exact hK.out _ _ ⟨_, rfl, Only.refl _ _, rfl⟩
        · intro vals wr hR hp K hK
          dsimp only at hK ⊢
          obtain ⟨p10, -⟩ := hp
          replace p10 := p10 rfl
          dsimp only at p10
          rw [p10] at hK ⊢
          clear p10
          unfold RunsOp
          go_simp
          exact hK.out _ _ ⟨_, rfl, Only.refl _ _, rfl⟩
      case doneg =>
        intro vals wd hR hF
        have f0 : vals 0 = .func (.func 22) #[] #[] := hF 0 (by decide)
        have f1 : vals 1 = .slice (some ⟨b, 0, none⟩) n cap := hF 1 (by decide)
        have f2 : vals 2 = .int .i64 (m : Nat) := hF 2 (by decide)
        have f3 : vals 3 = .pointer (some ⟨b, m * 2, none⟩) := hF 3 (by decide)
        have f4 : vals 4 = .agg #[.int .i64 x.1, .int .i64 x.2] := hF 4 (by decide)
        have f5 : vals 5 = .slice (some ⟨b, 0, none⟩) n cap := hF 5 (by decide)
        have f6 : vals 6 = .int .i64 (h : Nat) := hF 6 (by decide)
        have f7 : vals 7 = .pointer (some ⟨b, h * 2, none⟩) := hF 7 (by decide)
        have f8 : vals 8 = .agg #[.int .i64 y.1, .int .i64 y.2] := hF 8 (by decide)
        have f9 : (vals 9) = .int .i64 cz := hF 9 (by decide)
        have f10 : vals 10 = .bool lb := hF 10 (by decide)
        have f11 : vals 11 = .bool (!lb) := hF 11 (by decide)
        rw [f0, f1, f2, f3, f4, f5, f6, f7, f8, f10, f11]
        clear f0 f1 f2 f3 f4 f5 f6 f7 f8 f10 f11
        rw [f9]
        clear f9
        have HOd := Lib.hid ((Only.refl [] wq).drew.trans hR (by simp))
        clear hR hF
        cases lb with
        | false =>
          have HL2 := Lib.hid (show ∀ c ∈ N.take (h + 1 - a), keyJ c ≤ keyJ x by
            have e : h + 1 - a = (h - a) + 1 := by omega
            rw [e]
            exact low_take (p := fun k => k ≤ keyJ x) HSN.out (fun z hz => by have := of_decide_eq_false HLB2.out; omega) HMY.out)
          gi_wp2_with (fail)
          go_wp2_with (fail)
          go_roundw
          case rel => exact ⟨h + 1, hi, by go_num, rfl, by omega, by omega, hhb, HL2, HHI, Lib.hid (ownsRow_only HOd.out HOQ.out (by simp)), Lib.hid (HO.out.trans HOd.out (by simp))⟩
          case measure => simp [intOf]; omega
        | true =>
          have HL2 := Lib.hid (show ∀ c ∈ N.drop (h - a), keyJ x < keyJ c from high_drop (p := fun k => keyJ x < k) HSN.out (fun z hz => by have := of_decide_eq_true HLB2.out; omega) HMY.out)
          gi_wp2_with (fail)
          go_wp2_with (fail)
          go_roundw
          case rel => exact ⟨lo, h, rfl, rfl, hml, hh1, by omega, HLO, HL2, Lib.hid (ownsRow_only HOd.out HOQ.out (by simp)), Lib.hid (HO.out.trans HOd.out (by simp))⟩
          case measure => simp [intOf]; omega
    · obtain rfl : lo = hi := by omega
      obtain ⟨q, hq⟩ : ∃ q, lo = a + q := ⟨lo - a, by omega⟩
      have HE := Lib.hid (show insL P N S x q = P ++ (st keyJ (N ++ [x]) ++ S) by
        have e : lo - a = q := by omega
        have h1 := HLO.out
        have h2 := HHI.out
        rw [e] at h1 h2
        rw [← ins_mid HSN.out (by have := HM.out; omega) h2 h1]
        unfold insL
        simp only [List.append_assoc, List.cons_append])
      obtain ⟨N1, hN1⟩ : ∃ N1, N.length = N1 := ⟨_, rfl⟩
      rw [hN1] at HOQ
      have hqN : q ≤ N1 := by have := HM.out; omega
      have hmN : m = a + N1 := by have := HM.out; omega
      have HQ := Lib.hid hN1
      have e9 : (lo : Int) = (a : Int) + (q : Int) := by omega
      subst hmN
      simp only [e9]
      clear HLO HHI hml hlt hlh hhb hN1 e9
      go_wp2_with (fail)
      go_loopw [17] (fun k wz => ∃ u : Nat, k = .int .i64 ((a : Int) + (u : Int)) ∧ q ≤ u ∧ u ≤ N1 ∧ Hid (wz.ownsRow B 49 2 (.slice (some ⟨b, 0, none⟩) n cap) n (flat2 (insL P N S x u))) ∧ Hid (Only [b] w wz)) (fun k _ => (intOf k).toNat)
      case atStart => exact ⟨N1, by go_num, hqN, Nat.le_refl _, HOQ, HO⟩
      case round =>
        clear HOQ HO
        obtain ⟨u, rfl, huq, hun, HOQ, HO⟩ := hrel
        by_cases hlt : q < u
        · obtain ⟨u, rfl⟩ : ∃ v, u = v + 1 := ⟨u - 1, by omega⟩
          obtain ⟨y, hy⟩ : ∃ y, N[u]? = some y := ⟨_, List.getElem?_eq_getElem (by have := HQ.out; omega)⟩
          obtain ⟨hyi, hsw⟩ := insL_step (P := P) (R := S) (x := x) (by have := HQ.out; omega) hy
          have hxi := insL_x (P := P) (R := S) (x := x) (M := N) (s := u + 1) (by have := HQ.out; omega)
          rw [HA.out] at hyi hsw hxi
          have hlen := HLQ.out (u + 1)
          have HOWQ := HOQ.out
          have e1 : ((u + 1 : Nat) : Int) = (u : Int) + 1 := by omega
          simp only [e1]
          obtain ⟨b', hA, hb, -, ci, ci1⟩ := own_cell hlen.symm HOWQ hxi
          cases hA
          obtain ⟨b', hA, -, -, cj, cj1⟩ := own_cell hlen.symm HOWQ hyi
          cases hA
          have fi := own_frozen HOWQ ((a + (u + 1)) * 2)
          have fi1 := own_frozen HOWQ ((a + (u + 1)) * 2 + 1)
          have fj := own_frozen HOWQ ((a + u) * 2)
          have fj1 := own_frozen HOWQ ((a + u) * 2 + 1)
          have hns := own_swap2 (i := a + (u + 1)) (j := a + u) (x := x) (z := y) hlen HOWQ (by omega) (by omega)
          have i0 : (0 : Int) ≤ (a : Int) + ((u : Int) + 1) := by omega
          have i1 : (a : Int) + ((u : Int) + 1) < (n : Int) := by omega
          have i2 : ((a : Int) + ((u : Int) + 1)).toNat = a + (u + 1) := by omega
          have j0 : (0 : Int) ≤ (a : Int) + ((u : Int) + 1) - 1 := by omega
          have j1 : (a : Int) + ((u : Int) + 1) - 1 < (n : Int) := by omega
          have j2 : ((a : Int) + ((u : Int) + 1) - 1).toNat = a + u := by omega
          have i3 : (1 : Int) ≤ (a : Int) + ((u : Int) + 1) := by omega
          rw [hsw] at hns
          have HNS := Lib.hid hns
          have hg : decide ((a : Int) + (q : Int) < (a : Int) + ((u : Int) + 1)) = true := decide_eq_true (by omega)
          clear hxi hyi hsw hlen HOWQ hns hy e1
          go_wp2_with (fail)
          go_region
          go_wp2_with (fail)
          go_roundw
          case rel => exact ⟨u, by go_num, by omega, by omega, HNS, Lib.hid (((((HO.out.setCell (.inl (by simp)) _).setCell (.inl (by simp)) _).setCell (.inl (by simp)) _).setCell (.inl (by simp)) _).drew)⟩
          case measure => simp [intOf]; omega
        · obtain rfl : u = q := by omega
          have HEND := Lib.hid (show wr.ownsRow B 49 2 (.slice (some ⟨b, 0, none⟩) n cap) n (flat2 (P ++ (st keyJ (N ++ [x]) ++ S))) by rw [← HE.out]; exact HOQ.out)
          go_wp2_with (fail)
          refine bodyPost_ret (results_none rfl _ _ _) rfl ?_
          exact ⟨rfl, HEND.out, HO.out⟩
end Go.Proofs.Ytpedlapemgjgaaa
