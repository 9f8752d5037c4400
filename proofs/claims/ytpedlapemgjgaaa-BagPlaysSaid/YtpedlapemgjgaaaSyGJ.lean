/- symMergeCmpFunc, both sides with two entries or more. -/
import Derived.Test.YtpedlapemgjgaaaSyA
namespace Go.Proofs.Ytpedlapemgjgaaa
open Go.RowKit Go.Kx Go.Bag
set_option maxRecDepth 100000
section
variable {α : Type} {key : α → Int}
theorem halves {A N : List α} (hA : Sorted key A) (hN : Sorted key N) {a m bb mid s0 r0 s : Nat} (hm : a + A.length = m) (hb : m + N.length = bb) (g1 : s0 ≤ s) (g2 : s ≤ r0) (hr : r0 ≤ m) (hr2 : r0 ≤ mid) (hs : a ≤ s0) (he : mid + m ≤ bb + s0) (c1 : s0 = a ∨ mid + m = bb + s0) (c2 : r0 = mid ∨ r0 = m)
    (L : ∀ c, s0 ≤ c → c < s → ∀ x y, A[c - a]? = some x → N[mid - 1 - c]? = some y → key x ≤ key y) (U : ∀ c, s ≤ c → c < r0 → ∀ x y, A[c - a]? = some x → N[mid - 1 - c]? = some y → key y < key x) :
    ∃ A1 A2 N1 N2, A = A1 ++ A2 ∧ N = N1 ++ N2 ∧ A1.length = s - a ∧ N1.length = mid - s ∧ st key (A1 ++ N1) ++ st key (A2 ++ N2) = st key (A ++ N) ∧ Sorted key A1 ∧ Sorted key A2 ∧ Sorted key N1 ∧ Sorted key N2 := by
  obtain ⟨u1, u2, -⟩ := take_drop_sorted hA (s - a)
  obtain ⟨v1, v2, -⟩ := take_drop_sorted hN (mid - s)
  refine ⟨A.take (s - a), A.drop (s - a), N.take (mid - s), N.drop (mid - s), (List.take_append_drop _ _).symm, (List.take_append_drop _ _).symm, by simp; omega, by simp; omega, ?_, u1, u2, v1, v2⟩
  have e := merge_halves (key := key) (A1 := A.take (s - a)) (A2 := A.drop (s - a)) (B1 := N.take (mid - s)) (B2 := N.drop (mid - s)) (by rw [List.take_append_drop]; exact hA) (by rw [List.take_append_drop]; exact hN) ?_ ?_
  · rw [List.take_append_drop, List.take_append_drop] at e
    exact e
  · intro x hx y hy
    obtain ⟨i, hi⟩ := List.getElem?_of_mem hx
    have hil : i < s - a := by
      have := (List.getElem?_eq_some_iff.1 hi).1
      simp at this
      omega
    rw [List.getElem?_take_of_lt hil] at hi
    obtain ⟨j, hj⟩ := List.getElem?_of_mem hy
    rw [List.getElem?_drop] at hj
    have hjl := (List.getElem?_eq_some_iff.1 hj).1
    have hs1 : s0 < s := by rcases c1 with h | h <;> omega
    obtain ⟨x', hx'⟩ : ∃ x', A[s - 1 - a]? = some x' := ⟨_, List.getElem?_eq_getElem (by omega)⟩
    obtain ⟨y', hy'⟩ : ∃ y', N[mid - 1 - (s - 1)]? = some y' := ⟨_, List.getElem?_eq_getElem (by omega)⟩
    have k1 := at_mono hA (by omega) hi hx'
    have k2 := at_mono hN (by omega) hy' hj
    have k3 := L (s - 1) (by omega) (by omega) x' y' hx' hy'
    omega
  · intro x hx y hy
    obtain ⟨i, hi⟩ := List.getElem?_of_mem hx
    have hil : i < mid - s := by
      have := (List.getElem?_eq_some_iff.1 hi).1
      simp at this
      omega
    rw [List.getElem?_take_of_lt hil] at hi
    obtain ⟨j, hj⟩ := List.getElem?_of_mem hy
    rw [List.getElem?_drop] at hj
    have hjl := (List.getElem?_eq_some_iff.1 hj).1
    have hs1 : s < r0 := by rcases c2 with h | h <;> omega
    obtain ⟨x', hx'⟩ : ∃ x', A[s - a]? = some x' := ⟨_, List.getElem?_eq_getElem (by omega)⟩
    obtain ⟨y', hy'⟩ : ∃ y', N[mid - 1 - s]? = some y' := ⟨_, List.getElem?_eq_getElem (by omega)⟩
    have k1 := at_mono hA (by omega) hx' hj
    have k2 := at_mono hN (by omega) hi hy'
    have k3 := U s (Nat.le_refl _) (by omega) x' y' hx' hy'
    omega
end
/-- symMergeCmpFunc on fewer than sz entries -/
def MergesJ (sz n : Nat) : Prop := ∀ (P A N S : List Ent) (w : World) (B b cap a m bb : Nat), A.length + N.length < sz → Sorted keyJ A → Sorted keyJ N → 1 ≤ A.length → 1 ≤ N.length → (P ++ (A ++ (N ++ S))).length = n → w.ownsRow B 49 2 (.slice (some ⟨b, 0, none⟩) n cap) n (flat2 (P ++ (A ++ (N ++ S)))) → P.length = a → a + A.length = m → m + N.length = bb →
  Calls Try.prog 54 #[.slice (some ⟨b, 0, none⟩) n cap, .int .i64 a, .int .i64 m, .int .i64 bb, .func (.func 22) #[] #[]] w fun e w' => e = .returned (.tuple #[]) ∧ w'.ownsRow B 49 2 (.slice (some ⟨b, 0, none⟩) n cap) n (flat2 (P ++ (st keyJ (A ++ N) ++ S))) ∧ Only [b] w w'
set_option maxHeartbeats 16000000 in
theorem symGJ (P A N S : List Ent) {w : World} {B b cap n : Nat} (hA : Sorted keyJ A) (hN : Sorted keyJ N) (hA2 : 2 ≤ A.length) (hN2 : 2 ≤ N.length) (hlen0 : (P ++ (A ++ (N ++ S))).length = n) (hn : n ≤ 1000000) (how : w.ownsRow B 49 2 (.slice (some ⟨b, 0, none⟩) n cap) n (flat2 (P ++ (A ++ (N ++ S))))) {a m bb : Nat} (ha : P.length = a) (hm : a + A.length = m) (hb : m + N.length = bb) (IH : MergesJ (A.length + N.length) n) :
    Calls Try.prog 54 #[.slice (some ⟨b, 0, none⟩) n cap, .int .i64 a, .int .i64 m, .int .i64 bb, .func (.func 22) #[] #[]] w fun e w' => e = .returned (.tuple #[]) ∧ w'.ownsRow B 49 2 (.slice (some ⟨b, 0, none⟩) n cap) n (flat2 (P ++ (st keyJ (A ++ N) ++ S))) ∧ Only [b] w w' := by
  have hbn : bb ≤ n := by rw [← hlen0]; simp; omega
  have HST := Lib.hid how
  have HLEN := Lib.hid hlen0
  have HPA := Lib.hid ha
  have HSA := Lib.hid hA
  have HSN := Lib.hid hN
  have HM := Lib.hid hm
  have HBM := Lib.hid hb
  have HIH := Lib.hid IH
  have hma : a + 2 ≤ m := by omega
  have hmb : m + 2 ≤ bb := by omega
  clear how hlen0 ha hb hN hA hm hA2 hN2 IH
  obtain ⟨mid, hmid⟩ : ∃ mid : Nat, (a + bb) / 2 = mid := ⟨_, rfl⟩
  have m1 : 2 * mid ≤ a + bb := by omega
  have m2 : a + bb ≤ 2 * mid + 1 := by omega
  have hmi : ((m : Int) - (a : Int) == 1) = false := beq_eq_false_iff_ne.2 (by omega)
  have hbi : ((bb : Int) - (m : Int) == 1) = false := beq_eq_false_iff_ne.2 (by omega)
  have hmd : ((a : Int) + (bb : Int)) / 2 = (mid : Int) := by omega
  clear hmid
  by_cases hmm : mid < m
  · obtain ⟨s0, hs0⟩ : ∃ s0 : Nat, mid + m = bb + s0 := ⟨mid + m - bb, by omega⟩
    have hg : decide ((mid : Int) < (m : Int)) = true := decide_eq_true (by omega)
    have hst : (mid : Int) + (m : Int) - (bb : Int) = (s0 : Int) := by omega
    have hs1 : a ≤ s0 := by omega
    have hs2 : s0 ≤ mid := by omega
    have hs3 : mid + m ≤ bb + s0 := by omega
    go_enter Try.func54, Try.ntmps54
    go_wp2_with (fail)
    clear hg hst hmi hbi hmd
    go_loopw [20, 21] (fun i j wr => ∃ lo hi : Nat, i = .int .i64 (lo : Int) ∧ j = .int .i64 (hi : Int) ∧ s0 ≤ lo ∧ lo ≤ hi ∧ hi ≤ mid ∧ Hid (∀ c, s0 ≤ c → c < lo → ∀ x y, A[c - a]? = some x → N[mid - 1 - c]? = some y → keyJ x ≤ keyJ y) ∧ Hid (∀ c, hi ≤ c → c < mid → ∀ x y, A[c - a]? = some x → N[mid - 1 - c]? = some y → keyJ y < keyJ x) ∧ Hid (wr.ownsRow B 49 2 (.slice (some ⟨b, 0, none⟩) n cap) n (flat2 (P ++ (A ++ (N ++ S))))) ∧ Hid (Only [b] w wr)) (fun i j _ => (intOf j).toNat - (intOf i).toNat)
    case atStart => exact ⟨s0, mid, rfl, rfl, Nat.le_refl _, hs2, Nat.le_refl _, Lib.hid (fun c h1 h2 => by omega), Lib.hid (fun c h1 h2 => by omega), HST, Lib.hid (Only.refl _ _)⟩
    case round =>
      obtain ⟨lo, hi, rfl, rfl, hsl, hlh, hhr, HLO, HHI, HOQ, HO⟩ := hrel
      by_cases hlt : lo < hi
      · obtain ⟨wq, rfl⟩ : ∃ wq : World, wq = wr := ⟨_, rfl⟩
        obtain ⟨c, hc⟩ : ∃ c : Nat, (lo + hi) / 2 = c := ⟨_, rfl⟩
        have HH := Lib.hid (show ((lo : Int) + (hi : Int)) / 2 = (c : Int) by omega)
        have hh1 : lo ≤ c := by omega
        have hh2 : c < hi := by omega
        clear hc
        have hcm : c < m := by omega
        have hcd : c < mid := by omega
        obtain ⟨z, hz⟩ : ∃ z : Nat, mid + m = z + 1 + c := ⟨mid + m - 1 - c, by omega⟩
        have hz1 : m ≤ z := by omega
        have hz2 : z < bb := by omega
        have hzm : z - m = mid - 1 - c := by omega
        obtain ⟨x, hx⟩ : ∃ x, A[c - a]? = some x := ⟨_, List.getElem?_eq_getElem (by have := HM.out; omega)⟩
        obtain ⟨y, hy⟩ : ∃ y, N[z - m]? = some y := ⟨_, List.getElem?_eq_getElem (by have := HBM.out; omega)⟩
        have hlen := HLEN.out
        have HOWQ := HOQ.out
        have hxi : (P ++ (A ++ (N ++ S)))[c]? = some x := by
          have hpa := HPA.out
          have hml := HM.out
          rw [List.getElem?_append_right (by omega), List.getElem?_append_left (by omega), hpa]
          exact hx
        have hyi : (P ++ (A ++ (N ++ S)))[z]? = some y := by
          have hpa := HPA.out
          have hml := HM.out
          have hbl := HBM.out
          rw [List.getElem?_append_right (by omega), List.getElem?_append_right (by omega), List.getElem?_append_left (by omega)]
          have e : z - P.length - A.length = z - m := by omega
          rw [e]
          exact hy
        have HX := Lib.hid (show b < wq.heap.size ∧ wq.cell? ⟨b, c * 2, none⟩ = some (.int .i64 x.1) ∧ wq.cell? ⟨b, c * 2 + 1, none⟩ = some (.int .i64 x.2) from by obtain ⟨b', hA, hb, -, ci, ci1⟩ := own_cell hlen.symm HOWQ hxi; cases hA; exact ⟨hb, ci, ci1⟩)
        have HY := Lib.hid (show b < wq.heap.size ∧ wq.cell? ⟨b, z * 2, none⟩ = some (.int .i64 y.1) ∧ wq.cell? ⟨b, z * 2 + 1, none⟩ = some (.int .i64 y.2) from by obtain ⟨b', hA, hb, -, ci, ci1⟩ := own_cell hlen.symm HOWQ hyi; cases hA; exact ⟨hb, ci, ci1⟩)
        rw [hzm] at hy
        have HMX := Lib.hid hx
        have HMY := Lib.hid hy
        have HZ := Lib.hid hz
        obtain ⟨lb, hlb⟩ : ∃ lb, decide (keyJ y < keyJ x) = lb := ⟨_, rfl⟩
        have HLB := Lib.hid (show decide (cmpZ (keyJ y) (keyJ x) < 0) = lb by rw [cmpZ_neg, hlb])
        have HLB2 := Lib.hid hlb
        have HCA := Lib.hid (fun w => level_any y.1 y.2 x.1 x.2 w)
        obtain ⟨cz, hcz⟩ : ∃ cz, cmpZ (keyJ y) (keyJ x) = cz := ⟨_, rfl⟩
        have hcz2 : cmpZ y.1 x.1 = cz := hcz
        rw [hcz] at HLB
        rw [hcz2] at HCA
        have hcn : c < n := by omega
        have hzn : z < n := by omega
        clear hlb hcz hcz2 hxi hyi hx hy hlen HOWQ hzm hz
        go_wp2_with (fail)
        simp only [HH.out]
        refine (wpIn_wide (n := 9)).1 ?_
        refine wpIn_region_relR 14 (Only []) (fr := ?frg1) (tl := ?tlg1) (fun iq v wv => match iq with
          | 0 => v = .func (.func 22) #[] #[]
          | 1 => v = .slice (some ⟨b, 0, none⟩) n cap
          | 2 => v = .int .i64 ((mid : Int) + (m : Int) - 1)
          | 3 => v = .int .i64 (c : Nat)
          | 4 => v = .int .i64 ((mid : Int) + (m : Int) - 1 - (c : Int))
          | 5 => v = .pointer (some ⟨b, z * 2, none⟩)
          | 6 => v = .agg #[.int .i64 y.1, .int .i64 y.2]
          | 7 => v = .slice (some ⟨b, 0, none⟩) n cap
          | 8 => v = .int .i64 (c : Nat)
          | 9 => v = .pointer (some ⟨b, c * 2, none⟩)
          | 10 => v = .agg #[.int .i64 x.1, .int .i64 x.2]
          | 11 => v = .int .i64 cz
          | 12 => v = .bool lb
          | 13 => v = .bool (!lb)
          | _ => True) (.inl rfl) (by kernel_rfl) (by kernel_rfl) (by kernel_rfl) (by kernel_rfl) (by kernel_rfl) (by kernel_rfl) (by decide) ?htlg1 ?hfrg1 (Only.refl _ _) (fun _ _ _ h k => h.trans k (fun _ hx => .inl hx)) ?stabg1 ?stepsg1 ?doneg1
        case htlg1 => simp only [List.drop_succ_cons, List.drop_zero]; rfl
        case hfrg1 => intro vals; simp only [putAll, dstAt, Act.put, List.getElem?_toArray, List.getElem?_cons_zero, List.getElem?_cons_succ, Option.bind_some, List.setIfInBounds_toArray, List.set_cons_zero, List.set_cons_succ]; rfl
        case stabg1 =>
          intro i v wa wb h
          try dsimp only
          split <;> first | exact id
        case stepsg1 =>
          refine ⟨?_, ?_, ?_, ?_, ?_, ?_, ?_, ?_, ?_, ?_, ?_, ?_, ?_, ?_, trivial⟩
          · intro vals wr hR hp K hK
            dsimp only at hK ⊢
            clear hp
            unfold RunsOp
            go_simp
            exact hK.out _ _ ⟨_, rfl, Only.refl _ _, rfl⟩
          · intro vals wr hR hp K hK
            dsimp only at hK ⊢
            clear hp
            unfold RunsOp
            go_simp
            exact hK.out _ _ ⟨_, rfl, Only.refl _ _, rfl⟩
          · intro vals wr hR hp K hK
            dsimp only at hK ⊢
            clear hp
            unfold RunsOp
            go_simp
            exact hK.out _ _ ⟨_, rfl, Only.refl _ _, rfl⟩
          · intro vals wr hR hp K hK
            dsimp only at hK ⊢
            clear hp
            unfold RunsOp
            go_simp
            exact hK.out _ _ ⟨_, rfl, Only.refl _ _, rfl⟩
          · intro vals wr hR hp K hK
            dsimp only at hK ⊢
            obtain ⟨p2, p3, -⟩ := hp
            replace p2 := p2 rfl
            replace p3 := p3 rfl
            dsimp only at p2 p3
            rw [p2, p3] at hK ⊢
            clear p2 p3
            unfold RunsOp
            have hwr : IntKind.i64.wrap ((mid : Int) + (m : Int) - 1 - (c : Int)) = (mid : Int) + (m : Int) - 1 - (c : Int) := IntWalk.i64_in _ (by have := HZ.out; omega)
            go_simp
            exact hK.out _ _ ⟨_, rfl, Only.refl _ _, rfl⟩
          · intro vals wr hR hp K hK
            dsimp only at hK ⊢
            obtain ⟨p1, p4, -⟩ := hp
            replace p1 := p1 rfl
            replace p4 := p4 rfl
            dsimp only at p1 p4
            rw [p1, p4] at hK ⊢
            clear p1 p4
            unfold RunsOp
            have hz0 := HZ.out
            have i1 : (0 : Int) ≤ (mid : Int) + (m : Int) - 1 - (c : Int) := by omega
            have i4 : (c : Int) ≤ (mid : Int) + (m : Int) - 1 := by omega
            have i2 : (mid : Int) + (m : Int) - 1 - (c : Int) < (n : Int) := by omega
            have i3 : ((mid : Int) + (m : Int) - 1 - (c : Int)).toNat = z := by omega
            clear hz0
            go_simp
            exact hK.out _ _ ⟨_, rfl, Only.refl _ _, rfl⟩
          · intro vals wr hR hp K hK
            dsimp only at hK ⊢
            obtain ⟨p5, -⟩ := hp
            replace p5 := p5 rfl
            dsimp only at p5
            rw [p5] at hK ⊢
            clear p5
            unfold RunsOp
            have k0 := (hR.cell (p := ⟨b, z * 2, none⟩) HY.out.1 (by simp)).trans HY.out.2.1
            have k1 := (hR.cell (p := ⟨b, z * 2 + 1, none⟩) HY.out.1 (by simp)).trans HY.out.2.2
            go_simp
            exact hK.out _ _ ⟨_, rfl, Only.refl _ _, rfl⟩
          · intro vals wr hR hp K hK
            dsimp only at hK ⊢
            clear hp
            unfold RunsOp
            go_simp
            exact hK.out _ _ ⟨_, rfl, Only.refl _ _, rfl⟩
          · intro vals wr hR hp K hK
            dsimp only at hK ⊢
            clear hp
            unfold RunsOp
            go_simp
            exact hK.out _ _ ⟨_, rfl, Only.refl _ _, rfl⟩
          · intro vals wr hR hp K hK
            dsimp only at hK ⊢
            obtain ⟨p7, p8, -⟩ := hp
            replace p7 := p7 rfl
            replace p8 := p8 rfl
            dsimp only at p7 p8
            rw [p7, p8] at hK ⊢
            clear p7 p8
            unfold RunsOp
            have hz0 := HZ.out
            have i1 : (0 : Int) ≤ ((c : Nat) : Int) := by omega
            have i4 : (c : Int) ≤ (mid : Int) + (m : Int) - 1 := by omega
            have i2 : ((c : Nat) : Int) < (n : Int) := by omega
            have i3 : (((c : Nat) : Int)).toNat = c := by omega
            clear hz0
            go_simp
            exact hK.out _ _ ⟨_, rfl, Only.refl _ _, rfl⟩
          · intro vals wr hR hp K hK
            dsimp only at hK ⊢
            obtain ⟨p9, -⟩ := hp
            replace p9 := p9 rfl
            dsimp only at p9
            rw [p9] at hK ⊢
            clear p9
            unfold RunsOp
            have k0 := (hR.cell (p := ⟨b, c * 2, none⟩) HX.out.1 (by simp)).trans HX.out.2.1
            have k1 := (hR.cell (p := ⟨b, c * 2 + 1, none⟩) HX.out.1 (by simp)).trans HX.out.2.2
            go_simp
            exact hK.out _ _ ⟨_, rfl, Only.refl _ _, rfl⟩
          · intro vals wr hR hp K hK
            dsimp only at hK ⊢
            obtain ⟨p0, p6, p10, -⟩ := hp
            replace p0 := p0 rfl
            replace p6 := p6 rfl
            replace p10 := p10 rfl
            dsimp only at p0 p6 p10
            rw [p0, p6, p10] at hK ⊢
            clear p0 p6 p10
            unfold RunsOp
            go_simp
            refine (HCA.out _).mono ?_
            rintro e' w2 ⟨rfl, o2⟩
            exact hK.out _ _ ⟨_, rfl, o2, rfl⟩
          · intro vals wr hR hp K hK
            dsimp only at hK ⊢
            obtain ⟨p11, -⟩ := hp
            replace p11 := p11 rfl
            dsimp only at p11
            rw [p11] at hK ⊢
            clear p11
            unfold RunsOp
            have hlb := HLB.out
            go_simp
            exact hK.out _ _ ⟨_, rfl, Only.refl _ _, rfl⟩
          · intro vals wr hR hp K hK
            dsimp only at hK ⊢
            obtain ⟨p12, -⟩ := hp
            replace p12 := p12 rfl
            dsimp only at p12
            rw [p12] at hK ⊢
            clear p12
            unfold RunsOp
            go_simp
            exact hK.out _ _ ⟨_, rfl, Only.refl _ _, rfl⟩
        case doneg1 =>
          intro vals wd hR hF
          have f0 : vals 0 = .func (.func 22) #[] #[] := hF 0 (by decide)
          have f1 : vals 1 = .slice (some ⟨b, 0, none⟩) n cap := hF 1 (by decide)
          have f2 : vals 2 = .int .i64 ((mid : Int) + (m : Int) - 1) := hF 2 (by decide)
          have f3 : vals 3 = .int .i64 (c : Nat) := hF 3 (by decide)
          have f4 : vals 4 = .int .i64 ((mid : Int) + (m : Int) - 1 - (c : Int)) := hF 4 (by decide)
          have f5 : vals 5 = .pointer (some ⟨b, z * 2, none⟩) := hF 5 (by decide)
          have f6 : vals 6 = .agg #[.int .i64 y.1, .int .i64 y.2] := hF 6 (by decide)
          have f7 : vals 7 = .slice (some ⟨b, 0, none⟩) n cap := hF 7 (by decide)
          have f8 : vals 8 = .int .i64 (c : Nat) := hF 8 (by decide)
          have f9 : vals 9 = .pointer (some ⟨b, c * 2, none⟩) := hF 9 (by decide)
          have f10 : vals 10 = .agg #[.int .i64 x.1, .int .i64 x.2] := hF 10 (by decide)
          have f11 : (vals 11) = .int .i64 cz := hF 11 (by decide)
          have f12 : vals 12 = .bool lb := hF 12 (by decide)
          have f13 : vals 13 = .bool (!lb) := hF 13 (by decide)
          rw [f0, f1, f2, f3, f4, f5, f6, f7, f8, f9, f10, f12, f13]
          clear f0 f1 f2 f3 f4 f5 f6 f7 f8 f9 f10 f12 f13
          rw [f11]
          clear f11
          have HOd := Lib.hid ((Only.refl [] wq).drew.trans hR (by simp))
          clear hR hF
          cases lb with
          | false =>
            have HL2 := Lib.hid (show ∀ c', s0 ≤ c' → c' < c + 1 → ∀ x y, A[c' - a]? = some x → N[mid - 1 - c']? = some y → keyJ x ≤ keyJ y from fun c' h1 h2 x' y' hx' hy' => by
              have k1 := at_mono HSA.out (by omega) hx' HMX.out
              have k2 := at_mono HSN.out (by omega) HMY.out hy'
              have k3 := of_decide_eq_false HLB2.out
              omega)
            gi_wp2_with (fail)
            go_wp2_with (fail)
            go_roundw
            case rel => exact ⟨c + 1, hi, by go_num, rfl, by omega, by omega, hhr, HL2, HHI, Lib.hid (ownsRow_only HOd.out HOQ.out (by simp)), Lib.hid (HO.out.trans HOd.out (by simp))⟩
            case measure => simp [intOf]; omega
          | true =>
            have HL2 := Lib.hid (show ∀ c', c ≤ c' → c' < mid → ∀ x y, A[c' - a]? = some x → N[mid - 1 - c']? = some y → keyJ y < keyJ x from fun c' h1 h2 x' y' hx' hy' => by
              have k1 := at_mono HSA.out (by omega) HMX.out hx'
              have k2 := at_mono HSN.out (by omega) hy' HMY.out
              have k3 := of_decide_eq_true HLB2.out
              omega)
            gi_wp2_with (fail)
            go_wp2_with (fail)
            go_roundw
            case rel => exact ⟨lo, c, rfl, rfl, hsl, hh1, by omega, HLO, HL2, Lib.hid (ownsRow_only HOd.out HOQ.out (by simp)), Lib.hid (HO.out.trans HOd.out (by simp))⟩
            case measure => simp [intOf]; omega
      · obtain rfl : lo = hi := by omega
        obtain ⟨A1, A2, N1, N2, rfl, rfl, l1, l2, hmer, q1, q2, q3, q4⟩ := halves HSA.out HSN.out HM.out HBM.out hsl hhr (by omega) (by omega) hs1 hs3 (.inr hs0) (.inl rfl) HLO.out HHI.out
        obtain ⟨en, hen⟩ : ∃ en : Nat, mid + m = en + lo := ⟨mid + m - lo, by omega⟩
        have he : (mid : Int) + (m : Int) - (lo : Int) = (en : Int) := by omega
        have hal : a ≤ lo := by omega
        have hlm : lo ≤ m := by omega
        have hld : lo ≤ mid := by omega
        have l3 : lo + A2.length = m := by have := HM.out; simp at this; omega
        have l4 : en + N2.length = bb := by have := HBM.out; simp at this; omega
        have hme : m + N1.length = en := by omega
        have HS1 := Lib.hid (show ∀ W : World, W.ownsRow B 49 2 (.slice (some ⟨b, 0, none⟩) n cap) n (flat2 (P ++ ((A1 ++ A2) ++ ((N1 ++ N2) ++ S)))) → lo < m → lo < mid → Calls Try.prog 57 #[.slice (some ⟨b, 0, none⟩) n cap, .int .i64 (lo : Nat), .int .i64 (m : Nat), .int .i64 (en : Nat), .func (.func 22) #[] #[]] W fun e w' => e = .returned (.tuple #[]) ∧ w'.ownsRow B 49 2 (.slice (some ⟨b, 0, none⟩) n cap) n (flat2 (P ++ (A1 ++ (N1 ++ (A2 ++ (N2 ++ S)))))) ∧ Only [b] W w' from fun W hW g1 g2 => by
          have hpa := HPA.out
          have hl := HLEN.out
          have e1 : P ++ ((A1 ++ A2) ++ ((N1 ++ N2) ++ S)) = (P ++ A1) ++ (A2 ++ (N1 ++ (N2 ++ S))) := by simp only [List.append_assoc]
          have e2 : P ++ (A1 ++ (N1 ++ (A2 ++ (N2 ++ S)))) = (P ++ A1) ++ (N1 ++ (A2 ++ (N2 ++ S))) := by simp only [List.append_assoc]
          rw [e1] at hW hl
          rw [e2]
          exact rotJ (P ++ A1) A2 N1 (N2 ++ S) _ (by omega) (by omega) hl hn hW (by rw [List.length_append]; omega) (by rw [List.length_append]; omega) (by rw [List.length_append]; omega))
        have HE1 := Lib.hid (show ¬(lo < m ∧ lo < mid) → P ++ ((A1 ++ A2) ++ ((N1 ++ N2) ++ S)) = P ++ (A1 ++ (N1 ++ (A2 ++ (N2 ++ S)))) from fun h => by
          by_cases hp : lo < m
          · have h0 : N1 = [] := List.length_eq_zero_iff.1 (by omega)
            rw [h0]
            simp only [List.append_assoc, List.nil_append]
          · have h0 : A2 = [] := List.length_eq_zero_iff.1 (by omega)
            rw [h0]
            simp only [List.append_assoc, List.nil_append])
        have HL1 := Lib.hid (show (P ++ (A1 ++ (N1 ++ (A2 ++ (N2 ++ S))))).length = n by
          rw [← HLEN.out]
          simp only [List.length_append]
          omega)
        have HS2 := Lib.hid (show ∀ W : World, W.ownsRow B 49 2 (.slice (some ⟨b, 0, none⟩) n cap) n (flat2 (P ++ (A1 ++ (N1 ++ (A2 ++ (N2 ++ S)))))) → a < lo → lo < mid → Calls Try.prog 54 #[.slice (some ⟨b, 0, none⟩) n cap, .int .i64 (a : Nat), .int .i64 (lo : Nat), .int .i64 (mid : Nat), .func (.func 22) #[] #[]] W fun e w' => e = .returned (.tuple #[]) ∧ w'.ownsRow B 49 2 (.slice (some ⟨b, 0, none⟩) n cap) n (flat2 (P ++ (st keyJ (A1 ++ N1) ++ (A2 ++ (N2 ++ S))))) ∧ Only [b] W w' from fun W hW g1 g2 => HIH.out P A1 N1 (A2 ++ (N2 ++ S)) W B b cap a lo mid (by simp only [List.length_append]; omega) q1 q3 (by omega) (by omega) HL1.out hW HPA.out (by omega) (by omega))
        have HE2 := Lib.hid (show ¬(a < lo ∧ lo < mid) → P ++ (A1 ++ (N1 ++ (A2 ++ (N2 ++ S)))) = P ++ (st keyJ (A1 ++ N1) ++ (A2 ++ (N2 ++ S))) from fun h => by
          have e : st keyJ (A1 ++ N1) = A1 ++ N1 := by
            by_cases hp : a < lo
            · have h0 : N1 = [] := List.length_eq_zero_iff.1 (by omega)
              rw [h0, List.append_nil]
              exact st_self q1
            · have h0 : A1 = [] := List.length_eq_zero_iff.1 (by omega)
              rw [h0, List.nil_append]
              exact st_self q3
          rw [e]
          simp only [List.append_assoc])
        have HS3 := Lib.hid (show ∀ W : World, W.ownsRow B 49 2 (.slice (some ⟨b, 0, none⟩) n cap) n (flat2 (P ++ (st keyJ (A1 ++ N1) ++ (A2 ++ (N2 ++ S))))) → lo < m → en < bb → Calls Try.prog 54 #[.slice (some ⟨b, 0, none⟩) n cap, .int .i64 (mid : Nat), .int .i64 (en : Nat), .int .i64 (bb : Nat), .func (.func 22) #[] #[]] W fun e w' => e = .returned (.tuple #[]) ∧ w'.ownsRow B 49 2 (.slice (some ⟨b, 0, none⟩) n cap) n (flat2 (P ++ (st keyJ (A1 ++ N1) ++ (st keyJ (A2 ++ N2) ++ S)))) ∧ Only [b] W w' from fun W hW g1 g2 => by
          have e1 : P ++ (st keyJ (A1 ++ N1) ++ (A2 ++ (N2 ++ S))) = (P ++ st keyJ (A1 ++ N1)) ++ (A2 ++ (N2 ++ S)) := by simp only [List.append_assoc]
          have e2 : P ++ (st keyJ (A1 ++ N1) ++ (st keyJ (A2 ++ N2) ++ S)) = (P ++ st keyJ (A1 ++ N1)) ++ (st keyJ (A2 ++ N2) ++ S) := by simp only [List.append_assoc]
          have hl := HL1.out
          have hpa := HPA.out
          rw [e1] at hW
          rw [e2]
          exact HIH.out (P ++ st keyJ (A1 ++ N1)) A2 N2 S W B b cap mid en bb (by simp only [List.length_append]; omega) q2 q4 (by omega) (by omega) (by rw [← hl]; simp only [List.length_append, st_len]; omega) hW (by rw [List.length_append, st_len, List.length_append]; omega) (by omega) (by omega))
        have HE3 := Lib.hid (show ¬(lo < m ∧ en < bb) → P ++ (st keyJ (A1 ++ N1) ++ (A2 ++ (N2 ++ S))) = P ++ (st keyJ (A1 ++ N1) ++ (st keyJ (A2 ++ N2) ++ S)) from fun h => by
          have e : st keyJ (A2 ++ N2) = A2 ++ N2 := by
            by_cases hp : lo < m
            · have h0 : N2 = [] := List.length_eq_zero_iff.1 (by omega)
              rw [h0, List.append_nil]
              exact st_self q2
            · have h0 : A2 = [] := List.length_eq_zero_iff.1 (by omega)
              rw [h0, List.nil_append]
              exact st_self q4
          rw [e]
          simp only [List.append_assoc])
        have HE4 := Lib.hid (show P ++ (st keyJ (A1 ++ N1) ++ (st keyJ (A2 ++ N2) ++ S)) = P ++ (st keyJ ((A1 ++ A2) ++ (N1 ++ N2)) ++ S) by
          rw [← hmer]
          simp only [List.append_assoc])
        have hdn : mid ≤ n := by omega
        have hen2 : en ≤ n := by omega
        have HX1 := Lib.hid (show m < en ↔ lo < mid by omega)
        have HX2 := Lib.hid (show mid < en ↔ lo < m by omega)
        clear HLO HHI hsl hlh hhr hlt l1 l2 l3 l4 hmer q1 q2 q3 q4 hen hme
        by_cases hp : lo < m
        · by_cases hq : lo < mid
          · by_cases hr : a < lo
            · by_cases ht : en < bb
              · first
                | (exfalso; omega)
                | have d1 : decide ((lo : Int) < (m : Int)) = true := decide_eq_true (by have := HX1.out; have := HX2.out; omega)
                  have d2 : decide ((m : Int) < (en : Int)) = true := decide_eq_true (by have := HX1.out; have := HX2.out; omega)
                  have d3 : decide ((a : Int) < (lo : Int)) = true := decide_eq_true (by have := HX1.out; have := HX2.out; omega)
                  have d4 : decide ((lo : Int) < (mid : Int)) = true := decide_eq_true (by have := HX1.out; have := HX2.out; omega)
                  have d5 : decide ((mid : Int) < (en : Int)) = true := decide_eq_true (by have := HX1.out; have := HX2.out; omega)
                  have d6 : decide ((en : Int) < (bb : Int)) = true := decide_eq_true (by have := HX1.out; have := HX2.out; omega)
                  go_wp2_with (fail)
                  refine (HS1.out _ HOQ.out hp hq).mono ?_
                  rintro e1 w1 ⟨rfl, hw1, o1⟩
                  have HQ1 := Lib.hid hw1
                  have HO1 := Lib.hid (HO.out.trans o1 (by simp))
                  clear hw1 o1
                  go_wp2_with (fail)
                  refine (HS2.out _ HQ1.out hr hq).mono ?_
                  rintro e2 w2 ⟨rfl, hw2, o2⟩
                  have HQ2 := Lib.hid hw2
                  have HO2 := Lib.hid (HO1.out.trans o2 (by simp))
                  clear hw2 o2
                  go_wp2_with (fail)
                  refine (HS3.out _ HQ2.out hp ht).mono ?_
                  rintro e3 w3 ⟨rfl, hw3, o3⟩
                  have HQ3 := Lib.hid hw3
                  have HO3 := Lib.hid (HO2.out.trans o3 (by simp))
                  clear hw3 o3
                  rw [HE4.out] at HQ3
                  go_wp2_with (fail)
                  go_end0
                  exact ⟨rfl, HQ3.out, HO3.out⟩
              · first
                | (exfalso; omega)
                | have d1 : decide ((lo : Int) < (m : Int)) = true := decide_eq_true (by have := HX1.out; have := HX2.out; omega)
                  have d2 : decide ((m : Int) < (en : Int)) = true := decide_eq_true (by have := HX1.out; have := HX2.out; omega)
                  have d3 : decide ((a : Int) < (lo : Int)) = true := decide_eq_true (by have := HX1.out; have := HX2.out; omega)
                  have d4 : decide ((lo : Int) < (mid : Int)) = true := decide_eq_true (by have := HX1.out; have := HX2.out; omega)
                  have d5 : decide ((mid : Int) < (en : Int)) = true := decide_eq_true (by have := HX1.out; have := HX2.out; omega)
                  have d6 : decide ((en : Int) < (bb : Int)) = false := decide_eq_false (by have := HX1.out; have := HX2.out; omega)
                  go_wp2_with (fail)
                  refine (HS1.out _ HOQ.out hp hq).mono ?_
                  rintro e1 w1 ⟨rfl, hw1, o1⟩
                  have HQ1 := Lib.hid hw1
                  have HO1 := Lib.hid (HO.out.trans o1 (by simp))
                  clear hw1 o1
                  go_wp2_with (fail)
                  refine (HS2.out _ HQ1.out hr hq).mono ?_
                  rintro e2 w2 ⟨rfl, hw2, o2⟩
                  have HQ2 := Lib.hid hw2
                  have HO2 := Lib.hid (HO1.out.trans o2 (by simp))
                  clear hw2 o2
                  have HQ3 := Lib.hid (HQ2.out)
                  rw [HE3.out (fun h => by omega)] at HQ3
                  rw [HE4.out] at HQ3
                  go_wp2_with (fail)
                  go_end0
                  exact ⟨rfl, HQ3.out, HO2.out⟩
            · by_cases ht : en < bb
              · first
                | (exfalso; omega)
                | have d1 : decide ((lo : Int) < (m : Int)) = true := decide_eq_true (by have := HX1.out; have := HX2.out; omega)
                  have d2 : decide ((m : Int) < (en : Int)) = true := decide_eq_true (by have := HX1.out; have := HX2.out; omega)
                  have d3 : decide ((a : Int) < (lo : Int)) = false := decide_eq_false (by have := HX1.out; have := HX2.out; omega)
                  have d4 : decide ((lo : Int) < (mid : Int)) = true := decide_eq_true (by have := HX1.out; have := HX2.out; omega)
                  have d5 : decide ((mid : Int) < (en : Int)) = true := decide_eq_true (by have := HX1.out; have := HX2.out; omega)
                  have d6 : decide ((en : Int) < (bb : Int)) = true := decide_eq_true (by have := HX1.out; have := HX2.out; omega)
                  go_wp2_with (fail)
                  refine (HS1.out _ HOQ.out hp hq).mono ?_
                  rintro e1 w1 ⟨rfl, hw1, o1⟩
                  have HQ1 := Lib.hid hw1
                  have HO1 := Lib.hid (HO.out.trans o1 (by simp))
                  clear hw1 o1
                  have HQ2 := Lib.hid (HQ1.out)
                  rw [HE2.out (fun h => by omega)] at HQ2
                  go_wp2_with (fail)
                  refine (HS3.out _ HQ2.out hp ht).mono ?_
                  rintro e3 w3 ⟨rfl, hw3, o3⟩
                  have HQ3 := Lib.hid hw3
                  have HO3 := Lib.hid (HO1.out.trans o3 (by simp))
                  clear hw3 o3
                  rw [HE4.out] at HQ3
                  go_wp2_with (fail)
                  go_end0
                  exact ⟨rfl, HQ3.out, HO3.out⟩
              · first
                | (exfalso; omega)
                | have d1 : decide ((lo : Int) < (m : Int)) = true := decide_eq_true (by have := HX1.out; have := HX2.out; omega)
                  have d2 : decide ((m : Int) < (en : Int)) = true := decide_eq_true (by have := HX1.out; have := HX2.out; omega)
                  have d3 : decide ((a : Int) < (lo : Int)) = false := decide_eq_false (by have := HX1.out; have := HX2.out; omega)
                  have d4 : decide ((lo : Int) < (mid : Int)) = true := decide_eq_true (by have := HX1.out; have := HX2.out; omega)
                  have d5 : decide ((mid : Int) < (en : Int)) = true := decide_eq_true (by have := HX1.out; have := HX2.out; omega)
                  have d6 : decide ((en : Int) < (bb : Int)) = false := decide_eq_false (by have := HX1.out; have := HX2.out; omega)
                  go_wp2_with (fail)
                  refine (HS1.out _ HOQ.out hp hq).mono ?_
                  rintro e1 w1 ⟨rfl, hw1, o1⟩
                  have HQ1 := Lib.hid hw1
                  have HO1 := Lib.hid (HO.out.trans o1 (by simp))
                  clear hw1 o1
                  have HQ2 := Lib.hid (HQ1.out)
                  rw [HE2.out (fun h => by omega)] at HQ2
                  have HQ3 := Lib.hid (HQ2.out)
                  rw [HE3.out (fun h => by omega)] at HQ3
                  rw [HE4.out] at HQ3
                  go_wp2_with (fail)
                  go_end0
                  exact ⟨rfl, HQ3.out, HO1.out⟩
          · by_cases hr : a < lo
            · by_cases ht : en < bb
              · first
                | (exfalso; omega)
                | have d1 : decide ((lo : Int) < (m : Int)) = true := decide_eq_true (by have := HX1.out; have := HX2.out; omega)
                  have d2 : decide ((m : Int) < (en : Int)) = false := decide_eq_false (by have := HX1.out; have := HX2.out; omega)
                  have d3 : decide ((a : Int) < (lo : Int)) = true := decide_eq_true (by have := HX1.out; have := HX2.out; omega)
                  have d4 : decide ((lo : Int) < (mid : Int)) = false := decide_eq_false (by have := HX1.out; have := HX2.out; omega)
                  have d5 : decide ((mid : Int) < (en : Int)) = true := decide_eq_true (by have := HX1.out; have := HX2.out; omega)
                  have d6 : decide ((en : Int) < (bb : Int)) = true := decide_eq_true (by have := HX1.out; have := HX2.out; omega)
                  have HQ1 := Lib.hid (HOQ.out)
                  rw [HE1.out (fun h => by omega)] at HQ1
                  have HQ2 := Lib.hid (HQ1.out)
                  rw [HE2.out (fun h => by omega)] at HQ2
                  go_wp2_with (fail)
                  refine (HS3.out _ HQ2.out hp ht).mono ?_
                  rintro e3 w3 ⟨rfl, hw3, o3⟩
                  have HQ3 := Lib.hid hw3
                  have HO3 := Lib.hid (HO.out.trans o3 (by simp))
                  clear hw3 o3
                  rw [HE4.out] at HQ3
                  go_wp2_with (fail)
                  go_end0
                  exact ⟨rfl, HQ3.out, HO3.out⟩
              · first
                | (exfalso; omega)
                | have d1 : decide ((lo : Int) < (m : Int)) = true := decide_eq_true (by have := HX1.out; have := HX2.out; omega)
                  have d2 : decide ((m : Int) < (en : Int)) = false := decide_eq_false (by have := HX1.out; have := HX2.out; omega)
                  have d3 : decide ((a : Int) < (lo : Int)) = true := decide_eq_true (by have := HX1.out; have := HX2.out; omega)
                  have d4 : decide ((lo : Int) < (mid : Int)) = false := decide_eq_false (by have := HX1.out; have := HX2.out; omega)
                  have d5 : decide ((mid : Int) < (en : Int)) = true := decide_eq_true (by have := HX1.out; have := HX2.out; omega)
                  have d6 : decide ((en : Int) < (bb : Int)) = false := decide_eq_false (by have := HX1.out; have := HX2.out; omega)
                  have HQ1 := Lib.hid (HOQ.out)
                  rw [HE1.out (fun h => by omega)] at HQ1
                  have HQ2 := Lib.hid (HQ1.out)
                  rw [HE2.out (fun h => by omega)] at HQ2
                  have HQ3 := Lib.hid (HQ2.out)
                  rw [HE3.out (fun h => by omega)] at HQ3
                  rw [HE4.out] at HQ3
                  go_wp2_with (fail)
                  go_end0
                  exact ⟨rfl, HQ3.out, HO.out⟩
            · by_cases ht : en < bb
              · first
                | (exfalso; omega)
                | have d1 : decide ((lo : Int) < (m : Int)) = true := decide_eq_true (by have := HX1.out; have := HX2.out; omega)
                  have d2 : decide ((m : Int) < (en : Int)) = false := decide_eq_false (by have := HX1.out; have := HX2.out; omega)
                  have d3 : decide ((a : Int) < (lo : Int)) = false := decide_eq_false (by have := HX1.out; have := HX2.out; omega)
                  have d4 : decide ((lo : Int) < (mid : Int)) = false := decide_eq_false (by have := HX1.out; have := HX2.out; omega)
                  have d5 : decide ((mid : Int) < (en : Int)) = true := decide_eq_true (by have := HX1.out; have := HX2.out; omega)
                  have d6 : decide ((en : Int) < (bb : Int)) = true := decide_eq_true (by have := HX1.out; have := HX2.out; omega)
                  have HQ1 := Lib.hid (HOQ.out)
                  rw [HE1.out (fun h => by omega)] at HQ1
                  have HQ2 := Lib.hid (HQ1.out)
                  rw [HE2.out (fun h => by omega)] at HQ2
                  go_wp2_with (fail)
                  refine (HS3.out _ HQ2.out hp ht).mono ?_
                  rintro e3 w3 ⟨rfl, hw3, o3⟩
                  have HQ3 := Lib.hid hw3
                  have HO3 := Lib.hid (HO.out.trans o3 (by simp))
                  clear hw3 o3
                  rw [HE4.out] at HQ3
                  go_wp2_with (fail)
                  go_end0
                  exact ⟨rfl, HQ3.out, HO3.out⟩
              · first
                | (exfalso; omega)
                | have d1 : decide ((lo : Int) < (m : Int)) = true := decide_eq_true (by have := HX1.out; have := HX2.out; omega)
                  have d2 : decide ((m : Int) < (en : Int)) = false := decide_eq_false (by have := HX1.out; have := HX2.out; omega)
                  have d3 : decide ((a : Int) < (lo : Int)) = false := decide_eq_false (by have := HX1.out; have := HX2.out; omega)
                  have d4 : decide ((lo : Int) < (mid : Int)) = false := decide_eq_false (by have := HX1.out; have := HX2.out; omega)
                  have d5 : decide ((mid : Int) < (en : Int)) = true := decide_eq_true (by have := HX1.out; have := HX2.out; omega)
                  have d6 : decide ((en : Int) < (bb : Int)) = false := decide_eq_false (by have := HX1.out; have := HX2.out; omega)
                  have HQ1 := Lib.hid (HOQ.out)
                  rw [HE1.out (fun h => by omega)] at HQ1
                  have HQ2 := Lib.hid (HQ1.out)
                  rw [HE2.out (fun h => by omega)] at HQ2
                  have HQ3 := Lib.hid (HQ2.out)
                  rw [HE3.out (fun h => by omega)] at HQ3
                  rw [HE4.out] at HQ3
                  go_wp2_with (fail)
                  go_end0
                  exact ⟨rfl, HQ3.out, HO.out⟩
        · by_cases hq : lo < mid
          · by_cases hr : a < lo
            · by_cases ht : en < bb
              · first
                | (exfalso; omega)
                | have d1 : decide ((lo : Int) < (m : Int)) = false := decide_eq_false (by have := HX1.out; have := HX2.out; omega)
                  have d2 : decide ((m : Int) < (en : Int)) = true := decide_eq_true (by have := HX1.out; have := HX2.out; omega)
                  have d3 : decide ((a : Int) < (lo : Int)) = true := decide_eq_true (by have := HX1.out; have := HX2.out; omega)
                  have d4 : decide ((lo : Int) < (mid : Int)) = true := decide_eq_true (by have := HX1.out; have := HX2.out; omega)
                  have d5 : decide ((mid : Int) < (en : Int)) = false := decide_eq_false (by have := HX1.out; have := HX2.out; omega)
                  have d6 : decide ((en : Int) < (bb : Int)) = true := decide_eq_true (by have := HX1.out; have := HX2.out; omega)
                  have HQ1 := Lib.hid (HOQ.out)
                  rw [HE1.out (fun h => by omega)] at HQ1
                  go_wp2_with (fail)
                  refine (HS2.out _ HQ1.out hr hq).mono ?_
                  rintro e2 w2 ⟨rfl, hw2, o2⟩
                  have HQ2 := Lib.hid hw2
                  have HO2 := Lib.hid (HO.out.trans o2 (by simp))
                  clear hw2 o2
                  have HQ3 := Lib.hid (HQ2.out)
                  rw [HE3.out (fun h => by omega)] at HQ3
                  rw [HE4.out] at HQ3
                  go_wp2_with (fail)
                  go_end0
                  exact ⟨rfl, HQ3.out, HO2.out⟩
              · first
                | (exfalso; omega)
                | have d1 : decide ((lo : Int) < (m : Int)) = false := decide_eq_false (by have := HX1.out; have := HX2.out; omega)
                  have d2 : decide ((m : Int) < (en : Int)) = true := decide_eq_true (by have := HX1.out; have := HX2.out; omega)
                  have d3 : decide ((a : Int) < (lo : Int)) = true := decide_eq_true (by have := HX1.out; have := HX2.out; omega)
                  have d4 : decide ((lo : Int) < (mid : Int)) = true := decide_eq_true (by have := HX1.out; have := HX2.out; omega)
                  have d5 : decide ((mid : Int) < (en : Int)) = false := decide_eq_false (by have := HX1.out; have := HX2.out; omega)
                  have d6 : decide ((en : Int) < (bb : Int)) = false := decide_eq_false (by have := HX1.out; have := HX2.out; omega)
                  have HQ1 := Lib.hid (HOQ.out)
                  rw [HE1.out (fun h => by omega)] at HQ1
                  go_wp2_with (fail)
                  refine (HS2.out _ HQ1.out hr hq).mono ?_
                  rintro e2 w2 ⟨rfl, hw2, o2⟩
                  have HQ2 := Lib.hid hw2
                  have HO2 := Lib.hid (HO.out.trans o2 (by simp))
                  clear hw2 o2
                  have HQ3 := Lib.hid (HQ2.out)
                  rw [HE3.out (fun h => by omega)] at HQ3
                  rw [HE4.out] at HQ3
                  go_wp2_with (fail)
                  go_end0
                  exact ⟨rfl, HQ3.out, HO2.out⟩
            · by_cases ht : en < bb
              · first
                | (exfalso; omega)
                | have d1 : decide ((lo : Int) < (m : Int)) = false := decide_eq_false (by have := HX1.out; have := HX2.out; omega)
                  have d2 : decide ((m : Int) < (en : Int)) = true := decide_eq_true (by have := HX1.out; have := HX2.out; omega)
                  have d3 : decide ((a : Int) < (lo : Int)) = false := decide_eq_false (by have := HX1.out; have := HX2.out; omega)
                  have d4 : decide ((lo : Int) < (mid : Int)) = true := decide_eq_true (by have := HX1.out; have := HX2.out; omega)
                  have d5 : decide ((mid : Int) < (en : Int)) = false := decide_eq_false (by have := HX1.out; have := HX2.out; omega)
                  have d6 : decide ((en : Int) < (bb : Int)) = true := decide_eq_true (by have := HX1.out; have := HX2.out; omega)
                  have HQ1 := Lib.hid (HOQ.out)
                  rw [HE1.out (fun h => by omega)] at HQ1
                  have HQ2 := Lib.hid (HQ1.out)
                  rw [HE2.out (fun h => by omega)] at HQ2
                  have HQ3 := Lib.hid (HQ2.out)
                  rw [HE3.out (fun h => by omega)] at HQ3
                  rw [HE4.out] at HQ3
                  go_wp2_with (fail)
                  go_end0
                  exact ⟨rfl, HQ3.out, HO.out⟩
              · first
                | (exfalso; omega)
                | have d1 : decide ((lo : Int) < (m : Int)) = false := decide_eq_false (by have := HX1.out; have := HX2.out; omega)
                  have d2 : decide ((m : Int) < (en : Int)) = true := decide_eq_true (by have := HX1.out; have := HX2.out; omega)
                  have d3 : decide ((a : Int) < (lo : Int)) = false := decide_eq_false (by have := HX1.out; have := HX2.out; omega)
                  have d4 : decide ((lo : Int) < (mid : Int)) = true := decide_eq_true (by have := HX1.out; have := HX2.out; omega)
                  have d5 : decide ((mid : Int) < (en : Int)) = false := decide_eq_false (by have := HX1.out; have := HX2.out; omega)
                  have d6 : decide ((en : Int) < (bb : Int)) = false := decide_eq_false (by have := HX1.out; have := HX2.out; omega)
                  have HQ1 := Lib.hid (HOQ.out)
                  rw [HE1.out (fun h => by omega)] at HQ1
                  have HQ2 := Lib.hid (HQ1.out)
                  rw [HE2.out (fun h => by omega)] at HQ2
                  have HQ3 := Lib.hid (HQ2.out)
                  rw [HE3.out (fun h => by omega)] at HQ3
                  rw [HE4.out] at HQ3
                  go_wp2_with (fail)
                  go_end0
                  exact ⟨rfl, HQ3.out, HO.out⟩
          · by_cases hr : a < lo
            · by_cases ht : en < bb
              · first
                | (exfalso; omega)
                | have d1 : decide ((lo : Int) < (m : Int)) = false := decide_eq_false (by have := HX1.out; have := HX2.out; omega)
                  have d2 : decide ((m : Int) < (en : Int)) = false := decide_eq_false (by have := HX1.out; have := HX2.out; omega)
                  have d3 : decide ((a : Int) < (lo : Int)) = true := decide_eq_true (by have := HX1.out; have := HX2.out; omega)
                  have d4 : decide ((lo : Int) < (mid : Int)) = false := decide_eq_false (by have := HX1.out; have := HX2.out; omega)
                  have d5 : decide ((mid : Int) < (en : Int)) = false := decide_eq_false (by have := HX1.out; have := HX2.out; omega)
                  have d6 : decide ((en : Int) < (bb : Int)) = true := decide_eq_true (by have := HX1.out; have := HX2.out; omega)
                  have HQ1 := Lib.hid (HOQ.out)
                  rw [HE1.out (fun h => by omega)] at HQ1
                  have HQ2 := Lib.hid (HQ1.out)
                  rw [HE2.out (fun h => by omega)] at HQ2
                  have HQ3 := Lib.hid (HQ2.out)
                  rw [HE3.out (fun h => by omega)] at HQ3
                  rw [HE4.out] at HQ3
                  go_wp2_with (fail)
                  go_end0
                  exact ⟨rfl, HQ3.out, HO.out⟩
              · first
                | (exfalso; omega)
                | have d1 : decide ((lo : Int) < (m : Int)) = false := decide_eq_false (by have := HX1.out; have := HX2.out; omega)
                  have d2 : decide ((m : Int) < (en : Int)) = false := decide_eq_false (by have := HX1.out; have := HX2.out; omega)
                  have d3 : decide ((a : Int) < (lo : Int)) = true := decide_eq_true (by have := HX1.out; have := HX2.out; omega)
                  have d4 : decide ((lo : Int) < (mid : Int)) = false := decide_eq_false (by have := HX1.out; have := HX2.out; omega)
                  have d5 : decide ((mid : Int) < (en : Int)) = false := decide_eq_false (by have := HX1.out; have := HX2.out; omega)
                  have d6 : decide ((en : Int) < (bb : Int)) = false := decide_eq_false (by have := HX1.out; have := HX2.out; omega)
                  have HQ1 := Lib.hid (HOQ.out)
                  rw [HE1.out (fun h => by omega)] at HQ1
                  have HQ2 := Lib.hid (HQ1.out)
                  rw [HE2.out (fun h => by omega)] at HQ2
                  have HQ3 := Lib.hid (HQ2.out)
                  rw [HE3.out (fun h => by omega)] at HQ3
                  rw [HE4.out] at HQ3
                  go_wp2_with (fail)
                  go_end0
                  exact ⟨rfl, HQ3.out, HO.out⟩
            · by_cases ht : en < bb
              · first
                | (exfalso; omega)
                | have d1 : decide ((lo : Int) < (m : Int)) = false := decide_eq_false (by have := HX1.out; have := HX2.out; omega)
                  have d2 : decide ((m : Int) < (en : Int)) = false := decide_eq_false (by have := HX1.out; have := HX2.out; omega)
                  have d3 : decide ((a : Int) < (lo : Int)) = false := decide_eq_false (by have := HX1.out; have := HX2.out; omega)
                  have d4 : decide ((lo : Int) < (mid : Int)) = false := decide_eq_false (by have := HX1.out; have := HX2.out; omega)
                  have d5 : decide ((mid : Int) < (en : Int)) = false := decide_eq_false (by have := HX1.out; have := HX2.out; omega)
                  have d6 : decide ((en : Int) < (bb : Int)) = true := decide_eq_true (by have := HX1.out; have := HX2.out; omega)
                  have HQ1 := Lib.hid (HOQ.out)
                  rw [HE1.out (fun h => by omega)] at HQ1
                  have HQ2 := Lib.hid (HQ1.out)
                  rw [HE2.out (fun h => by omega)] at HQ2
                  have HQ3 := Lib.hid (HQ2.out)
                  rw [HE3.out (fun h => by omega)] at HQ3
                  rw [HE4.out] at HQ3
                  go_wp2_with (fail)
                  go_end0
                  exact ⟨rfl, HQ3.out, HO.out⟩
              · first
                | (exfalso; omega)
                | have d1 : decide ((lo : Int) < (m : Int)) = false := decide_eq_false (by have := HX1.out; have := HX2.out; omega)
                  have d2 : decide ((m : Int) < (en : Int)) = false := decide_eq_false (by have := HX1.out; have := HX2.out; omega)
                  have d3 : decide ((a : Int) < (lo : Int)) = false := decide_eq_false (by have := HX1.out; have := HX2.out; omega)
                  have d4 : decide ((lo : Int) < (mid : Int)) = false := decide_eq_false (by have := HX1.out; have := HX2.out; omega)
                  have d5 : decide ((mid : Int) < (en : Int)) = false := decide_eq_false (by have := HX1.out; have := HX2.out; omega)
                  have d6 : decide ((en : Int) < (bb : Int)) = false := decide_eq_false (by have := HX1.out; have := HX2.out; omega)
                  have HQ1 := Lib.hid (HOQ.out)
                  rw [HE1.out (fun h => by omega)] at HQ1
                  have HQ2 := Lib.hid (HQ1.out)
                  rw [HE2.out (fun h => by omega)] at HQ2
                  have HQ3 := Lib.hid (HQ2.out)
                  rw [HE3.out (fun h => by omega)] at HQ3
                  rw [HE4.out] at HQ3
                  go_wp2_with (fail)
                  go_end0
                  exact ⟨rfl, HQ3.out, HO.out⟩
  · have hg : decide ((mid : Int) < (m : Int)) = false := decide_eq_false (by omega)
    have hs1 : a ≤ a := Nat.le_refl _
    have hs2 : a ≤ m := by omega
    have hs3 : mid + m ≤ bb + a := by omega
    go_enter Try.func54, Try.ntmps54
    go_wp2_with (fail)
    clear hg hmi hbi hmd
    go_loopw [20, 21] (fun i j wr => ∃ lo hi : Nat, i = .int .i64 (lo : Int) ∧ j = .int .i64 (hi : Int) ∧ a ≤ lo ∧ lo ≤ hi ∧ hi ≤ m ∧ Hid (∀ c, a ≤ c → c < lo → ∀ x y, A[c - a]? = some x → N[mid - 1 - c]? = some y → keyJ x ≤ keyJ y) ∧ Hid (∀ c, hi ≤ c → c < m → ∀ x y, A[c - a]? = some x → N[mid - 1 - c]? = some y → keyJ y < keyJ x) ∧ Hid (wr.ownsRow B 49 2 (.slice (some ⟨b, 0, none⟩) n cap) n (flat2 (P ++ (A ++ (N ++ S))))) ∧ Hid (Only [b] w wr)) (fun i j _ => (intOf j).toNat - (intOf i).toNat)
    case atStart => exact ⟨a, m, rfl, rfl, Nat.le_refl _, hs2, Nat.le_refl _, Lib.hid (fun c h1 h2 => by omega), Lib.hid (fun c h1 h2 => by omega), HST, Lib.hid (Only.refl _ _)⟩
    case round =>
      obtain ⟨lo, hi, rfl, rfl, hsl, hlh, hhr, HLO, HHI, HOQ, HO⟩ := hrel
      by_cases hlt : lo < hi
      · obtain ⟨wq, rfl⟩ : ∃ wq : World, wq = wr := ⟨_, rfl⟩
        obtain ⟨c, hc⟩ : ∃ c : Nat, (lo + hi) / 2 = c := ⟨_, rfl⟩
        have HH := Lib.hid (show ((lo : Int) + (hi : Int)) / 2 = (c : Int) by omega)
        have hh1 : lo ≤ c := by omega
        have hh2 : c < hi := by omega
        clear hc
        have hcm : c < m := by omega
        have hcd : c < mid := by omega
        obtain ⟨z, hz⟩ : ∃ z : Nat, mid + m = z + 1 + c := ⟨mid + m - 1 - c, by omega⟩
        have hz1 : m ≤ z := by omega
        have hz2 : z < bb := by omega
        have hzm : z - m = mid - 1 - c := by omega
        obtain ⟨x, hx⟩ : ∃ x, A[c - a]? = some x := ⟨_, List.getElem?_eq_getElem (by have := HM.out; omega)⟩
        obtain ⟨y, hy⟩ : ∃ y, N[z - m]? = some y := ⟨_, List.getElem?_eq_getElem (by have := HBM.out; omega)⟩
        have hlen := HLEN.out
        have HOWQ := HOQ.out
        have hxi : (P ++ (A ++ (N ++ S)))[c]? = some x := by
          have hpa := HPA.out
          have hml := HM.out
          rw [List.getElem?_append_right (by omega), List.getElem?_append_left (by omega), hpa]
          exact hx
        have hyi : (P ++ (A ++ (N ++ S)))[z]? = some y := by
          have hpa := HPA.out
          have hml := HM.out
          have hbl := HBM.out
          rw [List.getElem?_append_right (by omega), List.getElem?_append_right (by omega), List.getElem?_append_left (by omega)]
          have e : z - P.length - A.length = z - m := by omega
          rw [e]
          exact hy
        have HX := Lib.hid (show b < wq.heap.size ∧ wq.cell? ⟨b, c * 2, none⟩ = some (.int .i64 x.1) ∧ wq.cell? ⟨b, c * 2 + 1, none⟩ = some (.int .i64 x.2) from by obtain ⟨b', hA, hb, -, ci, ci1⟩ := own_cell hlen.symm HOWQ hxi; cases hA; exact ⟨hb, ci, ci1⟩)
        have HY := Lib.hid (show b < wq.heap.size ∧ wq.cell? ⟨b, z * 2, none⟩ = some (.int .i64 y.1) ∧ wq.cell? ⟨b, z * 2 + 1, none⟩ = some (.int .i64 y.2) from by obtain ⟨b', hA, hb, -, ci, ci1⟩ := own_cell hlen.symm HOWQ hyi; cases hA; exact ⟨hb, ci, ci1⟩)
        rw [hzm] at hy
        have HMX := Lib.hid hx
        have HMY := Lib.hid hy
        have HZ := Lib.hid hz
        obtain ⟨lb, hlb⟩ : ∃ lb, decide (keyJ y < keyJ x) = lb := ⟨_, rfl⟩
        have HLB := Lib.hid (show decide (cmpZ (keyJ y) (keyJ x) < 0) = lb by rw [cmpZ_neg, hlb])
        have HLB2 := Lib.hid hlb
        have HCA := Lib.hid (fun w => level_any y.1 y.2 x.1 x.2 w)
        obtain ⟨cz, hcz⟩ : ∃ cz, cmpZ (keyJ y) (keyJ x) = cz := ⟨_, rfl⟩
        have hcz2 : cmpZ y.1 x.1 = cz := hcz
        rw [hcz] at HLB
        rw [hcz2] at HCA
        have hcn : c < n := by omega
        have hzn : z < n := by omega
        clear hlb hcz hcz2 hxi hyi hx hy hlen HOWQ hzm hz
        go_wp2_with (fail)
        simp only [HH.out]
        refine (wpIn_wide (n := 9)).1 ?_
        refine wpIn_region_relR 14 (Only []) (fr := ?frg2) (tl := ?tlg2) (fun iq v wv => match iq with
          | 0 => v = .func (.func 22) #[] #[]
          | 1 => v = .slice (some ⟨b, 0, none⟩) n cap
          | 2 => v = .int .i64 ((mid : Int) + (m : Int) - 1)
          | 3 => v = .int .i64 (c : Nat)
          | 4 => v = .int .i64 ((mid : Int) + (m : Int) - 1 - (c : Int))
          | 5 => v = .pointer (some ⟨b, z * 2, none⟩)
          | 6 => v = .agg #[.int .i64 y.1, .int .i64 y.2]
          | 7 => v = .slice (some ⟨b, 0, none⟩) n cap
          | 8 => v = .int .i64 (c : Nat)
          | 9 => v = .pointer (some ⟨b, c * 2, none⟩)
          | 10 => v = .agg #[.int .i64 x.1, .int .i64 x.2]
          | 11 => v = .int .i64 cz
          | 12 => v = .bool lb
          | 13 => v = .bool (!lb)
          | _ => True) (.inl rfl) (by kernel_rfl) (by kernel_rfl) (by kernel_rfl) (by kernel_rfl) (by kernel_rfl) (by kernel_rfl) (by decide) ?htlg2 ?hfrg2 (Only.refl _ _) (fun _ _ _ h k => h.trans k (fun _ hx => .inl hx)) ?stabg2 ?stepsg2 ?doneg2
        case htlg2 => simp only [List.drop_succ_cons, List.drop_zero]; rfl
        case hfrg2 => intro vals; simp only [putAll, dstAt, Act.put, List.getElem?_toArray, List.getElem?_cons_zero, List.getElem?_cons_succ, Option.bind_some, List.setIfInBounds_toArray, List.set_cons_zero, List.set_cons_succ]; rfl
        case stabg2 =>
          intro i v wa wb h
          try dsimp only
          split <;> first | exact id
        case stepsg2 =>
          refine ⟨?_, ?_, ?_, ?_, ?_, ?_, ?_, ?_, ?_, ?_, ?_, ?_, ?_, ?_, trivial⟩
          · intro vals wr hR hp K hK
            dsimp only at hK ⊢
            clear hp
            unfold RunsOp
            go_simp
            exact hK.out _ _ ⟨_, rfl, Only.refl _ _, rfl⟩
          · intro vals wr hR hp K hK
            dsimp only at hK ⊢
            clear hp
            unfold RunsOp
            go_simp
            exact hK.out _ _ ⟨_, rfl, Only.refl _ _, rfl⟩
          · intro vals wr hR hp K hK
            dsimp only at hK ⊢
            clear hp
            unfold RunsOp
            go_simp
            exact hK.out _ _ ⟨_, rfl, Only.refl _ _, rfl⟩
          · intro vals wr hR hp K hK
            dsimp only at hK ⊢
            clear hp
            unfold RunsOp
            go_simp
            exact hK.out _ _ ⟨_, rfl, Only.refl _ _, rfl⟩
          · intro vals wr hR hp K hK
            dsimp only at hK ⊢
            obtain ⟨p2, p3, -⟩ := hp
            replace p2 := p2 rfl
            replace p3 := p3 rfl
            dsimp only at p2 p3
            rw [p2, p3] at hK ⊢
            clear p2 p3
            unfold RunsOp
            have hwr : IntKind.i64.wrap ((mid : Int) + (m : Int) - 1 - (c : Int)) = (mid : Int) + (m : Int) - 1 - (c : Int) := IntWalk.i64_in _ (by have := HZ.out; omega)
            go_simp
            exact hK.out _ _ ⟨_, rfl, Only.refl _ _, rfl⟩
          · intro vals wr hR hp K hK
            dsimp only at hK ⊢
            obtain ⟨p1, p4, -⟩ := hp
            replace p1 := p1 rfl
            replace p4 := p4 rfl
            dsimp only at p1 p4
            rw [p1, p4] at hK ⊢
            clear p1 p4
            unfold RunsOp
            have hz0 := HZ.out
            have i1 : (0 : Int) ≤ (mid : Int) + (m : Int) - 1 - (c : Int) := by omega
            have i4 : (c : Int) ≤ (mid : Int) + (m : Int) - 1 := by omega
            have i2 : (mid : Int) + (m : Int) - 1 - (c : Int) < (n : Int) := by omega
            have i3 : ((mid : Int) + (m : Int) - 1 - (c : Int)).toNat = z := by omega
            clear hz0
            go_simp
            exact hK.out _ _ ⟨_, rfl, Only.refl _ _, rfl⟩
          · intro vals wr hR hp K hK
            dsimp only at hK ⊢
            obtain ⟨p5, -⟩ := hp
            replace p5 := p5 rfl
            dsimp only at p5
            rw [p5] at hK ⊢
            clear p5
            unfold RunsOp
            have k0 := (hR.cell (p := ⟨b, z * 2, none⟩) HY.out.1 (by simp)).trans HY.out.2.1
            have k1 := (hR.cell (p := ⟨b, z * 2 + 1, none⟩) HY.out.1 (by simp)).trans HY.out.2.2
            go_simp
            exact hK.out _ _ ⟨_, rfl, Only.refl _ _, rfl⟩
          · intro vals wr hR hp K hK
            dsimp only at hK ⊢
            clear hp
            unfold RunsOp
            go_simp
            exact hK.out _ _ ⟨_, rfl, Only.refl _ _, rfl⟩
          · intro vals wr hR hp K hK
            dsimp only at hK ⊢
            clear hp
            unfold RunsOp
            go_simp
            exact hK.out _ _ ⟨_, rfl, Only.refl _ _, rfl⟩
          · intro vals wr hR hp K hK
            dsimp only at hK ⊢
            obtain ⟨p7, p8, -⟩ := hp
            replace p7 := p7 rfl
            replace p8 := p8 rfl
            dsimp only at p7 p8
            rw [p7, p8] at hK ⊢
            clear p7 p8
            unfold RunsOp
            have hz0 := HZ.out
            have i1 : (0 : Int) ≤ ((c : Nat) : Int) := by omega
            have i4 : (c : Int) ≤ (mid : Int) + (m : Int) - 1 := by omega
            have i2 : ((c : Nat) : Int) < (n : Int) := by omega
            have i3 : (((c : Nat) : Int)).toNat = c := by omega
            clear hz0
            go_simp
            exact hK.out _ _ ⟨_, rfl, Only.refl _ _, rfl⟩
          · intro vals wr hR hp K hK
            dsimp only at hK ⊢
            obtain ⟨p9, -⟩ := hp
            replace p9 := p9 rfl
            dsimp only at p9
            rw [p9] at hK ⊢
            clear p9
            unfold RunsOp
            have k0 := (hR.cell (p := ⟨b, c * 2, none⟩) HX.out.1 (by simp)).trans HX.out.2.1
            have k1 := (hR.cell (p := ⟨b, c * 2 + 1, none⟩) HX.out.1 (by simp)).trans HX.out.2.2
            go_simp
            exact hK.out _ _ ⟨_, rfl, Only.refl _ _, rfl⟩
          · intro vals wr hR hp K hK
            dsimp only at hK ⊢
            obtain ⟨p0, p6, p10, -⟩ := hp
            replace p0 := p0 rfl
            replace p6 := p6 rfl
            replace p10 := p10 rfl
            dsimp only at p0 p6 p10
            rw [p0, p6, p10] at hK ⊢
            clear p0 p6 p10
            unfold RunsOp
            go_simp
            refine (HCA.out _).mono ?_
            rintro e' w2 ⟨rfl, o2⟩
            exact hK.out _ _ ⟨_, rfl, o2, rfl⟩
          · intro vals wr hR hp K hK
            dsimp only at hK ⊢
            obtain ⟨p11, -⟩ := hp
            replace p11 := p11 rfl
            dsimp only at p11
            rw [p11] at hK ⊢
            clear p11
            unfold RunsOp
            have hlb := HLB.out
            go_simp
            exact hK.out _ _ ⟨_, rfl, Only.refl _ _, rfl⟩
          · intro vals wr hR hp K hK
            dsimp only at hK ⊢
            obtain ⟨p12, -⟩ := hp
            replace p12 := p12 rfl
            dsimp only at p12
            rw [p12] at hK ⊢
            clear p12
            unfold RunsOp
            go_simp
            exact hK.out _ _ ⟨_, rfl, Only.refl _ _, rfl⟩
        case doneg2 =>
          intro vals wd hR hF
          have f0 : vals 0 = .func (.func 22) #[] #[] := hF 0 (by decide)
          have f1 : vals 1 = .slice (some ⟨b, 0, none⟩) n cap := hF 1 (by decide)
          have f2 : vals 2 = .int .i64 ((mid : Int) + (m : Int) - 1) := hF 2 (by decide)
          have f3 : vals 3 = .int .i64 (c : Nat) := hF 3 (by decide)
          have f4 : vals 4 = .int .i64 ((mid : Int) + (m : Int) - 1 - (c : Int)) := hF 4 (by decide)
          have f5 : vals 5 = .pointer (some ⟨b, z * 2, none⟩) := hF 5 (by decide)
          have f6 : vals 6 = .agg #[.int .i64 y.1, .int .i64 y.2] := hF 6 (by decide)
          have f7 : vals 7 = .slice (some ⟨b, 0, none⟩) n cap := hF 7 (by decide)
          have f8 : vals 8 = .int .i64 (c : Nat) := hF 8 (by decide)
          have f9 : vals 9 = .pointer (some ⟨b, c * 2, none⟩) := hF 9 (by decide)
          have f10 : vals 10 = .agg #[.int .i64 x.1, .int .i64 x.2] := hF 10 (by decide)
          have f11 : (vals 11) = .int .i64 cz := hF 11 (by decide)
          have f12 : vals 12 = .bool lb := hF 12 (by decide)
          have f13 : vals 13 = .bool (!lb) := hF 13 (by decide)
          rw [f0, f1, f2, f3, f4, f5, f6, f7, f8, f9, f10, f12, f13]
          clear f0 f1 f2 f3 f4 f5 f6 f7 f8 f9 f10 f12 f13
          rw [f11]
          clear f11
          have HOd := Lib.hid ((Only.refl [] wq).drew.trans hR (by simp))
          clear hR hF
          cases lb with
          | false =>
            have HL2 := Lib.hid (show ∀ c', a ≤ c' → c' < c + 1 → ∀ x y, A[c' - a]? = some x → N[mid - 1 - c']? = some y → keyJ x ≤ keyJ y from fun c' h1 h2 x' y' hx' hy' => by
              have k1 := at_mono HSA.out (by omega) hx' HMX.out
              have k2 := at_mono HSN.out (by omega) HMY.out hy'
              have k3 := of_decide_eq_false HLB2.out
              omega)
            gi_wp2_with (fail)
            go_wp2_with (fail)
            go_roundw
            case rel => exact ⟨c + 1, hi, by go_num, rfl, by omega, by omega, hhr, HL2, HHI, Lib.hid (ownsRow_only HOd.out HOQ.out (by simp)), Lib.hid (HO.out.trans HOd.out (by simp))⟩
            case measure => simp [intOf]; omega
          | true =>
            have HL2 := Lib.hid (show ∀ c', c ≤ c' → c' < m → ∀ x y, A[c' - a]? = some x → N[mid - 1 - c']? = some y → keyJ y < keyJ x from fun c' h1 h2 x' y' hx' hy' => by
              have k1 := at_mono HSA.out (by omega) HMX.out hx'
              have k2 := at_mono HSN.out (by omega) hy' HMY.out
              have k3 := of_decide_eq_true HLB2.out
              omega)
            gi_wp2_with (fail)
            go_wp2_with (fail)
            go_roundw
            case rel => exact ⟨lo, c, rfl, rfl, hsl, hh1, by omega, HLO, HL2, Lib.hid (ownsRow_only HOd.out HOQ.out (by simp)), Lib.hid (HO.out.trans HOd.out (by simp))⟩
            case measure => simp [intOf]; omega
      · obtain rfl : lo = hi := by omega
        obtain ⟨A1, A2, N1, N2, rfl, rfl, l1, l2, hmer, q1, q2, q3, q4⟩ := halves HSA.out HSN.out HM.out HBM.out hsl hhr (by omega) (by omega) hs1 hs3 (.inl rfl) (.inr rfl) HLO.out HHI.out
        obtain ⟨en, hen⟩ : ∃ en : Nat, mid + m = en + lo := ⟨mid + m - lo, by omega⟩
        have he : (mid : Int) + (m : Int) - (lo : Int) = (en : Int) := by omega
        have hal : a ≤ lo := by omega
        have hlm : lo ≤ m := by omega
        have hld : lo ≤ mid := by omega
        have l3 : lo + A2.length = m := by have := HM.out; simp at this; omega
        have l4 : en + N2.length = bb := by have := HBM.out; simp at this; omega
        have hme : m + N1.length = en := by omega
        have HS1 := Lib.hid (show ∀ W : World, W.ownsRow B 49 2 (.slice (some ⟨b, 0, none⟩) n cap) n (flat2 (P ++ ((A1 ++ A2) ++ ((N1 ++ N2) ++ S)))) → lo < m → lo < mid → Calls Try.prog 57 #[.slice (some ⟨b, 0, none⟩) n cap, .int .i64 (lo : Nat), .int .i64 (m : Nat), .int .i64 (en : Nat), .func (.func 22) #[] #[]] W fun e w' => e = .returned (.tuple #[]) ∧ w'.ownsRow B 49 2 (.slice (some ⟨b, 0, none⟩) n cap) n (flat2 (P ++ (A1 ++ (N1 ++ (A2 ++ (N2 ++ S)))))) ∧ Only [b] W w' from fun W hW g1 g2 => by
          have hpa := HPA.out
          have hl := HLEN.out
          have e1 : P ++ ((A1 ++ A2) ++ ((N1 ++ N2) ++ S)) = (P ++ A1) ++ (A2 ++ (N1 ++ (N2 ++ S))) := by simp only [List.append_assoc]
          have e2 : P ++ (A1 ++ (N1 ++ (A2 ++ (N2 ++ S)))) = (P ++ A1) ++ (N1 ++ (A2 ++ (N2 ++ S))) := by simp only [List.append_assoc]
          rw [e1] at hW hl
          rw [e2]
          exact rotJ (P ++ A1) A2 N1 (N2 ++ S) _ (by omega) (by omega) hl hn hW (by rw [List.length_append]; omega) (by rw [List.length_append]; omega) (by rw [List.length_append]; omega))
        have HE1 := Lib.hid (show ¬(lo < m ∧ lo < mid) → P ++ ((A1 ++ A2) ++ ((N1 ++ N2) ++ S)) = P ++ (A1 ++ (N1 ++ (A2 ++ (N2 ++ S)))) from fun h => by
          by_cases hp : lo < m
          · have h0 : N1 = [] := List.length_eq_zero_iff.1 (by omega)
            rw [h0]
            simp only [List.append_assoc, List.nil_append]
          · have h0 : A2 = [] := List.length_eq_zero_iff.1 (by omega)
            rw [h0]
            simp only [List.append_assoc, List.nil_append])
        have HL1 := Lib.hid (show (P ++ (A1 ++ (N1 ++ (A2 ++ (N2 ++ S))))).length = n by
          rw [← HLEN.out]
          simp only [List.length_append]
          omega)
        have HS2 := Lib.hid (show ∀ W : World, W.ownsRow B 49 2 (.slice (some ⟨b, 0, none⟩) n cap) n (flat2 (P ++ (A1 ++ (N1 ++ (A2 ++ (N2 ++ S)))))) → a < lo → lo < mid → Calls Try.prog 54 #[.slice (some ⟨b, 0, none⟩) n cap, .int .i64 (a : Nat), .int .i64 (lo : Nat), .int .i64 (mid : Nat), .func (.func 22) #[] #[]] W fun e w' => e = .returned (.tuple #[]) ∧ w'.ownsRow B 49 2 (.slice (some ⟨b, 0, none⟩) n cap) n (flat2 (P ++ (st keyJ (A1 ++ N1) ++ (A2 ++ (N2 ++ S))))) ∧ Only [b] W w' from fun W hW g1 g2 => HIH.out P A1 N1 (A2 ++ (N2 ++ S)) W B b cap a lo mid (by simp only [List.length_append]; omega) q1 q3 (by omega) (by omega) HL1.out hW HPA.out (by omega) (by omega))
        have HE2 := Lib.hid (show ¬(a < lo ∧ lo < mid) → P ++ (A1 ++ (N1 ++ (A2 ++ (N2 ++ S)))) = P ++ (st keyJ (A1 ++ N1) ++ (A2 ++ (N2 ++ S))) from fun h => by
          have e : st keyJ (A1 ++ N1) = A1 ++ N1 := by
            by_cases hp : a < lo
            · have h0 : N1 = [] := List.length_eq_zero_iff.1 (by omega)
              rw [h0, List.append_nil]
              exact st_self q1
            · have h0 : A1 = [] := List.length_eq_zero_iff.1 (by omega)
              rw [h0, List.nil_append]
              exact st_self q3
          rw [e]
          simp only [List.append_assoc])
        have HS3 := Lib.hid (show ∀ W : World, W.ownsRow B 49 2 (.slice (some ⟨b, 0, none⟩) n cap) n (flat2 (P ++ (st keyJ (A1 ++ N1) ++ (A2 ++ (N2 ++ S))))) → lo < m → en < bb → Calls Try.prog 54 #[.slice (some ⟨b, 0, none⟩) n cap, .int .i64 (mid : Nat), .int .i64 (en : Nat), .int .i64 (bb : Nat), .func (.func 22) #[] #[]] W fun e w' => e = .returned (.tuple #[]) ∧ w'.ownsRow B 49 2 (.slice (some ⟨b, 0, none⟩) n cap) n (flat2 (P ++ (st keyJ (A1 ++ N1) ++ (st keyJ (A2 ++ N2) ++ S)))) ∧ Only [b] W w' from fun W hW g1 g2 => by
          have e1 : P ++ (st keyJ (A1 ++ N1) ++ (A2 ++ (N2 ++ S))) = (P ++ st keyJ (A1 ++ N1)) ++ (A2 ++ (N2 ++ S)) := by simp only [List.append_assoc]
          have e2 : P ++ (st keyJ (A1 ++ N1) ++ (st keyJ (A2 ++ N2) ++ S)) = (P ++ st keyJ (A1 ++ N1)) ++ (st keyJ (A2 ++ N2) ++ S) := by simp only [List.append_assoc]
          have hl := HL1.out
          have hpa := HPA.out
          rw [e1] at hW
          rw [e2]
          exact HIH.out (P ++ st keyJ (A1 ++ N1)) A2 N2 S W B b cap mid en bb (by simp only [List.length_append]; omega) q2 q4 (by omega) (by omega) (by rw [← hl]; simp only [List.length_append, st_len]; omega) hW (by rw [List.length_append, st_len, List.length_append]; omega) (by omega) (by omega))
        have HE3 := Lib.hid (show ¬(lo < m ∧ en < bb) → P ++ (st keyJ (A1 ++ N1) ++ (A2 ++ (N2 ++ S))) = P ++ (st keyJ (A1 ++ N1) ++ (st keyJ (A2 ++ N2) ++ S)) from fun h => by
          have e : st keyJ (A2 ++ N2) = A2 ++ N2 := by
            by_cases hp : lo < m
            · have h0 : N2 = [] := List.length_eq_zero_iff.1 (by omega)
              rw [h0, List.append_nil]
              exact st_self q2
            · have h0 : A2 = [] := List.length_eq_zero_iff.1 (by omega)
              rw [h0, List.nil_append]
              exact st_self q4
          rw [e]
          simp only [List.append_assoc])
        have HE4 := Lib.hid (show P ++ (st keyJ (A1 ++ N1) ++ (st keyJ (A2 ++ N2) ++ S)) = P ++ (st keyJ ((A1 ++ A2) ++ (N1 ++ N2)) ++ S) by
          rw [← hmer]
          simp only [List.append_assoc])
        have hdn : mid ≤ n := by omega
        have hen2 : en ≤ n := by omega
        have HX1 := Lib.hid (show m < en ↔ lo < mid by omega)
        have HX2 := Lib.hid (show mid < en ↔ lo < m by omega)
        clear HLO HHI hsl hlh hhr hlt l1 l2 l3 l4 hmer q1 q2 q3 q4 hen hme
        by_cases hp : lo < m
        · by_cases hq : lo < mid
          · by_cases hr : a < lo
            · by_cases ht : en < bb
              · first
                | (exfalso; omega)
                | have d1 : decide ((lo : Int) < (m : Int)) = true := decide_eq_true (by have := HX1.out; have := HX2.out; omega)
                  have d2 : decide ((m : Int) < (en : Int)) = true := decide_eq_true (by have := HX1.out; have := HX2.out; omega)
                  have d3 : decide ((a : Int) < (lo : Int)) = true := decide_eq_true (by have := HX1.out; have := HX2.out; omega)
                  have d4 : decide ((lo : Int) < (mid : Int)) = true := decide_eq_true (by have := HX1.out; have := HX2.out; omega)
                  have d5 : decide ((mid : Int) < (en : Int)) = true := decide_eq_true (by have := HX1.out; have := HX2.out; omega)
                  have d6 : decide ((en : Int) < (bb : Int)) = true := decide_eq_true (by have := HX1.out; have := HX2.out; omega)
                  go_wp2_with (fail)
                  refine (HS1.out _ HOQ.out hp hq).mono ?_
                  rintro e1 w1 ⟨rfl, hw1, o1⟩
                  have HQ1 := Lib.hid hw1
                  have HO1 := Lib.hid (HO.out.trans o1 (by simp))
                  clear hw1 o1
                  go_wp2_with (fail)
                  refine (HS2.out _ HQ1.out hr hq).mono ?_
                  rintro e2 w2 ⟨rfl, hw2, o2⟩
                  have HQ2 := Lib.hid hw2
                  have HO2 := Lib.hid (HO1.out.trans o2 (by simp))
                  clear hw2 o2
                  go_wp2_with (fail)
                  refine (HS3.out _ HQ2.out hp ht).mono ?_
                  rintro e3 w3 ⟨rfl, hw3, o3⟩
                  have HQ3 := Lib.hid hw3
                  have HO3 := Lib.hid (HO2.out.trans o3 (by simp))
                  clear hw3 o3
                  rw [HE4.out] at HQ3
                  go_wp2_with (fail)
                  go_end0
                  exact ⟨rfl, HQ3.out, HO3.out⟩
              · first
                | (exfalso; omega)
                | have d1 : decide ((lo : Int) < (m : Int)) = true := decide_eq_true (by have := HX1.out; have := HX2.out; omega)
                  have d2 : decide ((m : Int) < (en : Int)) = true := decide_eq_true (by have := HX1.out; have := HX2.out; omega)
                  have d3 : decide ((a : Int) < (lo : Int)) = true := decide_eq_true (by have := HX1.out; have := HX2.out; omega)
                  have d4 : decide ((lo : Int) < (mid : Int)) = true := decide_eq_true (by have := HX1.out; have := HX2.out; omega)
                  have d5 : decide ((mid : Int) < (en : Int)) = true := decide_eq_true (by have := HX1.out; have := HX2.out; omega)
                  have d6 : decide ((en : Int) < (bb : Int)) = false := decide_eq_false (by have := HX1.out; have := HX2.out; omega)
                  go_wp2_with (fail)
                  refine (HS1.out _ HOQ.out hp hq).mono ?_
                  rintro e1 w1 ⟨rfl, hw1, o1⟩
                  have HQ1 := Lib.hid hw1
                  have HO1 := Lib.hid (HO.out.trans o1 (by simp))
                  clear hw1 o1
                  go_wp2_with (fail)
                  refine (HS2.out _ HQ1.out hr hq).mono ?_
                  rintro e2 w2 ⟨rfl, hw2, o2⟩
                  have HQ2 := Lib.hid hw2
                  have HO2 := Lib.hid (HO1.out.trans o2 (by simp))
                  clear hw2 o2
                  have HQ3 := Lib.hid (HQ2.out)
                  rw [HE3.out (fun h => by omega)] at HQ3
                  rw [HE4.out] at HQ3
                  go_wp2_with (fail)
                  go_end0
                  exact ⟨rfl, HQ3.out, HO2.out⟩
            · by_cases ht : en < bb
              · first
                | (exfalso; omega)
                | have d1 : decide ((lo : Int) < (m : Int)) = true := decide_eq_true (by have := HX1.out; have := HX2.out; omega)
                  have d2 : decide ((m : Int) < (en : Int)) = true := decide_eq_true (by have := HX1.out; have := HX2.out; omega)
                  have d3 : decide ((a : Int) < (lo : Int)) = false := decide_eq_false (by have := HX1.out; have := HX2.out; omega)
                  have d4 : decide ((lo : Int) < (mid : Int)) = true := decide_eq_true (by have := HX1.out; have := HX2.out; omega)
                  have d5 : decide ((mid : Int) < (en : Int)) = true := decide_eq_true (by have := HX1.out; have := HX2.out; omega)
                  have d6 : decide ((en : Int) < (bb : Int)) = true := decide_eq_true (by have := HX1.out; have := HX2.out; omega)
                  go_wp2_with (fail)
                  refine (HS1.out _ HOQ.out hp hq).mono ?_
                  rintro e1 w1 ⟨rfl, hw1, o1⟩
                  have HQ1 := Lib.hid hw1
                  have HO1 := Lib.hid (HO.out.trans o1 (by simp))
                  clear hw1 o1
                  have HQ2 := Lib.hid (HQ1.out)
                  rw [HE2.out (fun h => by omega)] at HQ2
                  go_wp2_with (fail)
                  refine (HS3.out _ HQ2.out hp ht).mono ?_
                  rintro e3 w3 ⟨rfl, hw3, o3⟩
                  have HQ3 := Lib.hid hw3
                  have HO3 := Lib.hid (HO1.out.trans o3 (by simp))
                  clear hw3 o3
                  rw [HE4.out] at HQ3
                  go_wp2_with (fail)
                  go_end0
                  exact ⟨rfl, HQ3.out, HO3.out⟩
              · first
                | (exfalso; omega)
                | have d1 : decide ((lo : Int) < (m : Int)) = true := decide_eq_true (by have := HX1.out; have := HX2.out; omega)
                  have d2 : decide ((m : Int) < (en : Int)) = true := decide_eq_true (by have := HX1.out; have := HX2.out; omega)
                  have d3 : decide ((a : Int) < (lo : Int)) = false := decide_eq_false (by have := HX1.out; have := HX2.out; omega)
                  have d4 : decide ((lo : Int) < (mid : Int)) = true := decide_eq_true (by have := HX1.out; have := HX2.out; omega)
                  have d5 : decide ((mid : Int) < (en : Int)) = true := decide_eq_true (by have := HX1.out; have := HX2.out; omega)
                  have d6 : decide ((en : Int) < (bb : Int)) = false := decide_eq_false (by have := HX1.out; have := HX2.out; omega)
                  go_wp2_with (fail)
                  refine (HS1.out _ HOQ.out hp hq).mono ?_
                  rintro e1 w1 ⟨rfl, hw1, o1⟩
                  have HQ1 := Lib.hid hw1
                  have HO1 := Lib.hid (HO.out.trans o1 (by simp))
                  clear hw1 o1
                  have HQ2 := Lib.hid (HQ1.out)
                  rw [HE2.out (fun h => by omega)] at HQ2
                  have HQ3 := Lib.hid (HQ2.out)
                  rw [HE3.out (fun h => by omega)] at HQ3
                  rw [HE4.out] at HQ3
                  go_wp2_with (fail)
                  go_end0
                  exact ⟨rfl, HQ3.out, HO1.out⟩
          · by_cases hr : a < lo
            · by_cases ht : en < bb
              · first
                | (exfalso; omega)
                | have d1 : decide ((lo : Int) < (m : Int)) = true := decide_eq_true (by have := HX1.out; have := HX2.out; omega)
                  have d2 : decide ((m : Int) < (en : Int)) = false := decide_eq_false (by have := HX1.out; have := HX2.out; omega)
                  have d3 : decide ((a : Int) < (lo : Int)) = true := decide_eq_true (by have := HX1.out; have := HX2.out; omega)
                  have d4 : decide ((lo : Int) < (mid : Int)) = false := decide_eq_false (by have := HX1.out; have := HX2.out; omega)
                  have d5 : decide ((mid : Int) < (en : Int)) = true := decide_eq_true (by have := HX1.out; have := HX2.out; omega)
                  have d6 : decide ((en : Int) < (bb : Int)) = true := decide_eq_true (by have := HX1.out; have := HX2.out; omega)
                  have HQ1 := Lib.hid (HOQ.out)
                  rw [HE1.out (fun h => by omega)] at HQ1
                  have HQ2 := Lib.hid (HQ1.out)
                  rw [HE2.out (fun h => by omega)] at HQ2
                  go_wp2_with (fail)
                  refine (HS3.out _ HQ2.out hp ht).mono ?_
                  rintro e3 w3 ⟨rfl, hw3, o3⟩
                  have HQ3 := Lib.hid hw3
                  have HO3 := Lib.hid (HO.out.trans o3 (by simp))
                  clear hw3 o3
                  rw [HE4.out] at HQ3
                  go_wp2_with (fail)
                  go_end0
                  exact ⟨rfl, HQ3.out, HO3.out⟩
              · first
                | (exfalso; omega)
                | have d1 : decide ((lo : Int) < (m : Int)) = true := decide_eq_true (by have := HX1.out; have := HX2.out; omega)
                  have d2 : decide ((m : Int) < (en : Int)) = false := decide_eq_false (by have := HX1.out; have := HX2.out; omega)
                  have d3 : decide ((a : Int) < (lo : Int)) = true := decide_eq_true (by have := HX1.out; have := HX2.out; omega)
                  have d4 : decide ((lo : Int) < (mid : Int)) = false := decide_eq_false (by have := HX1.out; have := HX2.out; omega)
                  have d5 : decide ((mid : Int) < (en : Int)) = true := decide_eq_true (by have := HX1.out; have := HX2.out; omega)
                  have d6 : decide ((en : Int) < (bb : Int)) = false := decide_eq_false (by have := HX1.out; have := HX2.out; omega)
                  have HQ1 := Lib.hid (HOQ.out)
                  rw [HE1.out (fun h => by omega)] at HQ1
                  have HQ2 := Lib.hid (HQ1.out)
                  rw [HE2.out (fun h => by omega)] at HQ2
                  have HQ3 := Lib.hid (HQ2.out)
                  rw [HE3.out (fun h => by omega)] at HQ3
                  rw [HE4.out] at HQ3
                  go_wp2_with (fail)
                  go_end0
                  exact ⟨rfl, HQ3.out, HO.out⟩
            · by_cases ht : en < bb
              · first
                | (exfalso; omega)
                | have d1 : decide ((lo : Int) < (m : Int)) = true := decide_eq_true (by have := HX1.out; have := HX2.out; omega)
                  have d2 : decide ((m : Int) < (en : Int)) = false := decide_eq_false (by have := HX1.out; have := HX2.out; omega)
                  have d3 : decide ((a : Int) < (lo : Int)) = false := decide_eq_false (by have := HX1.out; have := HX2.out; omega)
                  have d4 : decide ((lo : Int) < (mid : Int)) = false := decide_eq_false (by have := HX1.out; have := HX2.out; omega)
                  have d5 : decide ((mid : Int) < (en : Int)) = true := decide_eq_true (by have := HX1.out; have := HX2.out; omega)
                  have d6 : decide ((en : Int) < (bb : Int)) = true := decide_eq_true (by have := HX1.out; have := HX2.out; omega)
                  have HQ1 := Lib.hid (HOQ.out)
                  rw [HE1.out (fun h => by omega)] at HQ1
                  have HQ2 := Lib.hid (HQ1.out)
                  rw [HE2.out (fun h => by omega)] at HQ2
                  go_wp2_with (fail)
                  refine (HS3.out _ HQ2.out hp ht).mono ?_
                  rintro e3 w3 ⟨rfl, hw3, o3⟩
                  have HQ3 := Lib.hid hw3
                  have HO3 := Lib.hid (HO.out.trans o3 (by simp))
                  clear hw3 o3
                  rw [HE4.out] at HQ3
                  go_wp2_with (fail)
                  go_end0
                  exact ⟨rfl, HQ3.out, HO3.out⟩
              · first
                | (exfalso; omega)
                | have d1 : decide ((lo : Int) < (m : Int)) = true := decide_eq_true (by have := HX1.out; have := HX2.out; omega)
                  have d2 : decide ((m : Int) < (en : Int)) = false := decide_eq_false (by have := HX1.out; have := HX2.out; omega)
                  have d3 : decide ((a : Int) < (lo : Int)) = false := decide_eq_false (by have := HX1.out; have := HX2.out; omega)
                  have d4 : decide ((lo : Int) < (mid : Int)) = false := decide_eq_false (by have := HX1.out; have := HX2.out; omega)
                  have d5 : decide ((mid : Int) < (en : Int)) = true := decide_eq_true (by have := HX1.out; have := HX2.out; omega)
                  have d6 : decide ((en : Int) < (bb : Int)) = false := decide_eq_false (by have := HX1.out; have := HX2.out; omega)
                  have HQ1 := Lib.hid (HOQ.out)
                  rw [HE1.out (fun h => by omega)] at HQ1
                  have HQ2 := Lib.hid (HQ1.out)
                  rw [HE2.out (fun h => by omega)] at HQ2
                  have HQ3 := Lib.hid (HQ2.out)
                  rw [HE3.out (fun h => by omega)] at HQ3
                  rw [HE4.out] at HQ3
                  go_wp2_with (fail)
                  go_end0
                  exact ⟨rfl, HQ3.out, HO.out⟩
        · by_cases hq : lo < mid
          · by_cases hr : a < lo
            · by_cases ht : en < bb
              · first
                | (exfalso; omega)
                | have d1 : decide ((lo : Int) < (m : Int)) = false := decide_eq_false (by have := HX1.out; have := HX2.out; omega)
                  have d2 : decide ((m : Int) < (en : Int)) = true := decide_eq_true (by have := HX1.out; have := HX2.out; omega)
                  have d3 : decide ((a : Int) < (lo : Int)) = true := decide_eq_true (by have := HX1.out; have := HX2.out; omega)
                  have d4 : decide ((lo : Int) < (mid : Int)) = true := decide_eq_true (by have := HX1.out; have := HX2.out; omega)
                  have d5 : decide ((mid : Int) < (en : Int)) = false := decide_eq_false (by have := HX1.out; have := HX2.out; omega)
                  have d6 : decide ((en : Int) < (bb : Int)) = true := decide_eq_true (by have := HX1.out; have := HX2.out; omega)
                  have HQ1 := Lib.hid (HOQ.out)
                  rw [HE1.out (fun h => by omega)] at HQ1
                  go_wp2_with (fail)
                  refine (HS2.out _ HQ1.out hr hq).mono ?_
                  rintro e2 w2 ⟨rfl, hw2, o2⟩
                  have HQ2 := Lib.hid hw2
                  have HO2 := Lib.hid (HO.out.trans o2 (by simp))
                  clear hw2 o2
                  have HQ3 := Lib.hid (HQ2.out)
                  rw [HE3.out (fun h => by omega)] at HQ3
                  rw [HE4.out] at HQ3
                  go_wp2_with (fail)
                  go_end0
                  exact ⟨rfl, HQ3.out, HO2.out⟩
              · first
                | (exfalso; omega)
                | have d1 : decide ((lo : Int) < (m : Int)) = false := decide_eq_false (by have := HX1.out; have := HX2.out; omega)
                  have d2 : decide ((m : Int) < (en : Int)) = true := decide_eq_true (by have := HX1.out; have := HX2.out; omega)
                  have d3 : decide ((a : Int) < (lo : Int)) = true := decide_eq_true (by have := HX1.out; have := HX2.out; omega)
                  have d4 : decide ((lo : Int) < (mid : Int)) = true := decide_eq_true (by have := HX1.out; have := HX2.out; omega)
                  have d5 : decide ((mid : Int) < (en : Int)) = false := decide_eq_false (by have := HX1.out; have := HX2.out; omega)
                  have d6 : decide ((en : Int) < (bb : Int)) = false := decide_eq_false (by have := HX1.out; have := HX2.out; omega)
                  have HQ1 := Lib.hid (HOQ.out)
                  rw [HE1.out (fun h => by omega)] at HQ1
                  go_wp2_with (fail)
                  refine (HS2.out _ HQ1.out hr hq).mono ?_
                  rintro e2 w2 ⟨rfl, hw2, o2⟩
                  have HQ2 := Lib.hid hw2
                  have HO2 := Lib.hid (HO.out.trans o2 (by simp))
                  clear hw2 o2
                  have HQ3 := Lib.hid (HQ2.out)
                  rw [HE3.out (fun h => by omega)] at HQ3
                  rw [HE4.out] at HQ3
                  go_wp2_with (fail)
                  go_end0
                  exact ⟨rfl, HQ3.out, HO2.out⟩
            · by_cases ht : en < bb
              · first
                | (exfalso; omega)
                | have d1 : decide ((lo : Int) < (m : Int)) = false := decide_eq_false (by have := HX1.out; have := HX2.out; omega)
                  have d2 : decide ((m : Int) < (en : Int)) = true := decide_eq_true (by have := HX1.out; have := HX2.out; omega)
                  have d3 : decide ((a : Int) < (lo : Int)) = false := decide_eq_false (by have := HX1.out; have := HX2.out; omega)
                  have d4 : decide ((lo : Int) < (mid : Int)) = true := decide_eq_true (by have := HX1.out; have := HX2.out; omega)
                  have d5 : decide ((mid : Int) < (en : Int)) = false := decide_eq_false (by have := HX1.out; have := HX2.out; omega)
                  have d6 : decide ((en : Int) < (bb : Int)) = true := decide_eq_true (by have := HX1.out; have := HX2.out; omega)
                  have HQ1 := Lib.hid (HOQ.out)
                  rw [HE1.out (fun h => by omega)] at HQ1
                  have HQ2 := Lib.hid (HQ1.out)
                  rw [HE2.out (fun h => by omega)] at HQ2
                  have HQ3 := Lib.hid (HQ2.out)
                  rw [HE3.out (fun h => by omega)] at HQ3
                  rw [HE4.out] at HQ3
                  go_wp2_with (fail)
                  go_end0
                  exact ⟨rfl, HQ3.out, HO.out⟩
              · first
                | (exfalso; omega)
                | have d1 : decide ((lo : Int) < (m : Int)) = false := decide_eq_false (by have := HX1.out; have := HX2.out; omega)
                  have d2 : decide ((m : Int) < (en : Int)) = true := decide_eq_true (by have := HX1.out; have := HX2.out; omega)
                  have d3 : decide ((a : Int) < (lo : Int)) = false := decide_eq_false (by have := HX1.out; have := HX2.out; omega)
                  have d4 : decide ((lo : Int) < (mid : Int)) = true := decide_eq_true (by have := HX1.out; have := HX2.out; omega)
                  have d5 : decide ((mid : Int) < (en : Int)) = false := decide_eq_false (by have := HX1.out; have := HX2.out; omega)
                  have d6 : decide ((en : Int) < (bb : Int)) = false := decide_eq_false (by have := HX1.out; have := HX2.out; omega)
                  have HQ1 := Lib.hid (HOQ.out)
                  rw [HE1.out (fun h => by omega)] at HQ1
                  have HQ2 := Lib.hid (HQ1.out)
                  rw [HE2.out (fun h => by omega)] at HQ2
                  have HQ3 := Lib.hid (HQ2.out)
                  rw [HE3.out (fun h => by omega)] at HQ3
                  rw [HE4.out] at HQ3
                  go_wp2_with (fail)
                  go_end0
                  exact ⟨rfl, HQ3.out, HO.out⟩
          · by_cases hr : a < lo
            · by_cases ht : en < bb
              · first
                | (exfalso; omega)
                | have d1 : decide ((lo : Int) < (m : Int)) = false := decide_eq_false (by have := HX1.out; have := HX2.out; omega)
                  have d2 : decide ((m : Int) < (en : Int)) = false := decide_eq_false (by have := HX1.out; have := HX2.out; omega)
                  have d3 : decide ((a : Int) < (lo : Int)) = true := decide_eq_true (by have := HX1.out; have := HX2.out; omega)
                  have d4 : decide ((lo : Int) < (mid : Int)) = false := decide_eq_false (by have := HX1.out; have := HX2.out; omega)
                  have d5 : decide ((mid : Int) < (en : Int)) = false := decide_eq_false (by have := HX1.out; have := HX2.out; omega)
                  have d6 : decide ((en : Int) < (bb : Int)) = true := decide_eq_true (by have := HX1.out; have := HX2.out; omega)
                  have HQ1 := Lib.hid (HOQ.out)
                  rw [HE1.out (fun h => by omega)] at HQ1
                  have HQ2 := Lib.hid (HQ1.out)
                  rw [HE2.out (fun h => by omega)] at HQ2
                  have HQ3 := Lib.hid (HQ2.out)
                  rw [HE3.out (fun h => by omega)] at HQ3
                  rw [HE4.out] at HQ3
                  go_wp2_with (fail)
                  go_end0
                  exact ⟨rfl, HQ3.out, HO.out⟩
              · first
                | (exfalso; omega)
                | have d1 : decide ((lo : Int) < (m : Int)) = false := decide_eq_false (by have := HX1.out; have := HX2.out; omega)
                  have d2 : decide ((m : Int) < (en : Int)) = false := decide_eq_false (by have := HX1.out; have := HX2.out; omega)
                  have d3 : decide ((a : Int) < (lo : Int)) = true := decide_eq_true (by have := HX1.out; have := HX2.out; omega)
                  have d4 : decide ((lo : Int) < (mid : Int)) = false := decide_eq_false (by have := HX1.out; have := HX2.out; omega)
                  have d5 : decide ((mid : Int) < (en : Int)) = false := decide_eq_false (by have := HX1.out; have := HX2.out; omega)
                  have d6 : decide ((en : Int) < (bb : Int)) = false := decide_eq_false (by have := HX1.out; have := HX2.out; omega)
                  have HQ1 := Lib.hid (HOQ.out)
                  rw [HE1.out (fun h => by omega)] at HQ1
                  have HQ2 := Lib.hid (HQ1.out)
                  rw [HE2.out (fun h => by omega)] at HQ2
                  have HQ3 := Lib.hid (HQ2.out)
                  rw [HE3.out (fun h => by omega)] at HQ3
                  rw [HE4.out] at HQ3
                  go_wp2_with (fail)
                  go_end0
                  exact ⟨rfl, HQ3.out, HO.out⟩
            · by_cases ht : en < bb
              · first
                | (exfalso; omega)
                | have d1 : decide ((lo : Int) < (m : Int)) = false := decide_eq_false (by have := HX1.out; have := HX2.out; omega)
                  have d2 : decide ((m : Int) < (en : Int)) = false := decide_eq_false (by have := HX1.out; have := HX2.out; omega)
                  have d3 : decide ((a : Int) < (lo : Int)) = false := decide_eq_false (by have := HX1.out; have := HX2.out; omega)
                  have d4 : decide ((lo : Int) < (mid : Int)) = false := decide_eq_false (by have := HX1.out; have := HX2.out; omega)
                  have d5 : decide ((mid : Int) < (en : Int)) = false := decide_eq_false (by have := HX1.out; have := HX2.out; omega)
                  have d6 : decide ((en : Int) < (bb : Int)) = true := decide_eq_true (by have := HX1.out; have := HX2.out; omega)
                  have HQ1 := Lib.hid (HOQ.out)
                  rw [HE1.out (fun h => by omega)] at HQ1
                  have HQ2 := Lib.hid (HQ1.out)
                  rw [HE2.out (fun h => by omega)] at HQ2
                  have HQ3 := Lib.hid (HQ2.out)
                  rw [HE3.out (fun h => by omega)] at HQ3
                  rw [HE4.out] at HQ3
                  go_wp2_with (fail)
                  go_end0
                  exact ⟨rfl, HQ3.out, HO.out⟩
              · first
                | (exfalso; omega)
                | have d1 : decide ((lo : Int) < (m : Int)) = false := decide_eq_false (by have := HX1.out; have := HX2.out; omega)
                  have d2 : decide ((m : Int) < (en : Int)) = false := decide_eq_false (by have := HX1.out; have := HX2.out; omega)
                  have d3 : decide ((a : Int) < (lo : Int)) = false := decide_eq_false (by have := HX1.out; have := HX2.out; omega)
                  have d4 : decide ((lo : Int) < (mid : Int)) = false := decide_eq_false (by have := HX1.out; have := HX2.out; omega)
                  have d5 : decide ((mid : Int) < (en : Int)) = false := decide_eq_false (by have := HX1.out; have := HX2.out; omega)
                  have d6 : decide ((en : Int) < (bb : Int)) = false := decide_eq_false (by have := HX1.out; have := HX2.out; omega)
                  have HQ1 := Lib.hid (HOQ.out)
                  rw [HE1.out (fun h => by omega)] at HQ1
                  have HQ2 := Lib.hid (HQ1.out)
                  rw [HE2.out (fun h => by omega)] at HQ2
                  have HQ3 := Lib.hid (HQ2.out)
                  rw [HE3.out (fun h => by omega)] at HQ3
                  rw [HE4.out] at HQ3
                  go_wp2_with (fail)
                  go_end0
                  exact ⟨rfl, HQ3.out, HO.out⟩
end Go.Proofs.Ytpedlapemgjgaaa
