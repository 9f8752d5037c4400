/- symMergeCmpFunc, stableCmpFunc, SortStableFunc. -/
import Derived.Test.YtpedlapemgjgaaaSyGI
namespace Go.Proofs.Ytpedlapemgjgaaa
open Go.RowKit Go.Kx Go.Bag
set_option maxRecDepth 100000
section
variable {α : Type} {key : α → Int}
/-- each piece of k entries is sorted -/
def Ch (key : α → Int) (k : Nat) (D : List α) : Prop := ∀ j, Sorted key ((D.drop (j * k)).take k)
theorem ch_nil {k : Nat} : Ch key k [] := fun j => by simp [Sorted]
theorem ch_head {k : Nat} {D : List α} (h : Ch key k D) : Sorted key (D.take k) := by have := h 0; simpa using this
theorem ch_drop {k : Nat} {D : List α} (h : Ch key k D) : Ch key k (D.drop k) := fun j => by
  have := h (j + 1)
  rw [List.drop_drop]
  have e : k + j * k = (j + 1) * k := by rw [Nat.add_mul, Nat.one_mul, Nat.add_comm]
  rw [e]
  exact this
theorem ch_all {k : Nat} {D : List α} (hk : D.length ≤ k) (h : Ch key k D) : Sorted key D := by
  have := ch_head h
  rwa [List.take_of_length_le hk] at this
theorem ch_snoc {k j : Nat} {D W : List α} (hk : 0 < k) (hD : D.length = j * k) (hW : W.length ≤ k) (h : Ch key k D) (hs : Sorted key W) : Ch key k (D ++ W) := fun i => by
  rcases Nat.lt_trichotomy i j with h1 | h1 | h1
  · have e : (i + 1) * k ≤ j * k := Nat.mul_le_mul_right k h1
    have e2 : (i + 1) * k = i * k + k := by rw [Nat.add_mul, Nat.one_mul]
    rw [List.drop_append_of_le_length (by omega), List.take_append_of_le_length (by simp; omega)]
    exact h i
  · subst h1
    rw [List.drop_append, List.drop_of_length_le (by omega), hD, Nat.sub_self, List.nil_append, List.drop_zero, List.take_of_length_le hW]
    exact hs
  · have e : (j + 1) * k ≤ i * k := Nat.mul_le_mul_right k h1
    have e2 : (j + 1) * k = j * k + k := by rw [Nat.add_mul, Nat.one_mul]
    rw [List.drop_of_length_le (by simp; omega)]
    simp [Sorted]
end
theorem mergesI {n : Nat} (hn : n ≤ 1000000) : ∀ sz, MergesI sz n := by
  intro sz
  induction sz using Nat.strongRecOn with
  | ind sz ih =>
    intro P A N S w B b cap a m bb hsz hA hN hA1 hN1 hlen how ha hm hb
    by_cases h1 : A.length = 1
    · obtain ⟨x, rfl⟩ := List.length_eq_one_iff.1 h1
      exact symAI P N S x hN hlen hn how ha hm hb
    · by_cases h2 : N.length = 1
      · obtain ⟨x, rfl⟩ := List.length_eq_one_iff.1 h2
        exact symBI P A S x hA h1 hlen hn how ha hm hb
      · exact symGI P A N S hA hN (by omega) (by omega) hlen hn how ha hm hb (ih _ hsz)
set_option maxHeartbeats 8000000 in
theorem stableI (L : List Int) {w : World} {B b cap n : Nat} (hlen0 : L.length = n) (hn : n ≤ 1000000) (how : w.ownsRow B 3 1 (.slice (some ⟨b, 0, none⟩) n cap) n (flat1 L)) :
    Calls Try.prog 52 #[.slice (some ⟨b, 0, none⟩) n cap, .int .i64 n, .func (.func 11) #[] #[]] w fun e w' => e = .returned (.tuple #[]) ∧ w'.ownsRow B 3 1 (.slice (some ⟨b, 0, none⟩) n cap) n (flat1 (st keyI L)) ∧ Only [b] w w' := by
  have HST := Lib.hid how
  have HL := Lib.hid hlen0
  have HSY := Lib.hid (mergesI hn)
  clear how hlen0
  go_enter Try.func52, Try.ntmps52
  go_wp2_with (fail)
  go_loopw [7, 8] (fun va vb wr => ∃ a bq : Nat, va = .int .i64 (a : Int) ∧ vb = .int .i64 (bq : Int) ∧ a ≤ n ∧ bq ≤ a + 20 ∧ a + 20 ≤ bq ∧ Hid (∃ (X Y : List Int) (j : Nat), X.length = a ∧ a = j * 20 ∧ Ch keyI 20 X ∧ Eqv keyI (X ++ Y) L ∧ (X ++ Y).length = n ∧ wr.ownsRow B 3 1 (.slice (some ⟨b, 0, none⟩) n cap) n (flat1 (X ++ Y))) ∧ Hid (Only [b] w wr)) (fun va _ _ => n - (intOf va).toNat)
  case atStart => exact ⟨0, 20, rfl, rfl, Nat.zero_le _, by omega, by omega, Lib.hid ⟨[], L, 0, rfl, rfl, ch_nil, Eqv.refl _, HL.out, HST.out⟩, Lib.hid (Only.refl _ _)⟩
  case round =>
    obtain ⟨a, bq, rfl, rfl, han, hb1, hb2, HX, HO⟩ := hrel
    by_cases hlt : bq ≤ n
    · obtain ⟨X, Y, j, hxa, haj, hch, heq, hlen, how⟩ := HX.out
      have hyl : Y.length = n - a := by rw [List.length_append] at hlen; omega
      have hc := Lib.hid (insI X (Y.take 20) (Y.drop 20) (a := a) (bb := bq) (by rw [List.take_append_drop]; exact hlen) hn (by rw [List.take_append_drop]; exact how) hxa (by simp; omega))
      have HC := Lib.hid (show Ch keyI 20 (X ++ st keyI (Y.take 20)) from ch_snoc (by omega) (hxa.trans haj) (by rw [st_len]; simp; omega) hch (st_sorted _))
      have HE := Lib.hid (show Eqv keyI ((X ++ st keyI (Y.take 20)) ++ Y.drop 20) L by
        refine Eqv.trans ?_ heq
        have e : X ++ Y = X ++ (Y.take 20 ++ Y.drop 20) := by rw [List.take_append_drop]
        rw [e, List.append_assoc]
        exact (Eqv.refl _).app ((st_eqv _).app (Eqv.refl _)))
      have HLX := Lib.hid (show (X ++ st keyI (Y.take 20)).length = bq by rw [List.length_append, st_len]; simp; omega)
      have HLY := Lib.hid (show ((X ++ st keyI (Y.take 20)) ++ Y.drop 20).length = n by rw [List.length_append, HLX.out]; simp; omega)
      have HJ := Lib.hid (show bq = (j + 1) * 20 by omega)
      clear hxa haj hch heq hlen how hyl HX
      go_wp2_with (fail)
      refine hc.out.mono ?_
      rintro e1 w1 ⟨rfl, hw1, o1⟩
      have HX := Lib.hid (show ∃ (X Y : List Int) (j : Nat), X.length = bq ∧ bq = j * 20 ∧ Ch keyI 20 X ∧ Eqv keyI (X ++ Y) L ∧ (X ++ Y).length = n ∧ w1.ownsRow B 3 1 (.slice (some ⟨b, 0, none⟩) n cap) n (flat1 (X ++ Y)) from ⟨_, _, j + 1, HLX.out, HJ.out, HC.out, HE.out, HLY.out, by rw [List.append_assoc]; exact hw1⟩)
      have HO1 := Lib.hid (HO.out.trans o1 (by simp))
      clear hw1 o1 hc HC HE HLX HLY HJ
      go_wp2_with (fail)
      go_roundw
      case rel => exact ⟨bq, bq + 20, rfl, by go_num, hlt, by omega, by omega, HX, HO1⟩
      case measure => simp [intOf]; omega
    · have HD := Lib.hid (show ∃ X Y : List Int, X.length = a ∧ Ch keyI 20 (X ++ st keyI Y) ∧ Eqv keyI (X ++ st keyI Y) L ∧ (X ++ st keyI Y).length = n ∧ (X ++ (Y ++ [])).length = n ∧ a + Y.length = n ∧ wr.ownsRow B 3 1 (.slice (some ⟨b, 0, none⟩) n cap) n (flat1 (X ++ (Y ++ []))) by
        obtain ⟨X, Y, j, hxa, haj, hch, heq, hlen, how⟩ := HX.out
        have hyl : Y.length = n - a := by rw [List.length_append] at hlen; omega
        exact ⟨X, Y, hxa, ch_snoc (by omega) (hxa.trans haj) (by rw [st_len]; omega) hch (st_sorted _), ((Eqv.refl _).app (st_eqv _)).trans heq, by rw [← hlen]; simp only [List.length_append, st_len], by rw [List.append_nil]; exact hlen, by omega, by rw [List.append_nil]; exact how⟩)
      obtain ⟨X, Y, hxa, hch, heq, hle2, hlen, hyl, how⟩ := HD.out
      have hc := Lib.hid (insI X Y [] (a := a) (bb := n) hlen hn how hxa hyl)
      have HC := Lib.hid hch
      have HE := Lib.hid heq
      have HLY := Lib.hid hle2
      clear hxa hch heq hle2 hlen hyl how HD HX
      go_wp2_with (fail)
      refine hc.out.mono ?_
      rintro e1 w1 ⟨rfl, hw1, o1⟩
      rw [List.append_nil] at hw1
      have HD := Lib.hid (show ∃ D : List Int, Ch keyI 20 D ∧ Eqv keyI D L ∧ D.length = n ∧ w1.ownsRow B 3 1 (.slice (some ⟨b, 0, none⟩) n cap) n (flat1 D) from ⟨_, HC.out, HE.out, HLY.out, hw1⟩)
      have HO1 := Lib.hid (HO.out.trans o1 (by simp))
      clear hw1 o1 hc HC HE HLY hlt hb1 hb2
      go_wp2_with (fail)
      go_loopw [6] (fun vk wr => ∃ k : Nat, vk = .int .i64 (k : Int) ∧ 20 ≤ k ∧ k ≤ 2000020 ∧ Hid (∃ D : List Int, Ch keyI k D ∧ Eqv keyI D L ∧ D.length = n ∧ wr.ownsRow B 3 1 (.slice (some ⟨b, 0, none⟩) n cap) n (flat1 D)) ∧ Hid (Only [b] w wr)) (fun vk _ => n - (intOf vk).toNat)
      case atStart => exact ⟨20, rfl, by omega, by omega, HD, HO1⟩
      case round =>
        clear HD HO1 HO
        obtain ⟨k, rfl, hk1, hk2, HD, HO⟩ := hrel
        by_cases hkn : k < n
        · have HX0 := Lib.hid (show ∃ (X Y : List Int) (j : Nat), X.length = 0 ∧ 0 = j * (2 * k) ∧ Ch keyI (2 * k) X ∧ Ch keyI k Y ∧ Eqv keyI (X ++ Y) L ∧ (X ++ Y).length = n ∧ wr.ownsRow B 3 1 (.slice (some ⟨b, 0, none⟩) n cap) n (flat1 (X ++ Y)) by
            obtain ⟨D, d1, d2, d3, d4⟩ := HD.out
            exact ⟨[], D, 0, rfl, by omega, ch_nil, d1, d2, d3, d4⟩)
          clear HD
          go_wp2_with (fail)
          go_loopw [7, 8] (fun va vb wr => ∃ a bq : Nat, va = .int .i64 (a : Int) ∧ vb = .int .i64 (bq : Int) ∧ a ≤ n ∧ bq ≤ a + 2 * k ∧ a + 2 * k ≤ bq ∧ Hid (∃ (X Y : List Int) (j : Nat), X.length = a ∧ a = j * (2 * k) ∧ Ch keyI (2 * k) X ∧ Ch keyI k Y ∧ Eqv keyI (X ++ Y) L ∧ (X ++ Y).length = n ∧ wr.ownsRow B 3 1 (.slice (some ⟨b, 0, none⟩) n cap) n (flat1 (X ++ Y))) ∧ Hid (Only [b] w wr)) (fun va _ _ => n - (intOf va).toNat)
          case atStart => exact ⟨0, 2 * k, rfl, by go_num, Nat.zero_le _, by omega, by omega, HX0, HO⟩
          case round =>
            clear HX0 HO
            obtain ⟨a, bq, rfl, rfl, han, hb1, hb2, HX, HO⟩ := hrel
            obtain ⟨mm, hmm⟩ : ∃ mm : Nat, a + k = mm := ⟨_, rfl⟩
            have hmi : (a : Int) + (k : Int) = (mm : Int) := by omega
            have HMM := Lib.hid hmm
            clear hmm
            by_cases hlt : bq ≤ n
            · obtain ⟨X, Y, j, hxa, haj, hch, hcy, heq, hlen, how⟩ := HX.out
              have hyl : Y.length = n - a := by rw [List.length_append] at hlen; omega
              have hmm := HMM.out
              have e2 : X ++ (Y.take k ++ ((Y.drop k).take k ++ (Y.drop k).drop k)) = X ++ Y := by rw [List.take_append_drop, List.take_append_drop]
              have hc := Lib.hid (HSY.out (n + 1) X (Y.take k) ((Y.drop k).take k) ((Y.drop k).drop k) wr B b cap a mm bq (by simp; omega) (ch_head hcy) (ch_head (ch_drop hcy)) (by simp; omega) (by simp; omega) (by rw [e2]; exact hlen) (by rw [e2]; exact how) hxa (by simp; omega) (by simp; omega))
              obtain ⟨V, hV⟩ : ∃ V, st keyI (Y.take k ++ (Y.drop k).take k) = V := ⟨_, rfl⟩
              have hVl : V.length = 2 * k := by rw [← hV, st_len]; simp; omega
              rw [hV] at hc
              have HC := Lib.hid (show Ch keyI (2 * k) (X ++ V) from ch_snoc (by omega) (hxa.trans haj) (by omega) hch (by rw [← hV]; exact st_sorted _))
              have HCY := Lib.hid (ch_drop (ch_drop hcy))
              have HE := Lib.hid (show Eqv keyI ((X ++ V) ++ (Y.drop k).drop k) L by
                refine Eqv.trans ?_ heq
                rw [← e2, List.append_assoc, ← hV, ← List.append_assoc (Y.take k)]
                exact (Eqv.refl _).app ((st_eqv _).app (Eqv.refl _)))
              have HLX := Lib.hid (show (X ++ V).length = bq by rw [List.length_append]; omega)
              have HLY := Lib.hid (show ((X ++ V) ++ (Y.drop k).drop k).length = n by rw [List.length_append, HLX.out]; simp; omega)
              have HJ := Lib.hid (show bq = (j + 1) * (2 * k) by rw [Nat.add_mul, Nat.one_mul]; omega)
              clear hxa haj hch hcy heq hlen how hyl HX hV hVl e2 hmm
              go_wp2_with (fail)
              refine hc.out.mono ?_
              rintro e1 w1 ⟨rfl, hw1, o1⟩
              have HX := Lib.hid (show ∃ (X Y : List Int) (j : Nat), X.length = bq ∧ bq = j * (2 * k) ∧ Ch keyI (2 * k) X ∧ Ch keyI k Y ∧ Eqv keyI (X ++ Y) L ∧ (X ++ Y).length = n ∧ w1.ownsRow B 3 1 (.slice (some ⟨b, 0, none⟩) n cap) n (flat1 (X ++ Y)) from ⟨_, _, j + 1, HLX.out, HJ.out, HC.out, HCY.out, HE.out, HLY.out, by rw [List.append_assoc]; exact hw1⟩)
              have HO1 := Lib.hid (HO.out.trans o1 (by simp))
              clear hw1 o1 hc HC HCY HE HLX HLY HJ
              go_wp2_with (fail)
              go_roundw
              case rel => exact ⟨bq, bq + 2 * k, rfl, by go_num, hlt, by omega, by omega, HX, HO1⟩
              case measure => simp [intOf]; omega
            · by_cases hmn : mm < n
              · obtain ⟨X, Y, j, hxa, haj, hch, hcy, heq, hlen, how⟩ := HX.out
                have hyl : Y.length = n - a := by rw [List.length_append] at hlen; omega
                have hmm := HMM.out
                have e2 : X ++ (Y.take k ++ (Y.drop k ++ [])) = X ++ Y := by rw [List.append_nil, List.take_append_drop]
                have hs2 : Sorted keyI (Y.drop k) := ch_all (by simp; omega) (ch_drop hcy)
                have hc := Lib.hid (HSY.out (n + 1) X (Y.take k) (Y.drop k) [] wr B b cap a mm n (by simp; omega) (ch_head hcy) hs2 (by simp; omega) (by simp; omega) (by rw [e2]; exact hlen) (by rw [e2]; exact how) hxa (by simp; omega) (by simp; omega))
                rw [List.take_append_drop, List.append_nil] at hc
                have HC := Lib.hid (show Ch keyI (2 * k) (X ++ st keyI Y) from ch_snoc (by omega) (hxa.trans haj) (by rw [st_len]; omega) hch (st_sorted _))
                have HE := Lib.hid (show Eqv keyI (X ++ st keyI Y) L from ((Eqv.refl _).app (st_eqv _)).trans heq)
                have HLY := Lib.hid (show (X ++ st keyI Y).length = n by rw [← hlen]; simp only [List.length_append, st_len])
                clear hxa haj hch hcy heq hlen how hyl HX e2 hmm hs2
                go_wp2_with (fail)
                refine hc.out.mono ?_
                rintro e1 w1 ⟨rfl, hw1, o1⟩
                have HD := Lib.hid (show ∃ D : List Int, Ch keyI (2 * k) D ∧ Eqv keyI D L ∧ D.length = n ∧ w1.ownsRow B 3 1 (.slice (some ⟨b, 0, none⟩) n cap) n (flat1 D) from ⟨_, HC.out, HE.out, HLY.out, hw1⟩)
                have HO1 := Lib.hid (HO.out.trans o1 (by simp))
                clear hw1 o1 hc HC HE HLY hlt hb1 hb2
                go_wp2_with (fail)
                go_roundw
                case rel => exact ⟨2 * k, by go_num, by omega, by omega, HD, HO1⟩
                case measure => simp [intOf]; omega
              · have HD := Lib.hid (show ∃ D : List Int, Ch keyI (2 * k) D ∧ Eqv keyI D L ∧ D.length = n ∧ wr.ownsRow B 3 1 (.slice (some ⟨b, 0, none⟩) n cap) n (flat1 D) by
                  obtain ⟨X, Y, j, hxa, haj, hch, hcy, heq, hlen, how⟩ := HX.out
                  have hyl : Y.length = n - a := by rw [List.length_append] at hlen; omega
                  have hmm := HMM.out
                  exact ⟨X ++ Y, ch_snoc (by omega) (hxa.trans haj) (by omega) hch (ch_all (by omega) hcy), heq, hlen, how⟩)
                clear HX
                go_wp2_with (fail)
                go_roundw
                case rel => exact ⟨2 * k, by go_num, by omega, by omega, HD, HO⟩
                case measure => simp [intOf]; omega
        · have HEND := Lib.hid (show wr.ownsRow B 3 1 (.slice (some ⟨b, 0, none⟩) n cap) n (flat1 (st keyI L)) by
            obtain ⟨D, d1, d2, d3, d4⟩ := HD.out
            rw [← st_uniq (ch_all (by omega) d1) d2]
            exact d4)
          go_wp2_with (fail)
          go_end0
          exact ⟨rfl, HEND.out, HO.out⟩
/-- SortStableFunc -/
theorem sortI (L : List Int) {w : World} {B b cap n : Nat} (hlen0 : L.length = n) (hn : n ≤ 1000000) (how : w.ownsRow B 3 1 (.slice (some ⟨b, 0, none⟩) n cap) n (flat1 L)) :
    Calls Try.prog 45 #[.slice (some ⟨b, 0, none⟩) n cap, .func (.func 11) #[] #[]] w fun e w' => e = .returned (.tuple #[]) ∧ w'.ownsRow B 3 1 (.slice (some ⟨b, 0, none⟩) n cap) n (flat1 (st keyI L)) ∧ Only [b] w w' := by
  have hc := Lib.hid (stableI L hlen0 hn how)
  clear how hlen0
  go_enter Try.func45, Try.ntmps45
  go_wp2_with (fail)
  refine hc.out.mono ?_
  rintro e w1 ⟨rfl, hw, o⟩
  have H := Lib.hid hw
  have O := Lib.hid o
  clear hw o hc
  go_wp2_with (fail)
  go_end0
  exact ⟨rfl, H.out, O.out⟩
theorem ins_nilI (A : Option Addr) (cap : Nat) (fv : Value) (w : World) : Calls Try.prog 55 #[.slice A 0 cap, .int .i64 0, .int .i64 0, fv] w fun e w' => e = .returned (.tuple #[]) ∧ w = w' := by
  go_enter Try.func55, Try.ntmps55
  go_wp2_with (fail)
  go_loopw [8] (fun i wr => i = .int .i64 1 ∧ w = wr) (fun i _ => 0)
  case atStart => exact ⟨rfl, rfl⟩
  case round =>
    obtain ⟨rfl, rfl⟩ := hrel
    go_wp2_with (fail)
    go_end0
    exact ⟨rfl, rfl⟩
theorem stable_nilI (A : Option Addr) (cap : Nat) (fv : Value) (w : World) : Calls Try.prog 52 #[.slice A 0 cap, .int .i64 0, fv] w fun e w' => e = .returned (.tuple #[]) ∧ w = w' := by
  go_enter Try.func52, Try.ntmps52
  go_wp2_with (fail)
  go_loopw [7, 8] (fun va vb wr => va = .int .i64 0 ∧ vb = .int .i64 20 ∧ w = wr) (fun _ _ _ => 0)
  case atStart => exact ⟨rfl, rfl, rfl⟩
  case round =>
    obtain ⟨rfl, rfl, rfl⟩ := hrel
    go_wp2_with (fail)
    refine (ins_nilI A cap fv _).mono ?_
    rintro e1 w1 ⟨rfl, rfl⟩
    go_wp2_with (fail)
    go_loopw [6] (fun va wr => va = .int .i64 20 ∧ w = wr) (fun _ _ => 0)
    case atStart => exact ⟨rfl, rfl⟩
    case round =>
      obtain ⟨rfl, rfl⟩ := hrel
      go_wp2_with (fail)
      go_end0
      exact ⟨rfl, rfl⟩
/-- SortStableFunc of nothing -/
theorem sort_nilI (A : Option Addr) (cap : Nat) (fv : Value) (w : World) : Calls Try.prog 45 #[.slice A 0 cap, fv] w fun e w' => e = .returned (.tuple #[]) ∧ w = w' := by
  go_enter Try.func45, Try.ntmps45
  go_wp2_with (fail)
  refine (stable_nilI A cap fv _).mono ?_
  rintro e w1 ⟨rfl, rfl⟩
  go_wp2_with (fail)
  go_end0
  exact ⟨rfl, rfl⟩
theorem mergesJ {n : Nat} (hn : n ≤ 1000000) : ∀ sz, MergesJ sz n := by
  intro sz
  induction sz using Nat.strongRecOn with
  | ind sz ih =>
    intro P A N S w B b cap a m bb hsz hA hN hA1 hN1 hlen how ha hm hb
    by_cases h1 : A.length = 1
    · obtain ⟨x, rfl⟩ := List.length_eq_one_iff.1 h1
      exact symAJ P N S x hN hlen hn how ha hm hb
    · by_cases h2 : N.length = 1
      · obtain ⟨x, rfl⟩ := List.length_eq_one_iff.1 h2
        exact symBJ P A S x hA h1 hlen hn how ha hm hb
      · exact symGJ P A N S hA hN (by omega) (by omega) hlen hn how ha hm hb (ih _ hsz)
set_option maxHeartbeats 8000000 in
theorem stableJ (L : List Ent) {w : World} {B b cap n : Nat} (hlen0 : L.length = n) (hn : n ≤ 1000000) (how : w.ownsRow B 49 2 (.slice (some ⟨b, 0, none⟩) n cap) n (flat2 L)) :
    Calls Try.prog 49 #[.slice (some ⟨b, 0, none⟩) n cap, .int .i64 n, .func (.func 22) #[] #[]] w fun e w' => e = .returned (.tuple #[]) ∧ w'.ownsRow B 49 2 (.slice (some ⟨b, 0, none⟩) n cap) n (flat2 (st keyJ L)) ∧ Only [b] w w' := by
  have HST := Lib.hid how
  have HL := Lib.hid hlen0
  have HSY := Lib.hid (mergesJ hn)
  clear how hlen0
  go_enter Try.func49, Try.ntmps49
  go_wp2_with (fail)
  go_loopw [7, 8] (fun va vb wr => ∃ a bq : Nat, va = .int .i64 (a : Int) ∧ vb = .int .i64 (bq : Int) ∧ a ≤ n ∧ bq ≤ a + 20 ∧ a + 20 ≤ bq ∧ Hid (∃ (X Y : List Ent) (j : Nat), X.length = a ∧ a = j * 20 ∧ Ch keyJ 20 X ∧ Eqv keyJ (X ++ Y) L ∧ (X ++ Y).length = n ∧ wr.ownsRow B 49 2 (.slice (some ⟨b, 0, none⟩) n cap) n (flat2 (X ++ Y))) ∧ Hid (Only [b] w wr)) (fun va _ _ => n - (intOf va).toNat)
  case atStart => exact ⟨0, 20, rfl, rfl, Nat.zero_le _, by omega, by omega, Lib.hid ⟨[], L, 0, rfl, rfl, ch_nil, Eqv.refl _, HL.out, HST.out⟩, Lib.hid (Only.refl _ _)⟩
  case round =>
    obtain ⟨a, bq, rfl, rfl, han, hb1, hb2, HX, HO⟩ := hrel
    by_cases hlt : bq ≤ n
    · obtain ⟨X, Y, j, hxa, haj, hch, heq, hlen, how⟩ := HX.out
      have hyl : Y.length = n - a := by rw [List.length_append] at hlen; omega
      have hc := Lib.hid (insJ X (Y.take 20) (Y.drop 20) (a := a) (bb := bq) (by rw [List.take_append_drop]; exact hlen) hn (by rw [List.take_append_drop]; exact how) hxa (by simp; omega))
      have HC := Lib.hid (show Ch keyJ 20 (X ++ st keyJ (Y.take 20)) from ch_snoc (by omega) (hxa.trans haj) (by rw [st_len]; simp; omega) hch (st_sorted _))
      have HE := Lib.hid (show Eqv keyJ ((X ++ st keyJ (Y.take 20)) ++ Y.drop 20) L by
        refine Eqv.trans ?_ heq
        have e : X ++ Y = X ++ (Y.take 20 ++ Y.drop 20) := by rw [List.take_append_drop]
        rw [e, List.append_assoc]
        exact (Eqv.refl _).app ((st_eqv _).app (Eqv.refl _)))
      have HLX := Lib.hid (show (X ++ st keyJ (Y.take 20)).length = bq by rw [List.length_append, st_len]; simp; omega)
      have HLY := Lib.hid (show ((X ++ st keyJ (Y.take 20)) ++ Y.drop 20).length = n by rw [List.length_append, HLX.out]; simp; omega)
      have HJ := Lib.hid (show bq = (j + 1) * 20 by omega)
      clear hxa haj hch heq hlen how hyl HX
      go_wp2_with (fail)
      refine hc.out.mono ?_
      rintro e1 w1 ⟨rfl, hw1, o1⟩
      have HX := Lib.hid (show ∃ (X Y : List Ent) (j : Nat), X.length = bq ∧ bq = j * 20 ∧ Ch keyJ 20 X ∧ Eqv keyJ (X ++ Y) L ∧ (X ++ Y).length = n ∧ w1.ownsRow B 49 2 (.slice (some ⟨b, 0, none⟩) n cap) n (flat2 (X ++ Y)) from ⟨_, _, j + 1, HLX.out, HJ.out, HC.out, HE.out, HLY.out, by rw [List.append_assoc]; exact hw1⟩)
      have HO1 := Lib.hid (HO.out.trans o1 (by simp))
      clear hw1 o1 hc HC HE HLX HLY HJ
      go_wp2_with (fail)
      go_roundw
      case rel => exact ⟨bq, bq + 20, rfl, by go_num, hlt, by omega, by omega, HX, HO1⟩
      case measure => simp [intOf]; omega
    · have HD := Lib.hid (show ∃ X Y : List Ent, X.length = a ∧ Ch keyJ 20 (X ++ st keyJ Y) ∧ Eqv keyJ (X ++ st keyJ Y) L ∧ (X ++ st keyJ Y).length = n ∧ (X ++ (Y ++ [])).length = n ∧ a + Y.length = n ∧ wr.ownsRow B 49 2 (.slice (some ⟨b, 0, none⟩) n cap) n (flat2 (X ++ (Y ++ []))) by
        obtain ⟨X, Y, j, hxa, haj, hch, heq, hlen, how⟩ := HX.out
        have hyl : Y.length = n - a := by rw [List.length_append] at hlen; omega
        exact ⟨X, Y, hxa, ch_snoc (by omega) (hxa.trans haj) (by rw [st_len]; omega) hch (st_sorted _), ((Eqv.refl _).app (st_eqv _)).trans heq, by rw [← hlen]; simp only [List.length_append, st_len], by rw [List.append_nil]; exact hlen, by omega, by rw [List.append_nil]; exact how⟩)
      obtain ⟨X, Y, hxa, hch, heq, hle2, hlen, hyl, how⟩ := HD.out
      have hc := Lib.hid (insJ X Y [] (a := a) (bb := n) hlen hn how hxa hyl)
      have HC := Lib.hid hch
      have HE := Lib.hid heq
      have HLY := Lib.hid hle2
      clear hxa hch heq hle2 hlen hyl how HD HX
      go_wp2_with (fail)
      refine hc.out.mono ?_
      rintro e1 w1 ⟨rfl, hw1, o1⟩
      rw [List.append_nil] at hw1
      have HD := Lib.hid (show ∃ D : List Ent, Ch keyJ 20 D ∧ Eqv keyJ D L ∧ D.length = n ∧ w1.ownsRow B 49 2 (.slice (some ⟨b, 0, none⟩) n cap) n (flat2 D) from ⟨_, HC.out, HE.out, HLY.out, hw1⟩)
      have HO1 := Lib.hid (HO.out.trans o1 (by simp))
      clear hw1 o1 hc HC HE HLY hlt hb1 hb2
      go_wp2_with (fail)
      go_loopw [6] (fun vk wr => ∃ k : Nat, vk = .int .i64 (k : Int) ∧ 20 ≤ k ∧ k ≤ 2000020 ∧ Hid (∃ D : List Ent, Ch keyJ k D ∧ Eqv keyJ D L ∧ D.length = n ∧ wr.ownsRow B 49 2 (.slice (some ⟨b, 0, none⟩) n cap) n (flat2 D)) ∧ Hid (Only [b] w wr)) (fun vk _ => n - (intOf vk).toNat)
      case atStart => exact ⟨20, rfl, by omega, by omega, HD, HO1⟩
      case round =>
        clear HD HO1 HO
        obtain ⟨k, rfl, hk1, hk2, HD, HO⟩ := hrel
        by_cases hkn : k < n
        · have HX0 := Lib.hid (show ∃ (X Y : List Ent) (j : Nat), X.length = 0 ∧ 0 = j * (2 * k) ∧ Ch keyJ (2 * k) X ∧ Ch keyJ k Y ∧ Eqv keyJ (X ++ Y) L ∧ (X ++ Y).length = n ∧ wr.ownsRow B 49 2 (.slice (some ⟨b, 0, none⟩) n cap) n (flat2 (X ++ Y)) by
            obtain ⟨D, d1, d2, d3, d4⟩ := HD.out
            exact ⟨[], D, 0, rfl, by omega, ch_nil, d1, d2, d3, d4⟩)
          clear HD
          go_wp2_with (fail)
          go_loopw [7, 8] (fun va vb wr => ∃ a bq : Nat, va = .int .i64 (a : Int) ∧ vb = .int .i64 (bq : Int) ∧ a ≤ n ∧ bq ≤ a + 2 * k ∧ a + 2 * k ≤ bq ∧ Hid (∃ (X Y : List Ent) (j : Nat), X.length = a ∧ a = j * (2 * k) ∧ Ch keyJ (2 * k) X ∧ Ch keyJ k Y ∧ Eqv keyJ (X ++ Y) L ∧ (X ++ Y).length = n ∧ wr.ownsRow B 49 2 (.slice (some ⟨b, 0, none⟩) n cap) n (flat2 (X ++ Y))) ∧ Hid (Only [b] w wr)) (fun va _ _ => n - (intOf va).toNat)
          case atStart => exact ⟨0, 2 * k, rfl, by go_num, Nat.zero_le _, by omega, by omega, HX0, HO⟩
          case round =>
            clear HX0 HO
            obtain ⟨a, bq, rfl, rfl, han, hb1, hb2, HX, HO⟩ := hrel
            obtain ⟨mm, hmm⟩ : ∃ mm : Nat, a + k = mm := ⟨_, rfl⟩
            have hmi : (a : Int) + (k : Int) = (mm : Int) := by omega
            have HMM := Lib.hid hmm
            clear hmm
            by_cases hlt : bq ≤ n
            · obtain ⟨X, Y, j, hxa, haj, hch, hcy, heq, hlen, how⟩ := HX.out
              have hyl : Y.length = n - a := by rw [List.length_append] at hlen; omega
              have hmm := HMM.out
              have e2 : X ++ (Y.take k ++ ((Y.drop k).take k ++ (Y.drop k).drop k)) = X ++ Y := by rw [List.take_append_drop, List.take_append_drop]
              have hc := Lib.hid (HSY.out (n + 1) X (Y.take k) ((Y.drop k).take k) ((Y.drop k).drop k) wr B b cap a mm bq (by simp; omega) (ch_head hcy) (ch_head (ch_drop hcy)) (by simp; omega) (by simp; omega) (by rw [e2]; exact hlen) (by rw [e2]; exact how) hxa (by simp; omega) (by simp; omega))
              obtain ⟨V, hV⟩ : ∃ V, st keyJ (Y.take k ++ (Y.drop k).take k) = V := ⟨_, rfl⟩
              have hVl : V.length = 2 * k := by rw [← hV, st_len]; simp; omega
              rw [hV] at hc
              have HC := Lib.hid (show Ch keyJ (2 * k) (X ++ V) from ch_snoc (by omega) (hxa.trans haj) (by omega) hch (by rw [← hV]; exact st_sorted _))
              have HCY := Lib.hid (ch_drop (ch_drop hcy))
              have HE := Lib.hid (show Eqv keyJ ((X ++ V) ++ (Y.drop k).drop k) L by
                refine Eqv.trans ?_ heq
                rw [← e2, List.append_assoc, ← hV, ← List.append_assoc (Y.take k)]
                exact (Eqv.refl _).app ((st_eqv _).app (Eqv.refl _)))
              have HLX := Lib.hid (show (X ++ V).length = bq by rw [List.length_append]; omega)
              have HLY := Lib.hid (show ((X ++ V) ++ (Y.drop k).drop k).length = n by rw [List.length_append, HLX.out]; simp; omega)
              have HJ := Lib.hid (show bq = (j + 1) * (2 * k) by rw [Nat.add_mul, Nat.one_mul]; omega)
              clear hxa haj hch hcy heq hlen how hyl HX hV hVl e2 hmm
              go_wp2_with (fail)
              refine hc.out.mono ?_
              rintro e1 w1 ⟨rfl, hw1, o1⟩
              have HX := Lib.hid (show ∃ (X Y : List Ent) (j : Nat), X.length = bq ∧ bq = j * (2 * k) ∧ Ch keyJ (2 * k) X ∧ Ch keyJ k Y ∧ Eqv keyJ (X ++ Y) L ∧ (X ++ Y).length = n ∧ w1.ownsRow B 49 2 (.slice (some ⟨b, 0, none⟩) n cap) n (flat2 (X ++ Y)) from ⟨_, _, j + 1, HLX.out, HJ.out, HC.out, HCY.out, HE.out, HLY.out, by rw [List.append_assoc]; exact hw1⟩)
              have HO1 := Lib.hid (HO.out.trans o1 (by simp))
              clear hw1 o1 hc HC HCY HE HLX HLY HJ
              go_wp2_with (fail)
              go_roundw
              case rel => exact ⟨bq, bq + 2 * k, rfl, by go_num, hlt, by omega, by omega, HX, HO1⟩
              case measure => simp [intOf]; omega
            · by_cases hmn : mm < n
              · obtain ⟨X, Y, j, hxa, haj, hch, hcy, heq, hlen, how⟩ := HX.out
                have hyl : Y.length = n - a := by rw [List.length_append] at hlen; omega
                have hmm := HMM.out
                have e2 : X ++ (Y.take k ++ (Y.drop k ++ [])) = X ++ Y := by rw [List.append_nil, List.take_append_drop]
                have hs2 : Sorted keyJ (Y.drop k) := ch_all (by simp; omega) (ch_drop hcy)
                have hc := Lib.hid (HSY.out (n + 1) X (Y.take k) (Y.drop k) [] wr B b cap a mm n (by simp; omega) (ch_head hcy) hs2 (by simp; omega) (by simp; omega) (by rw [e2]; exact hlen) (by rw [e2]; exact how) hxa (by simp; omega) (by simp; omega))
                rw [List.take_append_drop, List.append_nil] at hc
                have HC := Lib.hid (show Ch keyJ (2 * k) (X ++ st keyJ Y) from ch_snoc (by omega) (hxa.trans haj) (by rw [st_len]; omega) hch (st_sorted _))
                have HE := Lib.hid (show Eqv keyJ (X ++ st keyJ Y) L from ((Eqv.refl _).app (st_eqv _)).trans heq)
                have HLY := Lib.hid (show (X ++ st keyJ Y).length = n by rw [← hlen]; simp only [List.length_append, st_len])
                clear hxa haj hch hcy heq hlen how hyl HX e2 hmm hs2
                go_wp2_with (fail)
                refine hc.out.mono ?_
                rintro e1 w1 ⟨rfl, hw1, o1⟩
                have HD := Lib.hid (show ∃ D : List Ent, Ch keyJ (2 * k) D ∧ Eqv keyJ D L ∧ D.length = n ∧ w1.ownsRow B 49 2 (.slice (some ⟨b, 0, none⟩) n cap) n (flat2 D) from ⟨_, HC.out, HE.out, HLY.out, hw1⟩)
                have HO1 := Lib.hid (HO.out.trans o1 (by simp))
                clear hw1 o1 hc HC HE HLY hlt hb1 hb2
                go_wp2_with (fail)
                go_roundw
                case rel => exact ⟨2 * k, by go_num, by omega, by omega, HD, HO1⟩
                case measure => simp [intOf]; omega
              · have HD := Lib.hid (show ∃ D : List Ent, Ch keyJ (2 * k) D ∧ Eqv keyJ D L ∧ D.length = n ∧ wr.ownsRow B 49 2 (.slice (some ⟨b, 0, none⟩) n cap) n (flat2 D) by
                  obtain ⟨X, Y, j, hxa, haj, hch, hcy, heq, hlen, how⟩ := HX.out
                  have hyl : Y.length = n - a := by rw [List.length_append] at hlen; omega
                  have hmm := HMM.out
                  exact ⟨X ++ Y, ch_snoc (by omega) (hxa.trans haj) (by omega) hch (ch_all (by omega) hcy), heq, hlen, how⟩)
                clear HX
                go_wp2_with (fail)
                go_roundw
                case rel => exact ⟨2 * k, by go_num, by omega, by omega, HD, HO⟩
                case measure => simp [intOf]; omega
        · have HEND := Lib.hid (show wr.ownsRow B 49 2 (.slice (some ⟨b, 0, none⟩) n cap) n (flat2 (st keyJ L)) by
            obtain ⟨D, d1, d2, d3, d4⟩ := HD.out
            rw [← st_uniq (ch_all (by omega) d1) d2]
            exact d4)
          go_wp2_with (fail)
          go_end0
          exact ⟨rfl, HEND.out, HO.out⟩
/-- SortStableFunc -/
theorem sortJ (L : List Ent) {w : World} {B b cap n : Nat} (hlen0 : L.length = n) (hn : n ≤ 1000000) (how : w.ownsRow B 49 2 (.slice (some ⟨b, 0, none⟩) n cap) n (flat2 L)) :
    Calls Try.prog 41 #[.slice (some ⟨b, 0, none⟩) n cap, .func (.func 22) #[] #[]] w fun e w' => e = .returned (.tuple #[]) ∧ w'.ownsRow B 49 2 (.slice (some ⟨b, 0, none⟩) n cap) n (flat2 (st keyJ L)) ∧ Only [b] w w' := by
  have hc := Lib.hid (stableJ L hlen0 hn how)
  clear how hlen0
  go_enter Try.func41, Try.ntmps41
  go_wp2_with (fail)
  refine hc.out.mono ?_
  rintro e w1 ⟨rfl, hw, o⟩
  have H := Lib.hid hw
  have O := Lib.hid o
  clear hw o hc
  go_wp2_with (fail)
  go_end0
  exact ⟨rfl, H.out, O.out⟩
theorem ins_nilJ (A : Option Addr) (cap : Nat) (fv : Value) (w : World) : Calls Try.prog 53 #[.slice A 0 cap, .int .i64 0, .int .i64 0, fv] w fun e w' => e = .returned (.tuple #[]) ∧ w = w' := by
  go_enter Try.func53, Try.ntmps53
  go_wp2_with (fail)
  go_loopw [8] (fun i wr => i = .int .i64 1 ∧ w = wr) (fun i _ => 0)
  case atStart => exact ⟨rfl, rfl⟩
  case round =>
    obtain ⟨rfl, rfl⟩ := hrel
    go_wp2_with (fail)
    go_end0
    exact ⟨rfl, rfl⟩
theorem stable_nilJ (A : Option Addr) (cap : Nat) (fv : Value) (w : World) : Calls Try.prog 49 #[.slice A 0 cap, .int .i64 0, fv] w fun e w' => e = .returned (.tuple #[]) ∧ w = w' := by
  go_enter Try.func49, Try.ntmps49
  go_wp2_with (fail)
  go_loopw [7, 8] (fun va vb wr => va = .int .i64 0 ∧ vb = .int .i64 20 ∧ w = wr) (fun _ _ _ => 0)
  case atStart => exact ⟨rfl, rfl, rfl⟩
  case round =>
    obtain ⟨rfl, rfl, rfl⟩ := hrel
    go_wp2_with (fail)
    refine (ins_nilJ A cap fv _).mono ?_
    rintro e1 w1 ⟨rfl, rfl⟩
    go_wp2_with (fail)
    go_loopw [6] (fun va wr => va = .int .i64 20 ∧ w = wr) (fun _ _ => 0)
    case atStart => exact ⟨rfl, rfl⟩
    case round =>
      obtain ⟨rfl, rfl⟩ := hrel
      go_wp2_with (fail)
      go_end0
      exact ⟨rfl, rfl⟩
/-- SortStableFunc of nothing -/
theorem sort_nilJ (A : Option Addr) (cap : Nat) (fv : Value) (w : World) : Calls Try.prog 41 #[.slice A 0 cap, fv] w fun e w' => e = .returned (.tuple #[]) ∧ w = w' := by
  go_enter Try.func41, Try.ntmps41
  go_wp2_with (fail)
  refine (stable_nilJ A cap fv _).mono ?_
  rintro e w1 ⟨rfl, rfl⟩
  go_wp2_with (fail)
  go_end0
  exact ⟨rfl, rfl⟩
end Go.Proofs.Ytpedlapemgjgaaa
