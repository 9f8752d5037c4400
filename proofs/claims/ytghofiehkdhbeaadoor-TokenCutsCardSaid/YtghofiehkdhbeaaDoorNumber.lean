/- number: of a text. -/
import Derived.Test.YtghofiehkdhbeaaDoorNameW
import Derived.Lib.AtoiAllCases
namespace Go.Proofs.YtghofiehkdhbeaaDoor
open Go.RowKit Go.Kx Go.Tok
set_option maxRecDepth 100000

def valA (a : Nat) (l : List UInt8) : Nat := l.foldl (fun n c => n * 10 + (c.toNat - 48)) a
theorem valA_cons (a : Nat) (c : UInt8) (l : List UInt8) : valA a (c :: l) = valA (a * 10 + (c.toNat - 48)) l := by simp only [valA, List.foldl_cons]
theorem valA_zero (l : List UInt8) : valA 0 l = val l := by
  have e : (fun (n : Nat) (c : UInt8) => n * 10 + (c.toNat - 48)) = fun n c => 10 * n + digit c := by
    funext n c
    unfold digit
    omega
  unfold valA val
  rw [e]
theorem val_ge : ∀ (l : List UInt8) (a : Nat), a ≤ valA a l
  | [], _ => Nat.le_refl _
  | c :: l, a => by
    have := val_ge l (a * 10 + (c.toNat - 48))
    rw [valA_cons]
    omega
theorem parse_step {c : UInt8} {r : List UInt8} {a : Nat} (hc : 48 ≤ c.toNat ∧ c.toNat ≤ 57) : Lib.parseUint10 a (c :: r) = if 1844674407370955162 ≤ a then .range else if 18446744073709551616 ≤ a * 10 + (c.toNat - 48) then .range else Lib.parseUint10 (a * 10 + (c.toNat - 48)) r := by
  have h := Lib.parseUint10.eq_2 a c r
  rw [if_pos hc] at h
  exact h
theorem parse_dig (l : List UInt8) : ∀ a : Nat, (∀ c ∈ l, isDig c = true) → (valA a l < 18446744073709551616 ∨ l = [] → Lib.parseUint10 a l = .ok (valA a l)) ∧ (¬ valA a l < 18446744073709551616 → l ≠ [] → Lib.parseUint10 a l = .range) := by
  induction l with
  | nil => intro a _; exact ⟨fun _ => rfl, fun _ h => absurd rfl h⟩
  | cons c l ih =>
    intro a h
    have hc := dig_range (h c (by simp))
    obtain ⟨i1, i2⟩ := ih (a * 10 + (c.toNat - 48)) (fun x hx => h x (by simp [hx]))
    have hg : a * 10 + (c.toNat - 48) ≤ valA (a * 10 + (c.toNat - 48)) l := val_ge l _
    have hn : l = [] → valA (a * 10 + (c.toNat - 48)) l = a * 10 + (c.toNat - 48) := fun h => by subst h; simp only [valA, List.foldl_nil]
    rw [valA_cons, parse_step hc]
    generalize c.toNat - 48 = d at *
    generalize valA (a * 10 + d) l = v at *
    generalize Lib.parseUint10 (a * 10 + d) l = q at *
    refine ⟨fun hv => ?_, fun hv _ => ?_⟩
    · have hv2 : v < 18446744073709551616 := by
        rcases hv with h | h
        · exact h
        · cases h
      have n1 : ¬ 1844674407370955162 ≤ a := by omega
      have n2 : ¬ 18446744073709551616 ≤ a * 10 + d := by omega
      rw [if_neg n1, if_neg n2]
      exact i1 (.inl hv2)
    · by_cases h1 : 1844674407370955162 ≤ a
      · rw [if_pos h1]
      · rw [if_neg h1]
        by_cases h2 : 18446744073709551616 ≤ a * 10 + d
        · rw [if_pos h2]
        · rw [if_neg h2]
          exact i2 hv (fun h => by have := hn h; omega)
theorem atoi_dig {l : List UInt8} (h : ∀ c ∈ l, isDig c = true) (hne : l ≠ []) : Lib.atoiAll l = if val l ≤ big then .ok (val l : Int) else .range := by
  cases l with
  | nil => exact absurd rfl hne
  | cons c r =>
    have hc := dig_range (h c (by simp))
    rw [Lib.atoiAll_plain c r (by omega) (by omega)]
    have hp : Lib.parseMag (c :: r) = Lib.parseUint10 0 (c :: r) := by
      unfold Lib.parseMag
      rw [if_neg (by simp)]
    obtain ⟨h1, h2⟩ := parse_dig (c :: r) 0 h
    have hv : valA 0 (c :: r) = val (c :: r) := valA_zero _
    rw [hv] at h1 h2
    rw [hp]
    by_cases hb : val (c :: r) ≤ big
    · have hb2 := hb
      unfold big at hb2
      rw [h1 (.inl (by omega)), if_pos hb]
      unfold Lib.signless
      simp
      omega
    · have hb2 := hb
      unfold big at hb2
      rw [if_neg hb]
      by_cases h3 : val (c :: r) < 18446744073709551616
      · rw [h1 (.inl h3)]
        unfold Lib.signless
        simp
        omega
      · rw [h2 h3 (by simp)]
        rfl
/-- the library's error is laid -/
def RangeV (w : World) : Prop := ∃ tp p t fr, w.heap[3]? = some (.cells #[.iface tp p] t fr)
theorem RangeV.only {S : List Nat} {w w' : World} (h : RangeV w) (o : Only S w w') (h3 : 3 ∉ S) : RangeV w' := by
  obtain ⟨tp, p, t, fr, h⟩ := h
  exact ⟨tp, p, t, fr, (o.block 3 (Array.getElem?_eq_some_iff.1 h).1 h3).trans h⟩
theorem RangeV.keep {w w' : World} (h : RangeV w) (o : Only [] w w') : RangeV w' := h.only o (by simp)
theorem RangeV.var {w : World} (h : RangeV w) : ∃ tp p, w.var? Tryd.prog "strconv.ErrRange" = some #[.iface tp p] := by
  obtain ⟨tp, p, t, fr, h⟩ := h
  have hg : Tryd.prog.globalNamed "strconv.ErrRange" = some 3 := by kernel_rfl
  refine ⟨tp, p, ?_⟩
  simp only [World.var?, hg, Option.bind_some, h]
theorem only_of_below {w w' : World} (h : Below w.heap.size w w') : Only [] w w' := ⟨h.os, h.tape, h.output, h.size, fun k hk _ => h.block k hk⟩
theorem only_bytes {w w' : World} (h : w' = w ∨ ∃ t, w' = Lib.bytesWorld w 5 t) : Only [] w w' := by
  rcases h with rfl | ⟨t, rfl⟩
  · exact Only.refl _ _
  · exact only_of_below (Lib.bytesWorld_below w 5 t)
theorem atoi_ok {s : ByteArray} (hs : s.size ≤ 100000000) (hd : ∀ c ∈ s.data.toList, isDig c = true) (hne : s.data.toList ≠ []) (hb : val s.data.toList ≤ big) (w : World) :
    Calls Tryd.prog 26 #[.string s] w fun e w' => e = .returned (.tuple #[.int .i64 (val s.data.toList : Nat), .nilIface]) ∧ Only [] w w' :=
  (Tryd.strconv_Atoi_ok s (by omega) _ (by rw [atoi_dig hd hne, if_pos hb]) w).mono fun e w' ⟨he, o⟩ => ⟨he, only_bytes o⟩
theorem atoi_big {s : ByteArray} (hs : s.size ≤ 100000000) (hd : ∀ c ∈ s.data.toList, isDig c = true) (hne : s.data.toList ≠ []) (hb : ¬ val s.data.toList ≤ big) {w : World} (hR : RangeV w) :
    Calls Tryd.prog 26 #[.string s] w fun e w' => (∃ x N, e = .returned (.tuple #[.int .i64 x, .iface 60 (.pointer (some ⟨N, 0, none⟩))])) ∧ Only [] w w' := by
  obtain ⟨tp, p, h⟩ := hR.var
  exact (Tryd.strconv_Atoi_range_var s (by omega) (by rw [atoi_dig hd hne, if_neg hb]) tp p w h).mono fun e w' ⟨N, he, _, _, hbl⟩ => ⟨⟨_, N, he⟩, only_of_below hbl⟩
theorem _root_.Go.Kx.Blk.facts4 {w : World} {g : Nat} {t : TypeId} {a b c d : Value} (h : Blk w g t #[a, b, c, d]) : w.cell? ⟨g, 0, none⟩ = some a ∧ w.cell? ⟨g, 1, none⟩ = some b ∧ w.cell? ⟨g, 2, none⟩ = some c ∧ w.cell? ⟨g, 3, none⟩ = some d ∧ g < w.heap.size :=
  ⟨by simpa using h.cell 0, by simpa using h.cell 1, by simpa using h.cell 2, by simpa using h.cell 3, h.lt⟩
set_option maxHeartbeats 2000000 in
theorem number_any (s : ByteArray) (hs : s.size ≤ 100000000) (p : Nat) (hp : p < s.size) (hd : isDig s[p] = true) {w : World} (hV : RangeV w) :
    Calls Tryd.prog 23 #[.string s, .int .i64 p] w fun e w' => e = .returned (wdV p (numW (s.data.toList.drop p))) ∧ Only [] w w' := by
  have o0 : Only [] w (w.alloc (.cells #[.int .i64 0, .string ⟨#[]⟩, .int .i64 0, .int .i64 0] 28)) := (Only.refl _ _).alloc _
  have HB := Lib.hid (Blk.new w 28 #[.int .i64 0, .string ⟨#[]⟩, .int .i64 0, .int .i64 0])
  have HV := Lib.hid (hV.keep o0)
  have HO := Lib.hid o0
  clear o0 hV
  obtain ⟨R, hR⟩ : ∃ R, wdV p (numW (s.data.toList.drop p)) = R := ⟨_, rfl⟩
  rw [hR]
  have HR := Lib.hid hR
  clear hR
  obtain ⟨z, hz⟩ : ∃ z, (run isDig (s.data.toList.drop p)).length = z := ⟨_, rfl⟩
  have hzs := run_size isDig s (Nat.le_of_lt hp)
  have hex := ext_run isDig s p
  have hra := run_at (p := isDig) hp
  rw [hd, if_pos rfl] at hra
  have hz1 : 1 ≤ z := by omega
  have hfz := first_at (p := isZero) hp
  rw [hz] at hzs hex
  have HEX := Lib.hid hex
  have HZ := Lib.hid (show p + (run isDig (s.data.toList.drop p)).length = p + z by rw [hz])
  have HLZ := Lib.hid hz
  have HFZ := Lib.hid hfz
  clear hz hex hra hd hfz
  go_enter Tryd.func23, Tryd.ntmps23
  go_wp2_with (fail)
  go_loop [7] (fun i => ∃ k : Nat, i = .int .i64 k ∧ p ≤ k ∧ k ≤ s.size ∧ Hid (k + (run isDig (s.data.toList.drop k)).length = p + z)) (fun i => s.size - (intOf i).toNat)
  case atStart => exact ⟨p, rfl, Nat.le_refl _, Nat.le_of_lt hp, HZ⟩
  case round =>
    obtain ⟨k, rfl, hpk, hk, HK⟩ := hrel
    by_cases hlt : k < s.size
    · have HRA := Lib.hid (run_at (p := isDig) hlt)
      cases hd2 : isDig s[k] with
      | true =>
        have HD2 := Lib.hid hd2
        clear hd2
        go_wp2_with (fail)
        refine (digit_any _ _).mono ?_
        rintro e w1 ⟨rfl, rfl⟩
        rw [HD2.out]
        go_wp2_with (fail)
        go_round
        case rel => exact ⟨k + 1, by go_num, by omega, by omega, Lib.hid (by have h1 := HK.out; rw [HRA.out, HD2.out, if_pos rfl] at h1; omega)⟩
        case measure => simp [intOf]; omega
      | false =>
        have HD2 := Lib.hid hd2
        have hkz : k = p + z := by have h1 := HK.out; rw [HRA.out, hd2, if_neg (by decide)] at h1; omega
        clear hd2
        subst hkz
        clear HK
        go_wp2_with (fail)
        refine (digit_any _ _).mono ?_
        rintro e w1 ⟨rfl, rfl⟩
        rw [HD2.out]
        by_cases h0 : s[p].toNat = 48
        · have q0 : ((s[p].toNat : Nat) : Int) = 48 := by omega
          by_cases h1 : 1 < z
          · have e1 : (1 : Int) < (z : Int) := by omega
            have HF := Lib.hid (show R = badV p 6 by rw [← HR.out]; unfold numW; rw [HFZ.out, HLZ.out, if_pos ⟨by unfold isZero; simp [h0], h1⟩]; rfl)
            clear h0
            go_wp2_with (fail)
            rw [HF.out]
            exact bodyPost_ret (v := badV p 6) (by simp [results, Tryd.results23, go_sem, badV]) rfl ⟨rfl, by first | exact (Only.refl _ _).alloc _ | exact only_four HO.out (Nat.le_refl _) _ _ _ _⟩
          · have e1 : ¬ (1 : Int) < (z : Int) := by omega
            have HNW := Lib.hid (show ∀ a b : Wd, (if first isZero (s.data.toList.drop p) = true ∧ 1 < (run isDig (s.data.toList.drop p)).length then a else b) = b from fun a b => by rw [HLZ.out, if_neg (by rintro ⟨_, h⟩; exact h1 h)])
            clear h0
            have HDZ := Lib.hid (run_all isDig (s.data.toList.drop p))
            obtain ⟨D, hD⟩ : ∃ D, run isDig (s.data.toList.drop p) = D := ⟨_, rfl⟩
            rw [hD] at HDZ
            have HDD := Lib.hid hD
            have HEL := Lib.hid (show (s.extract p (p + z)).data.toList = D by rw [HEX.out, hD])
            have HNE := Lib.hid (show D ≠ [] by have := HLZ.out; rw [hD] at this; intro e; rw [e] at this; simp at this; omega)
            have hxs : (s.extract p (p + z)).size ≤ 100000000 := by have : (s.extract p (p + z)).size ≤ s.size := by simp; omega
                                                                    omega
            have HXS := Lib.hid hxs
            clear hD hxs
            by_cases hb : val D ≤ big
            · have HC := Lib.hid (atoi_ok (s := s.extract p (p + z)) HXS.out (by rw [HEL.out]; exact HDZ.out) (by rw [HEL.out]; exact HNE.out) (by rw [HEL.out]; exact hb))
              have HF := Lib.hid (show R = okV ⟨1, [], val D⟩ p (p + z) by rw [← HR.out]; unfold numW; rw [HNW.out, HDD.out, if_neg (by omega)]; rw [wdV, ← HDD.out, HLZ.out])
              have HEL2 := Lib.hid (show ((val (s.extract p (p + z)).data.toList : Nat) : Int) = (val D : Nat) by rw [HEL.out])
              have hb2 : ((val D : Nat) : Int) ≤ 9223372036854775807 := by unfold big at hb; omega
              clear hb
              go_wp2_with (fail)
              refine (HC.out _).mono ?_
              rintro e w2 ⟨rfl, o⟩
              rw [HEL2.out]
              have HB2 := Lib.hid (o.blk HB.out (by simp))
              have HO2 := Lib.hid (HO.out.trans o (by simp))
              obtain ⟨b0, b1, b2, b3, bl⟩ := HB2.out.facts4
              have f0 := HB2.out.frozen 0
              have f1 := HB2.out.frozen 1
              have f2 := HB2.out.frozen 2
              have f3 := HB2.out.frozen 3
              clear o
              go_wp2_with (fail)
              rw [HF.out]
              exact bodyPost_ret (v := okV ⟨1, [], val D⟩ p (p + z)) (by simp [results, Tryd.results23, go_sem, okV, b0, b1, b2, b3]) rfl ⟨rfl, only_four HO2.out (Nat.le_refl _) _ _ _ _⟩
            · have HC := Lib.hid (atoi_big (s := s.extract p (p + z)) HXS.out (by rw [HEL.out]; exact HDZ.out) (by rw [HEL.out]; exact HNE.out) (by rw [HEL.out]; exact hb) HV.out)
              have HF := Lib.hid (show R = badV p 2 by rw [← HR.out]; unfold numW; rw [HNW.out, HDD.out, if_pos (by omega)]; rfl)
              clear hb
              go_wp2_with (fail)
              refine HC.out.mono ?_
              rintro e w2 ⟨⟨x, N, rfl⟩, o⟩
              have HB2 := Lib.hid (o.blk HB.out (by simp))
              have HO2 := Lib.hid (HO.out.trans o (by simp))
              obtain ⟨b0, b1, b2, b3, bl⟩ := HB2.out.facts4
              have f0 := HB2.out.frozen 0
              have f1 := HB2.out.frozen 1
              have f2 := HB2.out.frozen 2
              have f3 := HB2.out.frozen 3
              clear o
              go_wp2_with (fail)
              rw [HF.out]
              exact bodyPost_ret (v := badV p 2) (by simp [results, Tryd.results23, go_sem, badV, b0, b1, b2, b3]) rfl ⟨rfl, only_four HO2.out (Nat.le_refl _) _ _ _ _⟩
        · have q0 : ¬ ((s[p].toNat : Nat) : Int) = 48 := by omega
          have HNW := Lib.hid (show ∀ a b : Wd, (if first isZero (s.data.toList.drop p) = true ∧ 1 < (run isDig (s.data.toList.drop p)).length then a else b) = b from fun a b => by rw [HFZ.out, if_neg (by rintro ⟨h, _⟩; unfold isZero at h; simp at h; exact h0 h)])
          clear h0
          have HDZ := Lib.hid (run_all isDig (s.data.toList.drop p))
          obtain ⟨D, hD⟩ : ∃ D, run isDig (s.data.toList.drop p) = D := ⟨_, rfl⟩
          rw [hD] at HDZ
          have HDD := Lib.hid hD
          have HEL := Lib.hid (show (s.extract p (p + z)).data.toList = D by rw [HEX.out, hD])
          have HNE := Lib.hid (show D ≠ [] by have := HLZ.out; rw [hD] at this; intro e; rw [e] at this; simp at this; omega)
          have hxs : (s.extract p (p + z)).size ≤ 100000000 := by have : (s.extract p (p + z)).size ≤ s.size := by simp; omega
                                                                  omega
          have HXS := Lib.hid hxs
          clear hD hxs
          by_cases hb : val D ≤ big
          · have HC := Lib.hid (atoi_ok (s := s.extract p (p + z)) HXS.out (by rw [HEL.out]; exact HDZ.out) (by rw [HEL.out]; exact HNE.out) (by rw [HEL.out]; exact hb))
            have HF := Lib.hid (show R = okV ⟨1, [], val D⟩ p (p + z) by rw [← HR.out]; unfold numW; rw [HNW.out, HDD.out, if_neg (by omega)]; rw [wdV, ← HDD.out, HLZ.out])
            have HEL2 := Lib.hid (show ((val (s.extract p (p + z)).data.toList : Nat) : Int) = (val D : Nat) by rw [HEL.out])
            have hb2 : ((val D : Nat) : Int) ≤ 9223372036854775807 := by unfold big at hb; omega
            clear hb
            go_wp2_with (fail)
            refine (HC.out _).mono ?_
            rintro e w2 ⟨rfl, o⟩
            rw [HEL2.out]
            have HB2 := Lib.hid (o.blk HB.out (by simp))
            have HO2 := Lib.hid (HO.out.trans o (by simp))
            obtain ⟨b0, b1, b2, b3, bl⟩ := HB2.out.facts4
            have f0 := HB2.out.frozen 0
            have f1 := HB2.out.frozen 1
            have f2 := HB2.out.frozen 2
            have f3 := HB2.out.frozen 3
            clear o
            go_wp2_with (fail)
            rw [HF.out]
            exact bodyPost_ret (v := okV ⟨1, [], val D⟩ p (p + z)) (by simp [results, Tryd.results23, go_sem, okV, b0, b1, b2, b3]) rfl ⟨rfl, only_four HO2.out (Nat.le_refl _) _ _ _ _⟩
          · have HC := Lib.hid (atoi_big (s := s.extract p (p + z)) HXS.out (by rw [HEL.out]; exact HDZ.out) (by rw [HEL.out]; exact HNE.out) (by rw [HEL.out]; exact hb) HV.out)
            have HF := Lib.hid (show R = badV p 2 by rw [← HR.out]; unfold numW; rw [HNW.out, HDD.out, if_pos (by omega)]; rfl)
            clear hb
            go_wp2_with (fail)
            refine HC.out.mono ?_
            rintro e w2 ⟨⟨x, N, rfl⟩, o⟩
            have HB2 := Lib.hid (o.blk HB.out (by simp))
            have HO2 := Lib.hid (HO.out.trans o (by simp))
            obtain ⟨b0, b1, b2, b3, bl⟩ := HB2.out.facts4
            have f0 := HB2.out.frozen 0
            have f1 := HB2.out.frozen 1
            have f2 := HB2.out.frozen 2
            have f3 := HB2.out.frozen 3
            clear o
            go_wp2_with (fail)
            rw [HF.out]
            exact bodyPost_ret (v := badV p 2) (by simp [results, Tryd.results23, go_sem, badV, b0, b1, b2, b3]) rfl ⟨rfl, only_four HO2.out (Nat.le_refl _) _ _ _ _⟩
    · have hks : k = s.size := by omega
      have hkz : k = p + z := by have h1 := HK.out; rw [hks, run_end] at h1; omega
      clear hks
      subst hkz
      clear HK
      by_cases h0 : s[p].toNat = 48
      · have q0 : ((s[p].toNat : Nat) : Int) = 48 := by omega
        by_cases h1 : 1 < z
        · have e1 : (1 : Int) < (z : Int) := by omega
          have HF := Lib.hid (show R = badV p 6 by rw [← HR.out]; unfold numW; rw [HFZ.out, HLZ.out, if_pos ⟨by unfold isZero; simp [h0], h1⟩]; rfl)
          clear h0
          go_wp2_with (fail)
          rw [HF.out]
          exact bodyPost_ret (v := badV p 6) (by simp [results, Tryd.results23, go_sem, badV]) rfl ⟨rfl, by first | exact (Only.refl _ _).alloc _ | exact only_four HO.out (Nat.le_refl _) _ _ _ _⟩
        · have e1 : ¬ (1 : Int) < (z : Int) := by omega
          have HNW := Lib.hid (show ∀ a b : Wd, (if first isZero (s.data.toList.drop p) = true ∧ 1 < (run isDig (s.data.toList.drop p)).length then a else b) = b from fun a b => by rw [HLZ.out, if_neg (by rintro ⟨_, h⟩; exact h1 h)])
          clear h0
          have HDZ := Lib.hid (run_all isDig (s.data.toList.drop p))
          obtain ⟨D, hD⟩ : ∃ D, run isDig (s.data.toList.drop p) = D := ⟨_, rfl⟩
          rw [hD] at HDZ
          have HDD := Lib.hid hD
          have HEL := Lib.hid (show (s.extract p (p + z)).data.toList = D by rw [HEX.out, hD])
          have HNE := Lib.hid (show D ≠ [] by have := HLZ.out; rw [hD] at this; intro e; rw [e] at this; simp at this; omega)
          have hxs : (s.extract p (p + z)).size ≤ 100000000 := by have : (s.extract p (p + z)).size ≤ s.size := by simp; omega
                                                                  omega
          have HXS := Lib.hid hxs
          clear hD hxs
          by_cases hb : val D ≤ big
          · have HC := Lib.hid (atoi_ok (s := s.extract p (p + z)) HXS.out (by rw [HEL.out]; exact HDZ.out) (by rw [HEL.out]; exact HNE.out) (by rw [HEL.out]; exact hb))
            have HF := Lib.hid (show R = okV ⟨1, [], val D⟩ p (p + z) by rw [← HR.out]; unfold numW; rw [HNW.out, HDD.out, if_neg (by omega)]; rw [wdV, ← HDD.out, HLZ.out])
            have HEL2 := Lib.hid (show ((val (s.extract p (p + z)).data.toList : Nat) : Int) = (val D : Nat) by rw [HEL.out])
            have hb2 : ((val D : Nat) : Int) ≤ 9223372036854775807 := by unfold big at hb; omega
            clear hb
            go_wp2_with (fail)
            refine (HC.out _).mono ?_
            rintro e w2 ⟨rfl, o⟩
            rw [HEL2.out]
            have HB2 := Lib.hid (o.blk HB.out (by simp))
            have HO2 := Lib.hid (HO.out.trans o (by simp))
            obtain ⟨b0, b1, b2, b3, bl⟩ := HB2.out.facts4
            have f0 := HB2.out.frozen 0
            have f1 := HB2.out.frozen 1
            have f2 := HB2.out.frozen 2
            have f3 := HB2.out.frozen 3
            clear o
            go_wp2_with (fail)
            rw [HF.out]
            exact bodyPost_ret (v := okV ⟨1, [], val D⟩ p (p + z)) (by simp [results, Tryd.results23, go_sem, okV, b0, b1, b2, b3]) rfl ⟨rfl, only_four HO2.out (Nat.le_refl _) _ _ _ _⟩
          · have HC := Lib.hid (atoi_big (s := s.extract p (p + z)) HXS.out (by rw [HEL.out]; exact HDZ.out) (by rw [HEL.out]; exact HNE.out) (by rw [HEL.out]; exact hb) HV.out)
            have HF := Lib.hid (show R = badV p 2 by rw [← HR.out]; unfold numW; rw [HNW.out, HDD.out, if_pos (by omega)]; rfl)
            clear hb
            go_wp2_with (fail)
            refine HC.out.mono ?_
            rintro e w2 ⟨⟨x, N, rfl⟩, o⟩
            have HB2 := Lib.hid (o.blk HB.out (by simp))
            have HO2 := Lib.hid (HO.out.trans o (by simp))
            obtain ⟨b0, b1, b2, b3, bl⟩ := HB2.out.facts4
            have f0 := HB2.out.frozen 0
            have f1 := HB2.out.frozen 1
            have f2 := HB2.out.frozen 2
            have f3 := HB2.out.frozen 3
            clear o
            go_wp2_with (fail)
            rw [HF.out]
            exact bodyPost_ret (v := badV p 2) (by simp [results, Tryd.results23, go_sem, badV, b0, b1, b2, b3]) rfl ⟨rfl, only_four HO2.out (Nat.le_refl _) _ _ _ _⟩
      · have q0 : ¬ ((s[p].toNat : Nat) : Int) = 48 := by omega
        have HNW := Lib.hid (show ∀ a b : Wd, (if first isZero (s.data.toList.drop p) = true ∧ 1 < (run isDig (s.data.toList.drop p)).length then a else b) = b from fun a b => by rw [HFZ.out, if_neg (by rintro ⟨h, _⟩; unfold isZero at h; simp at h; exact h0 h)])
        clear h0
        have HDZ := Lib.hid (run_all isDig (s.data.toList.drop p))
        obtain ⟨D, hD⟩ : ∃ D, run isDig (s.data.toList.drop p) = D := ⟨_, rfl⟩
        rw [hD] at HDZ
        have HDD := Lib.hid hD
        have HEL := Lib.hid (show (s.extract p (p + z)).data.toList = D by rw [HEX.out, hD])
        have HNE := Lib.hid (show D ≠ [] by have := HLZ.out; rw [hD] at this; intro e; rw [e] at this; simp at this; omega)
        have hxs : (s.extract p (p + z)).size ≤ 100000000 := by have : (s.extract p (p + z)).size ≤ s.size := by simp; omega
                                                                omega
        have HXS := Lib.hid hxs
        clear hD hxs
        by_cases hb : val D ≤ big
        · have HC := Lib.hid (atoi_ok (s := s.extract p (p + z)) HXS.out (by rw [HEL.out]; exact HDZ.out) (by rw [HEL.out]; exact HNE.out) (by rw [HEL.out]; exact hb))
          have HF := Lib.hid (show R = okV ⟨1, [], val D⟩ p (p + z) by rw [← HR.out]; unfold numW; rw [HNW.out, HDD.out, if_neg (by omega)]; rw [wdV, ← HDD.out, HLZ.out])
          have HEL2 := Lib.hid (show ((val (s.extract p (p + z)).data.toList : Nat) : Int) = (val D : Nat) by rw [HEL.out])
          have hb2 : ((val D : Nat) : Int) ≤ 9223372036854775807 := by unfold big at hb; omega
          clear hb
          go_wp2_with (fail)
          refine (HC.out _).mono ?_
          rintro e w2 ⟨rfl, o⟩
          rw [HEL2.out]
          have HB2 := Lib.hid (o.blk HB.out (by simp))
          have HO2 := Lib.hid (HO.out.trans o (by simp))
          obtain ⟨b0, b1, b2, b3, bl⟩ := HB2.out.facts4
          have f0 := HB2.out.frozen 0
          have f1 := HB2.out.frozen 1
          have f2 := HB2.out.frozen 2
          have f3 := HB2.out.frozen 3
          clear o
          go_wp2_with (fail)
          rw [HF.out]
          exact bodyPost_ret (v := okV ⟨1, [], val D⟩ p (p + z)) (by simp [results, Tryd.results23, go_sem, okV, b0, b1, b2, b3]) rfl ⟨rfl, only_four HO2.out (Nat.le_refl _) _ _ _ _⟩
        · have HC := Lib.hid (atoi_big (s := s.extract p (p + z)) HXS.out (by rw [HEL.out]; exact HDZ.out) (by rw [HEL.out]; exact HNE.out) (by rw [HEL.out]; exact hb) HV.out)
          have HF := Lib.hid (show R = badV p 2 by rw [← HR.out]; unfold numW; rw [HNW.out, HDD.out, if_pos (by omega)]; rfl)
          clear hb
          go_wp2_with (fail)
          refine HC.out.mono ?_
          rintro e w2 ⟨⟨x, N, rfl⟩, o⟩
          have HB2 := Lib.hid (o.blk HB.out (by simp))
          have HO2 := Lib.hid (HO.out.trans o (by simp))
          obtain ⟨b0, b1, b2, b3, bl⟩ := HB2.out.facts4
          have f0 := HB2.out.frozen 0
          have f1 := HB2.out.frozen 1
          have f2 := HB2.out.frozen 2
          have f3 := HB2.out.frozen 3
          clear o
          go_wp2_with (fail)
          rw [HF.out]
          exact bodyPost_ret (v := badV p 2) (by simp [results, Tryd.results23, go_sem, badV, b0, b1, b2, b3]) rfl ⟨rfl, only_four HO2.out (Nat.le_refl _) _ _ _ _⟩
end Go.Proofs.YtghofiehkdhbeaaDoor
