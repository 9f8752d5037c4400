/- The reference's numbers, walked: From, Cmp, trim. -/
import Derived.Test.YtcggeogpanackaaNumLaw
import Derived.Test.YtcggeogpanackaaSmall
namespace Go.Proofs.Ytcggeogpanackaa
open Go.RowKit Go.Kx
set_option maxRecDepth 20000

/-- a slice of ints that reads as these places -/
def Nums (w : World) (A : Option Addr) (L : List Nat) : Prop :=
  ∀ (i d : Nat), L[i]? = some d → ∃ b o, A = some ⟨b, o, none⟩ ∧ b < w.heap.size ∧ w.cell? ⟨b, o + i, none⟩ = some (.int .i64 d)
theorem Nums.only {w w' : World} {A : Option Addr} {L : List Nat} (h : Nums w A L) (ho : Only [] w w') : Nums w' A L := fun i d hd => by
  obtain ⟨b, o, hA, hb, h0⟩ := h i d hd
  have := ho.size
  exact ⟨b, o, hA, by omega, (ho.cell (p := ⟨b, _, none⟩) hb (by simp)).trans h0⟩
theorem Nums.nil (w : World) (A : Option Addr) : Nums w A [] := fun i d h => by simp at h
theorem Nums.take {w : World} {A : Option Addr} {L : List Nat} (h : Nums w A L) (k : Nat) : Nums w A (L.take k) := fun i d hd => h i d (by
  rw [List.getElem?_take] at hd
  split at hd
  · exact hd
  · cases hd)
/-- a value that is the number n -/
def Nm (w : World) (v : Value) (n : Nat) : Prop := ∃ A c, v = .slice A (toD n).length c ∧ Nums w A (toD n) ∧ (toD n).length ≤ c ∧ c ≤ maxLen
theorem Nm.only {w w' : World} {v : Value} {n : Nat} (h : Nm w v n) (ho : Only [] w w') : Nm w' v n := by
  obtain ⟨A, c, hv, hn, hc⟩ := h
  exact ⟨A, c, hv, hn.only ho, hc⟩

def intsV (L : List Nat) : List Value := L.map fun (d : Nat) => Value.int .i64 (d : Int)
theorem intsV_snoc (L : List Nat) (d : Nat) : intsV (L ++ [d]) = intsV L ++ [.int .i64 (d : Int)] := by simp [intsV]
theorem intsV_length (L : List Nat) : (intsV L).length = L.length := by simp [intsV]

theorem own_nums {w : World} {v : Value} {L : List Nat} (h : w.ownsRow 0 3 1 v L.length (intsV L)) : ∃ A c, v = .slice A L.length c ∧ Nums w A L ∧ L.length ≤ c ∧ c ≤ maxLen := by
  obtain ⟨_, h | ⟨g, cap, cur, rfl, _, hh, hn, hm, hs, ht⟩⟩ := h
  · obtain ⟨rfl, h0⟩ := h
    have : L = [] := List.length_eq_zero_iff.1 h0
    subst this
    exact ⟨none, 0, rfl, Nums.nil _ _, Nat.le_refl _, by unfold maxLen; omega⟩
  · refine ⟨_, cap, rfl, fun i d hd => ⟨g, 0, rfl, Blk.lt (t := 3) (cs := cur) hh, ?_⟩, hn, hm⟩
    have hi : i < L.length := (List.getElem?_eq_some_iff.1 hd).1
    rw [Blk.cell (t := 3) (cs := cur) hh, Nat.zero_add]
    have e : (cur.toList.take (L.length * 1))[i]? = (intsV L)[i]? := by rw [ht]
    rw [List.getElem?_take_of_lt (by omega), Array.getElem?_toList] at e
    rw [e]
    simp [intsV, hd]

/-- what a loop that appends holds of its slice -/
def Out (w wr : World) (v : Value) (L : List Nat) : Prop := wr.ownsRow 0 3 1 v L.length (intsV L) ∧ (∀ g, v.ownBlock = some g → w.heap.size ≤ g) ∧ Only [] w wr
theorem Out.start (w wr : World) (h : Only [] w wr) : Out w wr (.slice none 0 0) [] := ⟨⟨rfl, .inl ⟨rfl, rfl⟩⟩, fun g h => by simp [Value.ownBlock] at h, h⟩
theorem Out.run {w wr : World} {v : Value} {L : List Nat} (h : Out w wr v L) (hl : L.length ≤ 1000000) (d : Nat) :
    ∃ v' w1, (Builtin.append_ #[84, 84] 84 #[v, .slice (some ⟨wr.heap.size, 0, none⟩) 1 1]).run Try.prog (wr.alloc (.cells #[.int .i64 (d : Int)] 3)) = .ok v' w1 ∧ Out w w1 v' (L ++ [d]) ∧ Only v.ownBlock.toList wr w1 := by
  obtain ⟨h1, h2, h3⟩ := h
  obtain ⟨g, cap, w1, hr, ho, hO, hg⟩ := run_append1 (P := Try.prog) (t := 84) (e := 3) 3 84 Try.underlying84 (z := .int .i64 0) (bytes := 8) (by kernel_rfl) rfl h1 (.int .i64 (d : Int)) rfl (by unfold maxLen; omega) (by omega)
  have hs := h3.size
  refine ⟨_, w1, hr, ⟨?_, fun g' hg' => ?_, h3.trans hO (fun x hx => .inr ?_)⟩, hO⟩
  · rw [List.length_append, intsV_snoc]; exact ho
  · simp [Value.ownBlock] at hg'
    subst hg'
    rcases hg with hg | hg
    · exact h2 _ hg
    · omega
  · cases hv : v.ownBlock with
    | none => rw [hv] at hx; simp at hx
    | some y => rw [hv] at hx; simp at hx; subst hx; exact h2 _ hv
theorem Out.drewN {w wr : World} {v : Value} {L : List Nat} (h : Out w wr v L) (n : Nat) : Out w (wr.drewN n) v L := ⟨h.1, h.2.1, h.2.2.drewN n⟩
theorem Out.nm {w wr : World} {v : Value} {L : List Nat} {n : Nat} (h : Out w wr v L) (e : L = toD n) : Nm wr v n := by
  subst e
  exact own_nums h.1

theorem pow_succ_div (N k : Nat) : N / 10000 ^ k / 10000 = N / 10000 ^ (k + 1) := by rw [Nat.pow_succ, Nat.div_div_eq_div_mul]

set_option maxHeartbeats 1000000 in
theorem from_any (N : Nat) (h : N ≤ 9223372036854775807) (w : World) : Calls Try.prog 45 #[.int .i64 N] w fun e w' => ∃ v, e = .returned v ∧ Nm w' v N ∧ Only [] w w' := by
  have hb : N < 10000 ^ 5 := by omega
  have HB := Lib.hid hb
  have H := Lib.hid h
  clear hb h
  go_enter Try.func45, Try.ntmps45
  go_wp2_with (fail)
  go_loopw [0, 3] (fun x v wr => ∃ k : Nat, x = .int .i64 ((N / 10000 ^ k : Nat) : Int) ∧ (k = 0 ∨ 10000 ^ (k - 1) ≤ N) ∧ Out w wr v (firstD N k)) (fun x _ _ => (intOf x).toNat)
  case atStart => exact ⟨0, by simp, .inl rfl, Out.start w w (Only.refl _ _)⟩
  case round =>
    obtain ⟨k, rfl, hk, ho⟩ := hrel
    have hks : k ≤ 5 := by
      rcases hk with hk | hk
      · omega
      · have := HB.out
        rcases Nat.lt_or_ge 5 k with h5 | h5
        · have : 10000 ^ 5 ≤ 10000 ^ (k - 1) := Nat.pow_le_pow_right (by omega) (by omega)
          omega
        · exact h5
    have hle := Nat.div_le_self N (10000 ^ k)
    have hn := H.out
    have hsucc := pow_succ_div N k
    by_cases hz : N / 10000 ^ k = 0
    · have HO := Lib.hid ho
      have hlt : N < 10000 ^ k := by
        rcases Nat.lt_or_ge N (10000 ^ k) with h1 | h1
        · exact h1
        · have := Nat.div_pos h1 (pow_pos_ k); omega
      rw [hz]
      have HK := Lib.hid hk
      clear ho hsucc hz hk
      go_wp2_with (fail)
      go_ret
      exact ⟨_, rfl, HO.out.nm (firstD_eq hlt HK.out), HO.out.2.2⟩
    · obtain ⟨v', w1, hrun, ho1, _⟩ := ho.run (by rw [firstD_length]; omega) (N / 10000 ^ k % 10000)
      rw [← firstD_succ] at ho1
      have hge : 10000 ^ k ≤ N := by
        rcases Nat.lt_or_ge N (10000 ^ k) with h1 | h1
        · exact absurd (Nat.div_eq_of_lt h1) hz
        · exact h1
      have HS := Lib.hid hsucc
      have HG := Lib.hid hge
      have HO1 := Lib.hid ho1
      clear hk ho ho1 hsucc hge
      generalize N / 10000 ^ k = y at *
      have hy : (0 : Int) < (y : Int) := by omega
      have hy2 : (y : Int) ≤ 9223372036854775807 := by omega
      go_wp2_with (at_builtin; refine wpList_append_run hrun rfl _ _ rfl rfl rfl rfl ?_)
      go_roundw
      case rel => exact ⟨k + 1, by rw [← HS.out]; go_num, .inr (by simpa using HG.out), HO1.out⟩
      case measure => simp [intOf]; omega

/-- the order of two numbers -/
def cmpN (a b : Nat) : Int := if a < b then -1 else if a = b then 0 else 1
theorem lt_of_len {a b : Nat} (h : (toD a).length < (toD b).length) : a < b := by
  have h1 := lt_pow_len a
  have h2 := (toD_len b (toD a).length).1 h
  omega
theorem div_low (a k : Nat) : a / 10000 ^ k = 10000 * (a / 10000 ^ (k + 1)) + a / 10000 ^ k % 10000 := by
  rw [← pow_succ_div]; exact (Nat.div_add_mod _ _).symm
theorem lt_of_div {a b P : Nat} (h : a / P < b / P) : a < b := by
  rcases Nat.lt_or_ge a b with h1 | h1
  · exact h1
  · have := Nat.div_le_div_right (c := P) h1; omega

set_option maxHeartbeats 1000000 in
theorem cmpn_any {a b : Nat} {w : World} {x y : Value} (hx : Nm w x a) (hy : Nm w y b) (ha : (toD a).length ≤ 1000) (hb : (toD b).length ≤ 1000) :
    Calls Try.prog 46 #[x, y] w fun e w' => e = .returned (.int .i64 (cmpN a b)) ∧ Only [] w w' := by
  obtain ⟨A, ca, rfl, nA, _⟩ := hx
  obtain ⟨B, cb, rfl, nB, _⟩ := hy
  rcases Nat.lt_trichotomy (toD a).length (toD b).length with hl | hl | hl
  · have hab := lt_of_len hl
    have e : cmpN a b = -1 := by unfold cmpN; rw [if_pos hab]
    rw [e]
    clear nA nB e hab
    go_enter Try.func46, Try.ntmps46
    go_wp2_with (fail)
    go_ret
    exact ⟨rfl, Only.refl _ _⟩
  · rw [← hl]
    have HL := Lib.hid hl
    have NA := Lib.hid nA
    have NB := Lib.hid nB
    clear hl nA nB hb
    go_enter Try.func46, Try.ntmps46
    go_wp2_with (fail)
    go_loopw [5] (fun i wr => ∃ k : Nat, i = .int .i64 ((k : Int) - 1) ∧ k ≤ (toD a).length ∧ a / 10000 ^ k = b / 10000 ^ k ∧ Only [] w wr) (fun i _ => (intOf i + 1).toNat)
    case atStart =>
      refine ⟨(toD a).length, rfl, Nat.le_refl _, ?_, Only.refl _ _⟩
      rw [Nat.div_eq_of_lt (lt_pow_len a), Nat.div_eq_of_lt (by rw [HL.out]; exact lt_pow_len b)]
    case round =>
      obtain ⟨k, rfl, hk, he, ho⟩ := hrel
      have HO := Lib.hid ho
      clear ho
      cases k with
      | zero =>
        rw [Nat.pow_zero, Nat.div_one, Nat.div_one] at he
        have e : cmpN a b = 0 := by unfold cmpN; rw [if_neg (by omega), if_pos he]
        have HC := Lib.hid e
        clear he e
        go_wp2_with (fail)
        go_ret
        exact ⟨by rw [HC.out]; rfl, HO.out⟩
      | succ j =>
        have ej : ((j + 1 : Nat) : Int) - 1 = (j : Int) := by omega
        rw [ej]
        have d1 := div_low a j
        have d2 := div_low b j
        obtain ⟨ba, oa, rfl, _, c0⟩ := (NA.out.only HO.out) j _ (toD_some (by omega))
        obtain ⟨bb, ob, rfl, _, c1⟩ := (NB.out.only HO.out) j _ (toD_some (by rw [← HL.out]; omega))
        have hj : (j : Int) < ((toD a).length : Int) := by omega
        generalize hda : a / 10000 ^ j % 10000 = da at *
        generalize hdb : b / 10000 ^ j % 10000 = db at *
        have cases3 : (da < db ∧ cmpN a b = -1) ∨ (db < da ∧ cmpN a b = 1) ∨ (da = db ∧ a / 10000 ^ j = b / 10000 ^ j) := by
          rcases Nat.lt_trichotomy da db with h | h | h
          · have : a < b := lt_of_div (P := 10000 ^ j) (by omega)
            exact .inl ⟨h, by unfold cmpN; rw [if_pos this]⟩
          · exact .inr (.inr ⟨h, by omega⟩)
          · have : b < a := lt_of_div (P := 10000 ^ j) (by omega)
            exact .inr (.inl ⟨h, by unfold cmpN; rw [if_neg (by omega), if_neg (by omega)]⟩)
        clear d1 d2 he hda hdb ej
        rcases cases3 with ⟨hlt, hc⟩ | ⟨hlt, hc⟩ | ⟨rfl, hc⟩
        · have HC := Lib.hid hc
          clear hc
          have t1 : decide ((da : Int) < (db : Int)) = true := by simp; omega
          go_wp2_with (fail)
          go_quiet (fail)
          go_wp2_with (fail)
          go_ret
          exact ⟨by rw [HC.out]; rfl, by first | exact HO.out.drewN _ | exact (HO.out.drewN _).drewN _⟩
        · have HC := Lib.hid hc
          clear hc
          have t1 : decide ((da : Int) < (db : Int)) = false := by simp; omega
          have t2 : decide ((db : Int) < (da : Int)) = true := by simp; omega
          go_wp2_with (fail)
          go_quiet (fail)
          go_wp2_with (fail)
          go_quiet (fail)
          go_wp2_with (fail)
          go_ret
          exact ⟨by rw [HC.out]; rfl, by first | exact HO.out.drewN _ | exact (HO.out.drewN _).drewN _⟩
        · have HC := Lib.hid hc
          clear hc
          go_wp2_with (fail)
          go_quiet (fail)
          go_wp2_with (fail)
          go_quiet (fail)
          go_wp2_with (fail)
          go_roundw
          case rel => exact ⟨j, rfl, by omega, HC.out, by first | exact HO.out.drewN _ | exact (HO.out.drewN _).drewN _⟩
          case measure => first | (simp [intOf]; done) | (simp [intOf]; omega)
  · have hab := lt_of_len hl
    have e : cmpN a b = 1 := by unfold cmpN; rw [if_neg (by omega), if_neg (by omega)]
    rw [e]
    clear nA nB e hab
    go_enter Try.func46, Try.ntmps46
    go_wp2_with (fail)
    go_ret
    exact ⟨rfl, Only.refl _ _⟩

theorem dv_take_last {L : List Nat} {k : Nat} (hk : k < L.length) (h0 : L[k]? = some 0) : dv (L.take (k + 1)) = dv (L.take k) := by
  obtain ⟨h, e⟩ := List.getElem?_eq_some_iff.1 h0
  rw [List.take_succ_eq_append_getElem h, e, dv_snoc]; omega

set_option maxHeartbeats 1000000 in
theorem trim_keep {A : Option Addr} {c : Nat} {L : List Nat} {w : World} (hA : Nums w A L) (hL : ∀ d ∈ L, d < 10000) (hc : L.length ≤ c) (hcm : c ≤ maxLen) (hl : L.length ≤ 1000) :
    Calls Try.prog 59 #[.slice A L.length c] w fun e w' => e = .returned (.slice A (toD (dv L)).length c) ∧ (∃ k, toD (dv L) = L.take k) ∧ w' = w := by
  unfold maxLen at hcm
  have NA := Lib.hid hA
  have HD := Lib.hid hL
  clear hA hL
  go_enter Try.func59, Try.ntmps59
  go_wp2_with (fail)
  go_loopw [0] (fun v wr => ∃ k : Nat, v = .slice A k c ∧ k ≤ L.length ∧ dv (L.take k) = dv L ∧ wr = w) (fun v _ => match v with | .slice _ n _ => n | _ => 0)
  case atStart => exact ⟨L.length, rfl, Nat.le_refl _, by rw [List.take_length], rfl⟩
  case round =>
    obtain ⟨k, rfl, hk, he, rfl⟩ := hrel
    cases k with
    | zero =>
      have h0 : toD (dv L) = [] := by
        rw [← he]; simp [dv, toD_zero]
      clear he
      go_wp2_with (fail)
      go_ret
      exact ⟨by rw [h0]; rfl, ⟨0, by rw [h0]; rfl⟩, rfl⟩
    | succ j =>
      have hj : j < L.length := by omega
      obtain ⟨d, hd⟩ : ∃ d, L[j]? = some d := ⟨_, List.getElem?_eq_getElem hj⟩
      obtain ⟨b, o, rfl, hb, c0⟩ := NA.out j d hd
      have ej : ((j + 1 : Nat) : Int) - 1 = (j : Int) := by omega
      have ej2 : ((j : Int) + 1) - 1 = (j : Int) := by omega
      by_cases h0 : d = 0
      · subst h0
        have he' := (dv_take_last hj hd).symm.trans he
        have HE := Lib.hid he'
        clear he he' hd
        go_wp2_with (fail)
        go_roundw
        case rel => exact ⟨j, rfl, by omega, HE.out, by first | rfl | trivial⟩
        case measure => simp
      · have hd0 : ((d : Int) == 0) = false := by simp; omega
        have hT : toD (dv L) = L.take (j + 1) := by
          rw [← he]
          refine toD_dv (fun x hx => HD.out x (List.mem_of_mem_take hx)) ?_
          obtain ⟨h, e⟩ := List.getElem?_eq_some_iff.1 hd
          rw [List.take_succ_eq_append_getElem h, e]
          simp; exact h0
        have HT := Lib.hid hT
        clear he hd hT
        go_wp2_with (fail)
        go_ret
        exact ⟨by rw [HT.out, List.length_take, Nat.min_eq_left (by omega)]; rfl, ⟨j + 1, HT.out⟩, rfl⟩
theorem trim_any {A : Option Addr} {c : Nat} {L : List Nat} {w : World} (hA : Nums w A L) (hL : ∀ d ∈ L, d < 10000) (hc : L.length ≤ c) (hcm : c ≤ maxLen) (hl : L.length ≤ 1000) :
    Calls Try.prog 59 #[.slice A L.length c] w fun e w' => ∃ v, e = .returned v ∧ Nm w' v (dv L) ∧ Only [] w w' :=
  (trim_keep hA hL hc hcm hl).mono fun e w' ⟨he, ⟨k, hk⟩, hw⟩ => by
    subst hw
    refine ⟨_, he, ⟨A, c, rfl, by rw [hk]; exact hA.take k, ?_, hcm⟩, Only.refl _ _⟩
    rw [hk, List.length_take]; omega
end Go.Proofs.Ytcggeogpanackaa
