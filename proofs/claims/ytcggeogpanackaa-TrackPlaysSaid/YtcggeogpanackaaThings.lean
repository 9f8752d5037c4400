/- What entries keep; a row of numbers turned round. -/
import Derived.Test.YtcggeogpanackaaAhead
import Derived.Test.YtcggeogpanackaaFacts2
namespace Go.Proofs.Ytcggeogpanackaa
open Go.RowKit Go.Kx
set_option maxRecDepth 20000

/-- a row of numbers, made since -/
def IntsAt (w : World) (B : Nat) (v : Value) (xs : List Int) : Prop :=
  (v = .slice none 0 0 ∧ xs = []) ∨ ∃ h, v = .slice (some ⟨h, 0, none⟩) xs.length xs.length ∧ B ≤ h ∧ Blk w h 3 (xs.map (Value.int .i64)).toArray
/-- a part of a row of entries -/
def Part (w : World) (A : Option Addr) (M : List En) : Prop :=
  ∀ i e, M[i]? = some e → ∃ b o, A = some ⟨b, o, none⟩ ∧ b < w.heap.size ∧ w.cell? ⟨b, o + i * 4, none⟩ = some (.int .i64 e.1.1.1) ∧ w.cell? ⟨b, o + i * 4 + 1, none⟩ = some (.int .i64 e.1.1.2) ∧ w.cell? ⟨b, o + i * 4 + 2, none⟩ = some (.int .i64 e.1.2) ∧ w.cell? ⟨b, o + i * 4 + 3, none⟩ = some (.int .i64 e.2)
theorem Part.only {w w' : World} {A : Option Addr} {M : List En} (h : Part w A M) (ho : Only [] w w') : Part w' A M := fun i e he => by
  obtain ⟨b, o, hA, hb, h0, h1, h2, h3⟩ := h i e he
  have := ho.size
  exact ⟨b, o, hA, by omega, (ho.cell (p := ⟨b, _, none⟩) hb (by simp)).trans h0, (ho.cell (p := ⟨b, _, none⟩) hb (by simp)).trans h1, (ho.cell (p := ⟨b, _, none⟩) hb (by simp)).trans h2, (ho.cell (p := ⟨b, _, none⟩) hb (by simp)).trans h3⟩
def fill (xs : List Int) (k n : Nat) : Array Value := ((xs.take k).map (Value.int .i64) ++ List.replicate (n - k) (Value.int .i64 0)).toArray
theorem fill_size {xs : List Int} {k n : Nat} (hk : k ≤ n) (hn : xs.length = n) : (fill xs k n).size = n := by simp [fill]; omega
theorem fill_zero (xs : List Int) (n : Nat) : fill xs 0 n = zeros (.int .i64 0) n := by simp [fill, zeros]
theorem fill_all {xs : List Int} {n : Nat} (hn : xs.length = n) : fill xs n n = (xs.map (Value.int .i64)).toArray := by subst hn; simp [fill]
theorem fill_set {xs : List Int} {k n : Nat} (hk : k < n) (hn : xs.length = n) : (fill xs k n).setIfInBounds k (.int .i64 (xs[k]'(by omega))) = fill xs (k + 1) n := by
  apply Array.ext
  · rw [Array.size_setIfInBounds, fill_size (by omega) hn, fill_size (by omega) hn]
  · intro i h1 h2
    rw [Array.size_setIfInBounds, fill_size (by omega) hn] at h1
    rw [Array.getElem_setIfInBounds (by rw [fill_size (by omega) hn]; exact h1)]
    simp only [fill, List.getElem_toArray]
    by_cases e : k = i
    · subst e
      rw [if_pos rfl, List.getElem_append_left (by simp; omega), List.getElem_map, List.getElem_take]
    · rw [if_neg e]
      by_cases hl : i < k
      · rw [List.getElem_append_left (by simp; omega), List.getElem_append_left (by simp; omega), List.getElem_map, List.getElem_map, List.getElem_take, List.getElem_take]
      · rw [List.getElem_append_right (by simp; omega), List.getElem_append_right (by simp; omega), List.getElem_replicate, List.getElem_replicate]

set_option maxHeartbeats 2000000 in
theorem things_any {w : World} {A : Option Addr} {M : List En} {c n : Nat} (hM : Part w A M) (hn : n = M.length) (h20 : n ≤ 1048576) :
    Calls Try.prog 36 #[.slice A n c] w fun e w' => ∃ v, e = .returned v ∧ IntsAt w' w.heap.size v (M.map (·.2)) ∧ Only [] w w' := by
  by_cases h0 : n = 0
  · have hm : M = [] := List.eq_nil_of_length_eq_zero (by omega)
    subst h0
    subst hm
    clear hM hn h20
    go_enter Try.func36, Try.ntmps36
    go_wp2_with (fail)
    go_ret
    exact ⟨_, rfl, .inl ⟨rfl, rfl⟩, Only.refl _ _⟩
  · have hd : decide ((n : Int) = 0) = false := by simp; omega
    have hd' : ((n : Int) == 0) = false := by simp; omega
    have hmk : ∀ W : World, (Instr.makeSlice 47 (.int .i64 (n : Int)) (.int .i64 (n : Int))).run Try.prog W = .ok (.slice (some ⟨W.heap.size, 0, none⟩) n n) (W.alloc (.cells (zeros (.int .i64 0) n) 3)) :=
      fun W => run_make_one (P := Try.prog) 47 3 Try.underlying47 (z := .int .i64 0) (bytes := 8) (by kernel_rfl) rfl .i64 .i64 n (by omega) (by omega) W
    obtain ⟨W0, hW0⟩ : ∃ W0, w.alloc (.cells (zeros (.int .i64 0) n) 3) = W0 := ⟨_, rfl⟩
    have hmk0 := hmk w
    rw [hW0] at hmk0
    have hb0 : Blk W0 w.heap.size 3 (fill (M.map (·.2)) 0 n) := by rw [fill_zero, ← hW0]; exact Blk.new _ _ _
    have ho0 : Only [] w W0 := by rw [← hW0]; exact (Only.refl _ _).alloc _
    have HP := Lib.hid hM
    have HN := Lib.hid hn
    clear hM hmk hW0 hn
    go_enter Try.func36, Try.ntmps36
    go_wp2_with (fail)
    go_loopw [14] (fun i wr => ∃ k : Nat, i = .int .i64 k ∧ k ≤ n ∧ Blk wr w.heap.size 3 (fill (M.map (·.2)) k n) ∧ Only [] w wr) (fun i _ => n - (intOf i).toNat)
    case atStart => exact ⟨0, rfl, by omega, hb0, ho0⟩
    case round =>
      obtain ⟨k, rfl, hk, hb, ho⟩ := hrel
      by_cases hlt : k < n
      · have hkM : k < M.length := by have := HN.out; omega
        obtain ⟨b, o, hA, hbl, c0, c1, c2, c3⟩ := (HP.out.only ho) k M[k] (List.getElem?_eq_getElem hkM)
        have hkm : k < (M.map (·.2)).length := by simpa using hkM
        have hset := fill_set (xs := M.map (·.2)) hlt (by simp; exact HN.out.symm)
        rw [List.getElem_map] at hset
        have hsz := fill_size (xs := M.map (·.2)) (Nat.le_of_lt hlt) (by simp; exact HN.out.symm)
        generalize M[k] = t at c0 c1 c2 c3 hset
        subst hA
        obtain ⟨q, hq⟩ := hb.cell_some (i := k) (by rw [hsz]; exact hlt)
        have hf := hb.frozen k
        have hl := hb.lt
        have hs := ho.size
        have hnew := Blk.new wr 71 #[.int .i64 t.1.1.1, .int .i64 t.1.1.2, .int .i64 t.1.2, .int .i64 t.2]
        have HB := Lib.hid hb
        have HO := Lib.hid ho
        have HS := Lib.hid hset
        clear hset hb ho
        go_wp2_with (fail)
        go_roundw
        case rel =>
          refine ⟨k + 1, by go_num, by omega, ?_, ?_⟩
          · rw [← HS.out]
            exact (HB.out.set_ k _).alloc _
          · exact (HO.out.setCell (.inr (Nat.le_refl _)) _).alloc _
        case measure => simp [intOf]; omega
      · obtain rfl : k = n := by omega
        rw [fill_all (by simp; exact HN.out.symm)] at hb
        go_wp2_with (fail)
        go_ret
        exact ⟨.slice (some ⟨w.heap.size, 0, none⟩) k k, rfl, .inr ⟨w.heap.size, by rw [List.length_map, ← HN.out], Nat.le_refl _, hb⟩, ho⟩


/-- what Reverse has made of a row behind k rounds -/
def rv (xs : List Int) (k : Nat) : List Int := (List.range xs.length).map fun t => if t < k ∨ xs.length - 1 - k < t then xs.getD (xs.length - 1 - t) 0 else xs.getD t 0
theorem rv_length (xs : List Int) (k : Nat) : (rv xs k).length = xs.length := by simp [rv]
theorem rv_at {xs : List Int} {k t : Nat} (ht : t < xs.length) : (rv xs k)[t]? = some (if t < k ∨ xs.length - 1 - k < t then xs.getD (xs.length - 1 - t) 0 else xs.getD t 0) := by
  simp [rv, ht]
theorem rv_zero (xs : List Int) : rv xs 0 = xs := by
  apply List.ext_getElem (by simp [rv])
  intro i h1 h2
  simp only [rv, List.getElem_map, List.getElem_range]
  rw [if_neg (by omega)]
  simp [List.getD, h2]
theorem rv_end {xs : List Int} {k : Nat} (h : xs.length ≤ 2 * k + 1) : rv xs k = xs.reverse := by
  apply List.ext_getElem (by simp [rv])
  intro i h1 h2
  have hi : i < xs.length := by simpa using h2
  simp only [rv, List.getElem_map, List.getElem_range, List.getElem_reverse]
  by_cases hc : i < k ∨ xs.length - 1 - k < i
  · rw [if_pos hc]
    simp [List.getD, show xs.length - 1 - i < xs.length by omega]
  · rw [if_neg hc]
    have : xs.length - 1 - i = i := by omega
    simp [List.getD, hi, this]
def rvA (xs : List Int) (k : Nat) : Array Value := ((rv xs k).map (Value.int .i64)).toArray
theorem rvA_size (xs : List Int) (k : Nat) : (rvA xs k).size = xs.length := by simp [rvA, rv_length]
theorem rvA_lo {xs : List Int} {k : Nat} (h : 2 * k + 1 < xs.length) : (rvA xs k)[k]? = some (.int .i64 (xs.getD k 0)) ∧ (rvA xs k)[xs.length - 1 - k]? = some (.int .i64 (xs.getD (xs.length - 1 - k) 0)) := by
  constructor
  · simp only [rvA, List.getElem?_toArray, List.getElem?_map]
    rw [rv_at (by omega), if_neg (by omega)]
    rfl
  · simp only [rvA, List.getElem?_toArray, List.getElem?_map]
    rw [rv_at (by omega), if_neg (by omega)]
    rfl
theorem rvA_step {xs : List Int} {k : Nat} (h : 2 * k + 1 < xs.length) : ((rvA xs k).setIfInBounds k (.int .i64 (xs.getD (xs.length - 1 - k) 0))).setIfInBounds (xs.length - 1 - k) (.int .i64 (xs.getD k 0)) = rvA xs (k + 1) := by
  apply Array.ext
  · simp [rvA_size]
  · intro i h1 h2
    have hi : i < xs.length := by rw [rvA_size] at h2; exact h2
    rw [Array.getElem_setIfInBounds (by rw [Array.size_setIfInBounds, rvA_size]; exact hi)]
    have e2 : (rvA xs (k + 1))[i] = .int .i64 (if i < k + 1 ∨ xs.length - 1 - (k + 1) < i then xs.getD (xs.length - 1 - i) 0 else xs.getD i 0) := by
      have := rv_at (xs := xs) (k := k + 1) hi
      simp only [rvA, List.getElem_toArray, List.getElem_map]
      rw [List.getElem?_eq_getElem (by rw [rv_length]; exact hi)] at this
      rw [Option.some.inj this]
    rw [e2]
    by_cases e : xs.length - 1 - k = i
    · subst e
      rw [if_pos rfl, if_pos (by omega)]
      congr 2
      omega
    · rw [if_neg e, Array.getElem_setIfInBounds (by rw [rvA_size]; exact hi)]
      by_cases e' : k = i
      · subst e'
        rw [if_pos rfl, if_pos (by omega)]
      · rw [if_neg e']
        have e3 : (rvA xs k)[i]'(by rw [rvA_size]; exact hi) = .int .i64 (if i < k ∨ xs.length - 1 - k < i then xs.getD (xs.length - 1 - i) 0 else xs.getD i 0) := by
          have := rv_at (xs := xs) (k := k) hi
          simp only [rvA, List.getElem_toArray, List.getElem_map]
          rw [List.getElem?_eq_getElem (by rw [rv_length]; exact hi)] at this
          rw [Option.some.inj this]
        rw [e3]
        by_cases hc : i < k ∨ xs.length - 1 - k < i
        · rw [if_pos hc, if_pos (by omega)]
        · rw [if_neg hc, if_neg (by omega)]
theorem reverse_nil (w : World) : Calls Try.prog 37 #[.slice none 0 0] w fun e w' => e = .returned (.tuple #[]) ∧ w' = w := by
  go_enter Try.func37, Try.ntmps37
  go_wp2_with (fail)
  go_loopw [2, 3] (fun s2 s3 wr => s2 = .int .i64 0 ∧ s3 = .int .i64 (-1) ∧ wr = w) (fun _ _ _ => 0)
  case atStart => exact ⟨rfl, rfl, rfl⟩
  case round =>
    obtain ⟨rfl, rfl, rfl⟩ := hrel
    go_wp2_with (fail)
    go_end0
    exact ⟨rfl, rfl⟩

set_option maxHeartbeats 2000000 in
theorem reverse_row {w : World} {h c : Nat} {xs : List Int} (hb : Blk w h 3 (xs.map (Value.int .i64)).toArray) (h20 : xs.length ≤ 1048576) :
    Calls Try.prog 37 #[.slice (some ⟨h, 0, none⟩) xs.length c] w fun e w' => e = .returned (.tuple #[]) ∧ Blk w' h 3 (xs.reverse.map (Value.int .i64)).toArray ∧ Only [h] w w' := by
  obtain ⟨n, hn⟩ : ∃ n, xs.length = n := ⟨_, rfl⟩
  have hb0 : Blk w h 3 (rvA xs 0) := by unfold rvA; rw [rv_zero]; exact hb
  have HN := Lib.hid hn
  rw [hn] at h20 ⊢
  clear hb hn
  go_enter Try.func37, Try.ntmps37
  go_wp2_with (fail)
  go_loopw [2, 3] (fun i j wr => ∃ k : Nat, i = .int .i64 k ∧ j = .int .i64 ((n : Int) - 1 - k) ∧ 2 * k ≤ n + 1 ∧ Blk wr h 3 (rvA xs k) ∧ Only [h] w wr) (fun i _ _ => n - (intOf i).toNat)
  case atStart => exact ⟨0, rfl, by simp, by omega, hb0, Only.refl _ _⟩
  case round =>
    obtain ⟨k, rfl, rfl, hk, hb, ho⟩ := hrel
    by_cases hlt : 2 * k + 1 < n
    · obtain ⟨m, hm⟩ : ∃ m, n = k + 1 + m := ⟨n - 1 - k, by omega⟩
      have hkm : k < m := by omega
      have e1 : xs.length - 1 - k = m := by have := HN.out; omega
      have e2 : (n : Int) - 1 - k = (m : Int) := by omega
      obtain ⟨c0, c1⟩ := rvA_lo (xs := xs) (k := k) (by rw [HN.out]; exact hlt)
      have hst := rvA_step (xs := xs) (k := k) (by rw [HN.out]; exact hlt)
      rw [e1] at c1 hst
      rw [e2]
      have d0 := (hb.cell k).trans c0
      have d1 := (hb.cell m).trans c1
      have f0 := hb.frozen k
      have f1 := hb.frozen m
      have hl := hb.lt
      generalize xs.getD k 0 = x at d0 hst c0
      generalize xs.getD m 0 = y at d1 hst c1
      have hkn : k < n := by omega
      have hmn : m < n := by omega
      have hkI : (k : Int) < (m : Int) := by omega
      have HB := Lib.hid hb
      have HO := Lib.hid ho
      have HS := Lib.hid hst
      have D0 := Lib.hid d0
      have D1 := Lib.hid d1
      have HM := Lib.hid hm
      clear hst hb ho c0 c1 e1 e2 d0 d1 hm
      have d0 := D0.out
      have d1 := D1.out
      go_wp2_with (fail)
      go_region
      go_wp2_with (fail)
      go_roundw
      case rel =>
        refine ⟨k + 1, by go_num, ?_, by have := HM.out; omega, ((HB.out.set_ k _).set_ m _).drew |> (fun h => by rw [HS.out] at h; exact h), ((HO.out.setCell (.inl (by simp)) _).setCell (.inl (by simp)) _).drew⟩
        have := HM.out
        congr 1
        omega
      case measure => simp [intOf]; omega
    · have hc : decide ((k : Int) < (n : Int) - 1 - k) = false := by simp; omega
      unfold rvA at hb
      rw [rv_end (by rw [HN.out]; omega)] at hb
      go_wp2_with (fail)
      go_end0
      exact ⟨rfl, hb, ho⟩

end Go.Proofs.Ytcggeogpanackaa
