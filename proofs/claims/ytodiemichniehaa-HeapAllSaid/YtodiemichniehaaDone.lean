/- done, firstKey. -/
import Derived.Test.YtodiemichniehaaAwake
import Derived.Test.YtodiemichniehaaOpen
namespace Go.Proofs.Ytodiemichniehaa
open Go.RowKit Go.Kx Go.Maps
set_option maxRecDepth 20000

def doM (m : List Ent) (a : Ac) : List Ent := if a.1 % 8 ≤ 3 then setM m a.2 else if a.1 % 8 = 4 then delM m a.2.1 else if a.1 % 8 = 6 then m.tail else m
theorem doM_set {m : List Ent} {a : Ac} (h : a.1 % 8 ≤ 3) : doM m a = setM m a.2 := by unfold doM; rw [if_pos h]
theorem doM_del {m : List Ent} {a : Ac} (h : a.1 % 8 = 4) : doM m a = delM m a.2.1 := by unfold doM; rw [if_neg (by omega), if_pos h]
theorem doM_pop {m : List Ent} {a : Ac} (h : a.1 % 8 = 6) : doM m a = m.tail := by unfold doM; rw [if_neg (by omega), if_neg (by omega), if_pos h]
theorem doM_none {m : List Ent} {a : Ac} (h : a.1 % 8 = 5 ∨ a.1 % 8 = 7) : doM m a = m := by unfold doM; rw [if_neg (by omega), if_neg (by omega), if_neg (by omega)]
theorem doM_le (m : List Ent) (a : Ac) : (doM m a).length ≤ m.length + 1 := by
  unfold doM
  have h1 := delM_le m a.2.1
  split
  · unfold setM; rw [insM_length]; omega
  · split
    · omega
    · split
      · rw [List.length_tail]; omega
      · omega
set_option maxHeartbeats 1000000 in
theorem done_any {B : Nat} {w : World} {g bm : Nat} {L m : List Ent} {A : Option Addr} {c : Nat} (hH : HB B w g (some bm) L A c) (hS : HS L m) {a : Ac} (ha : Ac.ok a) (hl : L.length < 1048576) (hB : B ≤ w.heap.size) :
    Calls Try.prog 21 #[.pointer (some ⟨g, 0, none⟩), .agg #[.int .u8 a.1, .int .i64 a.2.1, .int .i64 a.2.2]] w fun e w' => e = .returned (.tuple #[]) ∧ ∃ L' A' c', HB B w' g (some bm) L' A' c' ∧ HS L' (doM m a) ∧ Only (heapS g A (some bm)) w w' := by
  obtain ⟨⟨hd0, hd1⟩, hk, hx⟩ := ha
  obtain ⟨d, k, x⟩ := a
  dsimp only at hd0 hd1 hk hx
  have hbn := Blk.new w 29 #[.int .u8 d, .int .i64 k, .int .i64 x]
  obtain ⟨b0, b1, b2, bl⟩ := hbn.facts3
  have o0 : Only [] w (w.alloc (.cells #[.int .u8 d, .int .i64 k, .int .i64 x] 29)) := (Only.refl [] w).alloc _
  have h0 := hH.keep o0
  have hB0 : B ≤ (w.alloc (.cells #[.int .u8 d, .int .i64 k, .int .i64 x] 29)).heap.size := Nat.le_trans hB o0.size
  rcases (show d % 8 = 0 ∨ d % 8 = 1 ∨ d % 8 = 2 ∨ d % 8 = 3 ∨ d % 8 = 4 ∨ d % 8 = 5 ∨ d % 8 = 6 ∨ d % 8 = 7 by omega) with h8 | h8 | h8 | h8 | h8 | h8 | h8 | h8
  · rw [doM_set (a := (d, k, x)) (by show d % 8 ≤ 3; omega)]
    have t := set_any h0 hS hk hx hl hB0
    have O0 := Lib.hid o0
    clear h0 hH hS hbn o0
    go_enter Try.func21, Try.ntmps21
    go_wp2_with (fail)
    refine t.mono ?_
    clear t
    rintro e w1 ⟨rfl, L', A', c', h1, s1, o1, -⟩
    have HH := Lib.hid h1
    have HO := Lib.hid o1
    clear h1 o1
    go_wp2_with (fail)
    go_end0
    exact ⟨rfl, L', A', c', HH.out, s1, (O0.out.mono (fun _ h => by simp at h)).trans HO.out (fun _ h => .inl h)⟩
  · rw [doM_set (a := (d, k, x)) (by show d % 8 ≤ 3; omega)]
    have t := set_any h0 hS hk hx hl hB0
    have O0 := Lib.hid o0
    clear h0 hH hS hbn o0
    go_enter Try.func21, Try.ntmps21
    go_wp2_with (fail)
    refine t.mono ?_
    clear t
    rintro e w1 ⟨rfl, L', A', c', h1, s1, o1, -⟩
    have HH := Lib.hid h1
    have HO := Lib.hid o1
    clear h1 o1
    go_wp2_with (fail)
    go_end0
    exact ⟨rfl, L', A', c', HH.out, s1, (O0.out.mono (fun _ h => by simp at h)).trans HO.out (fun _ h => .inl h)⟩
  · rw [doM_set (a := (d, k, x)) (by show d % 8 ≤ 3; omega)]
    have t := set_any h0 hS hk hx hl hB0
    have O0 := Lib.hid o0
    clear h0 hH hS hbn o0
    go_enter Try.func21, Try.ntmps21
    go_wp2_with (fail)
    refine t.mono ?_
    clear t
    rintro e w1 ⟨rfl, L', A', c', h1, s1, o1, -⟩
    have HH := Lib.hid h1
    have HO := Lib.hid o1
    clear h1 o1
    go_wp2_with (fail)
    go_end0
    exact ⟨rfl, L', A', c', HH.out, s1, (O0.out.mono (fun _ h => by simp at h)).trans HO.out (fun _ h => .inl h)⟩
  · rw [doM_set (a := (d, k, x)) (by show d % 8 ≤ 3; omega)]
    have t := set_any h0 hS hk hx hl hB0
    have O0 := Lib.hid o0
    clear h0 hH hS hbn o0
    go_enter Try.func21, Try.ntmps21
    go_wp2_with (fail)
    refine t.mono ?_
    clear t
    rintro e w1 ⟨rfl, L', A', c', h1, s1, o1, -⟩
    have HH := Lib.hid h1
    have HO := Lib.hid o1
    clear h1 o1
    go_wp2_with (fail)
    go_end0
    exact ⟨rfl, L', A', c', HH.out, s1, (O0.out.mono (fun _ h => by simp at h)).trans HO.out (fun _ h => .inl h)⟩
  · rw [doM_del (a := (d, k, x)) h8]
    have t := del_any h0 hS hk (by omega)
    have O0 := Lib.hid o0
    clear h0 hH hS hbn o0
    go_enter Try.func21, Try.ntmps21
    go_wp2_with (fail)
    refine t.mono ?_
    clear t
    rintro e w1 ⟨rfl, L', h1, s1, o1⟩
    have HH := Lib.hid h1
    have HO := Lib.hid o1
    clear h1 o1
    go_wp2_with (fail)
    go_end0
    exact ⟨rfl, L', A, c, HH.out, s1, (O0.out.mono (fun _ h => by simp at h)).trans HO.out (fun _ h => .inl h)⟩
  · rw [doM_none (a := (d, k, x)) (.inl h8)]
    have HH := Lib.hid h0
    have O0 := Lib.hid o0
    clear h0 hH hbn o0
    go_enter Try.func21, Try.ntmps21
    go_wp2_with (fail)
    go_end0
    exact ⟨rfl, L, A, c, HH.out, hS, O0.out.mono (fun _ h => by simp at h)⟩
  · rw [doM_pop (a := (d, k, x)) h8]
    have t := pop_any h0 hS (by omega)
    have O0 := Lib.hid o0
    clear h0 hH hS hbn o0
    go_enter Try.func21, Try.ntmps21
    go_wp2_with (fail)
    refine t.mono ?_
    clear t
    rintro e w1 ⟨rfl, L', h1, s1, o1⟩
    have HH := Lib.hid h1
    have HO := Lib.hid o1
    clear h1 o1
    go_wp2_with (fail)
    go_end0
    exact ⟨rfl, L', A, c, HH.out, s1, (O0.out.mono (fun _ h => by simp at h)).trans HO.out (fun _ h => .inl h)⟩
  · rw [doM_none (a := (d, k, x)) (.inr h8)]
    have HH := Lib.hid h0
    have O0 := Lib.hid o0
    clear h0 hH hbn o0
    go_enter Try.func21, Try.ntmps21
    go_wp2_with (fail)
    go_end0
    exact ⟨rfl, L, A, c, HH.out, hS, O0.out.mono (fun _ h => by simp at h)⟩
theorem first_any {B : Nat} {w : World} {g : Nat} {M : Option Nat} {L m : List Ent} {A : Option Addr} {c : Nat} (hH : HB B w g M L A c) (hS : HS L m) :
    Calls Try.prog 22 #[.pointer (some ⟨g, 0, none⟩)] w fun e w' => e = .returned (.int .i64 (hd m).1) ∧ Only [] w w' := by
  have t := min_any hH hS
  clear hH hS
  go_enter Try.func22, Try.ntmps22
  go_wp2_with (fail)
  refine t.mono ?_
  clear t
  rintro e w1 ⟨rfl, o1⟩
  go_wp2_with (fail)
  go_ret
  exact ⟨rfl, o1.alloc _⟩
end Go.Proofs.Ytodiemichniehaa
