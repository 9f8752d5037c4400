/- A word's text, walked. -/
import Derived.Test.YtghofiehkdhbeaaDoorScan
import Derived.Lib.ItoaNum
import Derived.Lib.ItoaLen
import Derived.Laws.BytesArg
namespace Go.Proofs.YtghofiehkdhbeaaDoor
open Go.RowKit Go.Kx Go.Tok
set_option maxRecDepth 100000

theorem dec_lib (n : Nat) : dec n = Lib.decDigits n := by
  induction n using Nat.strongRecOn with
  | ind n ih =>
    rw [dec, Lib.decDigits]
    by_cases h : n < 10
    · rw [dif_pos (by omega), dif_pos h, Nat.mod_eq_of_lt h]; rfl
    · rw [dif_neg (by omega), dif_neg h, ih (n / 10) (by omega)]; rfl
theorem dec_len (N : Nat) (h : N ≤ big) : (dec N).length ≤ 20 := by
  rw [dec_lib, Lib.decDigits_length]; exact Lib.nDigits_le20 N (by unfold big at h; omega)
def preD (m : Nat) : List UInt8 := if m = 0 then [] else dec m
theorem preD_step {m : Nat} (h : 0 < m) : preD m = preD (m / 10) ++ [dgt (m % 10)] := by
  unfold preD
  rw [if_neg (by omega), dec]
  by_cases h1 : m / 10 = 0
  · rw [dif_pos h1, if_pos h1]; rfl
  · rw [dif_neg h1, if_neg h1]
theorem dec_first (m : Nat) : dec m = preD (m / 10) ++ [dgt (m % 10)] := by
  by_cases h : m = 0
  · subst h; rw [dec]; rfl
  · rw [← preD_step (by omega)]; unfold preD; rw [if_neg h]
/-- the byte that a number is -/
def digB (x : Int) : UInt8 := UInt8.ofNat x.toNat
theorem run_digit (w : World) (x : Int) :
    (convert 42 9 (.slice (some ⟨w.heap.size, 0, none⟩) 1 1)).run Tryd.prog (w.alloc (.cells #[.int .u8 x] 5)) = .ok (.string ⟨#[digB x]⟩) (w.alloc (.cells #[.int .u8 x] 5)) := by
  have h := run_convert_bytes_arg (P := Tryd.prog) (w.alloc (.cells #[.int .u8 x] 5)) 42 5 Tryd.underlying42 Tryd.underlying5 w.heap.size 0 1 1 [x] rfl (fun i hi => by
    obtain rfl : i = 0 := by omega
    simp) 9 Tryd.underlying9
  exact h
theorem byte_eq (m : Nat) : digB (48 + (m : Int) % 10) = dgt (m % 10) := by
  unfold digB dgt; congr 1
theorem str_app (a b : Array UInt8) : (⟨a⟩ : ByteArray) ++ ⟨b⟩ = ⟨a ++ b⟩ := by
  apply ByteArray.ext
  simp
/-- how long a word may be -/
def Fits (t : Tok) : Prop := t.n ≤ big ∧ t.s.length ≤ 100000000 ∧ t.kind ≤ 4
set_option maxHeartbeats 2000000 in
theorem text_any (t : Tok) (p : Nat) (ht : Fits t) (w : World) : Calls Tryd.prog 9 #[.agg #[.int .i64 t.kind, .string ⟨t.s.toArray⟩, .int .i64 t.n, .int .i64 p]] w fun e w' => e = .returned (.string ⟨(text t).toArray⟩) ∧ Only [] w w' := by
  obtain ⟨kind, s, N⟩ := t
  obtain ⟨h1, h2, h3⟩ := ht
  dsimp only at h1 h2 h3 ⊢
  have hbx := Blk.new w 28 #[.int .i64 kind, .string ⟨s.toArray⟩, .int .i64 N, .int .i64 p]
  have o0 : Only [] w (w.alloc (.cells #[.int .i64 kind, .string ⟨s.toArray⟩, .int .i64 N, .int .i64 p] 28)) := (Only.refl _ _).alloc _
  have HO := Lib.hid o0
  by_cases k1 : kind = 1
  · have hN := Lib.hid h1
    have h1' : (N : Int) ≤ 9223372036854775807 := by unfold big at h1; omega
    have hm : IntKind.u8.wrap (48 + (N : Int) % 10) = 48 + (N : Int) % 10 := by rw [IntKind.wrap_u8]; omega
    have hr := run_digit
    have hr0 := run_digit (w.alloc (.cells #[.int .i64 kind, .string ⟨s.toArray⟩, .int .i64 N, .int .i64 p] 28)) (48 + (N : Int) % 10)
    rw [World.size_alloc] at hr0
    have e1 : ((kind : Int) == 1) = true := by rw [beq_iff_eq]; omega
    have e2 : (kind == 1) = true := by rw [beq_iff_eq]; omega
    have HE := Lib.hid (show text ⟨kind, s, N⟩ = dec N by unfold text; rw [if_pos k1])
    rw [HE.out]
    clear k1 hbx o0 h1
    go_enter Tryd.func9, Tryd.ntmps9
    go_wp2_with (fail)
    obtain ⟨w0, hw0⟩ : ∃ w0, w.alloc (.cells #[.int .i64 kind, .string ⟨s.toArray⟩, .int .i64 N, .int .i64 p] 28) = w0 := ⟨_, rfl⟩
    rw [hw0] at HO hr0 ⊢
    clear hw0 hr0
    go_loopw [3, 4] (fun r n wr => ∃ (m : Nat) (l : List UInt8), n = .int .i64 m ∧ r = .string ⟨l.toArray⟩ ∧ Hid (preD m ++ l = dec N) ∧ m ≤ N ∧ Only [] w wr) (fun _ n _ => (intOf n).toNat)
    case atStart => exact ⟨N / 10, [digB (48 + (N : Int) % 10)], rfl, rfl, Lib.hid (by rw [byte_eq]; exact (dec_first N).symm), by omega, HO.out.alloc _⟩
    case round =>
      obtain ⟨m, l, rfl, rfl, hl, hm2, ho⟩ := hrel
      have HO := Lib.hid ho
      clear ho hm
      have hm : IntKind.u8.wrap (48 + (m : Int) % 10) = 48 + (m : Int) % 10 := by rw [IntKind.wrap_u8]; omega
      have hll : l.length ≤ 20 := by
        have h1 := dec_len N hN.out
        rw [← hl.out, List.length_append] at h1; omega
      by_cases h0 : 0 < m
      · go_wp2_with (fail)
        go_roundw
        case rel => exact ⟨m / 10, digB (48 + (m : Int) % 10) :: l, rfl, by rw [str_app]; simp, Lib.hid (by rw [← hl.out, preD_step h0, byte_eq]; simp), by omega, HO.out.alloc _⟩
        case measure => simp [intOf]; omega
      · obtain rfl : m = 0 := by omega
        have e : l = dec N := by have := hl.out; simpa [preD] using this
        go_wp2_with (fail)
        go_ret
        exact ⟨by subst e; rfl, HO.out⟩
  · obtain ⟨b0, b1, b2, b3, bl⟩ := hbx.facts4
    have e1 : ((kind : Int) == 1) = false := by rw [beq_eq_false_iff_ne]; omega
    have e2 : (kind == 1) = false := by rw [beq_eq_false_iff_ne]; omega
    by_cases k2 : kind = 2
    · have e3 : ((kind : Int) == 2) = true := by rw [beq_iff_eq]; omega
      have e4 : (kind == 2) = true := by rw [beq_iff_eq]; omega
      have HE := Lib.hid (show text ⟨kind, s, N⟩ = 39 :: s by unfold text; rw [if_neg k1, if_pos k2])
      rw [HE.out]
      clear k1 k2 hbx o0
      go_enter Tryd.func9, Tryd.ntmps9
      go_wp2_with (fail)
      go_ret
      exact ⟨by rw [str_app]; simp, HO.out⟩
    · have e3 : ((kind : Int) == 2) = false := by rw [beq_eq_false_iff_ne]; omega
      have e4 : (kind == 2) = false := by rw [beq_eq_false_iff_ne]; omega
      have HE := Lib.hid (show text ⟨kind, s, N⟩ = s by unfold text; rw [if_neg k1, if_neg k2])
      rw [HE.out]
      clear k1 k2 hbx o0
      go_enter Tryd.func9, Tryd.ntmps9
      go_wp2_with (fail)
      go_ret
      exact ⟨rfl, HO.out⟩
end Go.Proofs.YtghofiehkdhbeaaDoor
