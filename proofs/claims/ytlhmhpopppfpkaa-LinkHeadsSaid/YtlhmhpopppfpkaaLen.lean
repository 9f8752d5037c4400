/- Len. -/
import Derived.Test.YtlhmhpopppfpkaaDue
namespace Go.Proofs.Ytlhmhpopppfpkaa
open Go.RowKit Go.Kx Go.Maps
set_option maxRecDepth 100000

theorem total_nil : total [] = 0 := rfl
theorem len_net {B : Nat} {w : World} {g bm n room : Nat} {Ls : List (Pr × Lane)} (h : NB B w g bm n room Ls) (ht : total Ls ≤ 1000000000) :
    Calls Try.prog 12 #[.pointer (some ⟨g, 0, none⟩)] w fun e w' => e = .returned (.int .i64 (total Ls)) ∧ Only [] w w' := by
  obtain ⟨g0, g1, g2, gl⟩ := h.blk.facts3
  obtain ⟨D, hD, hL⟩ := h.map
  have ml := h.mlt
  have HN := Lib.hid h
  go_enter Try.func12, Try.ntmps12
  go_wp2_with (first
    | (at_range; refine wpList_range_due _ rfl _ rfl bm _ D Ls rfl hD hL ?_; intro w0 hd0 o0 hs0)
    | go_in)
  go_frame
  clear hD hL
  go_loopw [3] (fun v wr => ∃ todo, Due wr bm w.heap.size Ls todo ∧ v = .int .i64 ((total Ls : Int) - total todo) ∧ total todo ≤ total Ls ∧ Only [] w wr) (fun _ wr => wr.rangeLeft bm w.heap.size)
  case atStart => exact ⟨Ls, hd0, by simp, Nat.le_refl _, o0⟩
  case round =>
    clear hd0 o0 hs0
    obtain ⟨todo, hd, rfl, htt, hO⟩ := hrel
    have HO := Lib.hid hO
    have HD := Lib.hid hd
    clear hO hd
    go_wp2_with (first
      | (at_next; refine wpList_next_due _ rfl _ rfl bm w.heap.size Ls todo rfl HD.out ?_ ?_)
      | go_in)
    · intro h0
      subst h0
      go_wp2_with (fail)
      go_ret
      exact ⟨by simp [total_nil], HO.out⟩
    · intro pa pb l w1 hpl hd1 hms o1 hs1 hen
      have HM := Lib.hid hms
      have HP := Lib.hid hpl
      have HD1 := Lib.hid hd1
      have HO1 := Lib.hid o1
      clear hms hpl hd1 o1
      go_wp2_with (fail)
      have hmem := Due.sub HD.out _ HP.out
      have hr := Due.lt HD.out
      have o2 : Only [w.heap.size] wr (w1.alloc (.cells #[.pointer (some ⟨l.b, 0, none⟩), .int .i64 l.size] 61)) := HO1.out.trans ((Only.refl [] w1).alloc _) (fun _ hx => by simp at hx)
      have o3 : Only [] w (w1.alloc (.cells #[.pointer (some ⟨l.b, 0, none⟩), .int .i64 l.size] 61)) := HO.out.trans o2 (fun x hx => by simp at hx; subst hx; exact .inr (Nat.le_refl _))
      have hq := ((HN.out.keep o3).qu _ hmem).1
      have hst := total_strike (Due.nd HD.out) HP.out
      have hfin : Due (w1.alloc (.cells #[.pointer (some ⟨l.b, 0, none⟩), .int .i64 l.size] 61)) bm w.heap.size Ls (todo.filter fun e => !decide (e.1 = (pa, pb))) := HD1.out.kept ((Only.refl [] w1).alloc _) (by simp) (by simp)
      have hml : (w1.alloc (.cells #[.pointer (some ⟨l.b, 0, none⟩), .int .i64 l.size] 61)).rangeLeft bm w.heap.size = w1.rangeLeft bm w.heap.size := by
        obtain ⟨D', n', left, cnt, hrg, _⟩ := HD1.out
        rw [hrg.left_eq, (hrg.alloc _).left_eq]
      have HT := Lib.hid hst
      have HF := Lib.hid hfin
      have HL := Lib.hid hml
      have HO3 := Lib.hid o3
      clear hst hfin hml o3 o2
      generalize w1.alloc (.cells #[.pointer (some ⟨l.b, 0, none⟩), .int .i64 l.size] 61) = w2 at hq HF HL HO3 ⊢
      refine (len_any hq).mono ?_
      rintro e w3 ⟨rfl, rfl⟩
      have a1 : -9223372036854775808 ≤ (total Ls : Int) - total todo + l.xs.length := by omega
      have a2 : (total Ls : Int) - total todo + l.xs.length ≤ 9223372036854775807 := by have := HT.out; omega
      go_wp2_with (fail)
      go_roundw
      case rel =>
        refine ⟨_, HF.out, ?_, by have := HT.out; omega, HO3.out⟩
        have := HT.out
        congr 1
        omega
      case measure => rw [HL.out]; exact HM.out
end Go.Proofs.Ytlhmhpopppfpkaa
