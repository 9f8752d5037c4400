/- A nil net: All, Heads and what they hand out; Send, Take, Len, Copy. -/
import Derived.Test.YtlhmhpopppfpkaaPairs
namespace Go.Proofs.Ytlhmhpopppfpkaa
open Go.RowKit Go.Kx
attribute [local go_sem] Oper.semAt_some
set_option maxRecDepth 100000

theorem _root_.Go.Kx.KeepC.only {W W' : World} (h : KeepC W.heap.size W W') : Only [] W W' :=
  ⟨h.os, h.tape, h.output, h.size, fun k hk _ => by
    have := h.block k _ (Array.getElem?_eq_getElem hk) (.inl hk)
    rw [this, Array.getElem?_eq_getElem hk]⟩
theorem nall_any (v : Value) (q : Option Addr) (hv : v = .pointer q) (w : World) :
    Calls Try.prog 17 #[v] w fun e w' => e = .returned (.func (.func 24) #[] #[.pointer (some ⟨w.heap.size, 0, none⟩)]) ∧ w' = w.alloc (.cells #[v] 24) := by
  subst hv
  go_enter Try.func17, Try.ntmps17
  go_wp2_with (fail)
  go_ret
  exact ⟨rfl, rfl⟩
theorem nheads_any (v : Value) (q : Option Addr) (hv : v = .pointer q) (w : World) :
    Calls Try.prog 18 #[v] w fun e w' => e = .returned (.func (.func 27) #[] #[.pointer (some ⟨w.heap.size, 0, none⟩)]) ∧ w' = w.alloc (.cells #[v] 24) := by
  subst hv
  go_enter Try.func18, Try.ntmps18
  go_wp2_with (fail)
  go_ret
  exact ⟨rfl, rfl⟩
set_option maxHeartbeats 1000000 in
theorem nall_nil {c : Nat} {w : World} (hc : Blk w c 24 #[.pointer none]) : Seqs Try.prog 24 #[.pointer (some ⟨c, 0, none⟩)] [] [] w := by
  intro l J Jx W S hK hl hlW hS _ hJ hY h0
  have bc := hK.blk hc
  have H0 := Lib.hid h0
  have HJ := Lib.hid hJ
  have HS := Lib.hid hS
  clear hc hJ hY h0 hK hS
  show Calls Try.prog 24 #[.func (.yield l) #[] #[], .pointer (some ⟨c, 0, none⟩)] W _
  have x1 := Blk.new W 69 #[.slice none 0 0]
  have o1 : Only [] W (W.alloc (.cells #[.slice none 0 0] 69)) := (Only.refl _ _).alloc _
  have x2 := Blk.new (W.alloc (.cells #[.slice none 0 0] 69)) 70 #[.slice none 0 0]
  have o2 : Only [] (W.alloc (.cells #[.slice none 0 0] 69)) ((W.alloc (.cells #[.slice none 0 0] 69)).alloc (.cells #[.slice none 0 0] 70)) := (Only.refl _ _).alloc _
  have e1 : (W.alloc (.cells #[.slice none 0 0] 69)).heap.size = W.heap.size + 1 := Array.size_push _
  rw [e1] at x2
  have b1 := o2.blk x1 (by simp)
  have b0 := (o1.trans o2 (by simp)).blk bc (by simp)
  have HO := Lib.hid (o1.trans o2 (by simp))
  have X1 := Lib.hid b1
  have X2 := Lib.hid x2
  obtain ⟨c0, cl⟩ := b0.facts1
  clear x1 x2 b1 o1 o2 e1 bc b0
  refine calls_marks Try.func24 rfl ?_
  simp only [Try.ntmps24, List.size_toArray, List.length_cons, List.length_nil, Nat.reduceAdd, Nat.reduceSub, Array.replicate_succ, Array.replicate_zero, List.push_toArray, List.append_toArray, List.nil_append, List.cons_append]
  go_wp2_with (fail)
  generalize (W.alloc (.cells #[.slice none 0 0] 69)).alloc (.cells #[.slice none 0 0] 70) = W1 at *
  refine (pairs_any _ _ rfl W1).mono ?_
  rintro e W2 ⟨rfl, rfl⟩
  go_wp2_with (fail)
  have hbx := Blk.new W1 24 #[.pointer none]
  have ox : Only [] W1 (W1.alloc (.cells #[.pointer none] 24)) := (Only.refl _ _).alloc _
  have X1' := Lib.hid (ox.blk X1.out (by simp))
  have X2' := Lib.hid (ox.blk X2.out (by simp))
  have hseq := pairs_seqs_nil hbx
  have HO' := Lib.hid (HO.out.trans ox (by simp))
  clear X1 X2 HO hbx ox c0 cl
  generalize hW2 : W1.alloc (.cells #[.pointer none] 24) = W2 at *
  refine' wp_rangeFunc_seqs (gf := 32) (lb := #[.pointer (some ⟨W1.heap.size, 0, none⟩)]) (vs := valsP []) rfl (enters Try.func32 (by kernel_rfl) rfl)
    hseq (by intro v hv; simp [valsP] at hv) [] (by simp) (by simp)
    (fun _ _ X => KeepC W2.heap.size W2 X) (fun _ _ => False) (fun _ _ _ _ h k => h.trans k) (fun _ _ _ h _ => h) (KeepC.refl _ _)
    (fun _ => { tmps := #[], defers := [] }) (by intro l k v W K hv; simp [valsP] at hv) (by intro l k v S W hv; simp [valsP] at hv) ?done (fun _ _ _ _ h _ => h.elim)
  case done =>
    intro D S' X hD hk hdf
    have b1 := hk.blk X1'.out
    have b2 := hk.blk X2'.out
    obtain ⟨p0, pl⟩ := b1.facts1
    obtain ⟨q0, ql⟩ := b2.facts1
    have HD := Lib.hid hdf
    have HK := Lib.hid hk
    clear b1 b2 hdf hk
    go_wp2_with (fail)
    refine wp_loop_rounds 1 ?_
    rw [rounds_succ]
    go_wp2_with (fail)
    refine ⟨by simp, .inl ⟨_, _, rfl, run_takeDeferred HD.out, ?_⟩⟩
    have hk := HK.out.trans (KeepC.putObj (o' := .deferred none) HD.out rfl hD)
    exact ⟨_, results_none rfl _ _ _, ⟨_, rfl⟩, .inl ⟨S, HJ.out _ _ _ _ H0.out (HO'.out.trans hk.only (by simp))⟩⟩
set_option maxHeartbeats 1000000 in
theorem nheads_nil {c : Nat} {w : World} (hc : Blk w c 24 #[.pointer none]) : Seqs Try.prog 27 #[.pointer (some ⟨c, 0, none⟩)] [] [] w := by
  intro l J Jx W S hK hl hlW hS _ hJ hY h0
  have bc := hK.blk hc
  have H0 := Lib.hid h0
  have HJ := Lib.hid hJ
  have HS := Lib.hid hS
  clear hc hJ hY h0 hK hS
  show Calls Try.prog 27 #[.func (.yield l) #[] #[], .pointer (some ⟨c, 0, none⟩)] W _
  have x1 := Blk.new W 69 #[.slice none 0 0]
  have o1 : Only [] W (W.alloc (.cells #[.slice none 0 0] 69)) := (Only.refl _ _).alloc _
  have x2 := Blk.new (W.alloc (.cells #[.slice none 0 0] 69)) 70 #[.slice none 0 0]
  have o2 : Only [] (W.alloc (.cells #[.slice none 0 0] 69)) ((W.alloc (.cells #[.slice none 0 0] 69)).alloc (.cells #[.slice none 0 0] 70)) := (Only.refl _ _).alloc _
  have e1 : (W.alloc (.cells #[.slice none 0 0] 69)).heap.size = W.heap.size + 1 := Array.size_push _
  rw [e1] at x2
  have b1 := o2.blk x1 (by simp)
  have b0 := (o1.trans o2 (by simp)).blk bc (by simp)
  have HO := Lib.hid (o1.trans o2 (by simp))
  have X1 := Lib.hid b1
  have X2 := Lib.hid x2
  obtain ⟨c0, cl⟩ := b0.facts1
  clear x1 x2 b1 o1 o2 e1 bc b0
  refine calls_marks Try.func27 rfl ?_
  simp only [Try.ntmps27, List.size_toArray, List.length_cons, List.length_nil, Nat.reduceAdd, Nat.reduceSub, Array.replicate_succ, Array.replicate_zero, List.push_toArray, List.append_toArray, List.nil_append, List.cons_append]
  go_wp2_with (fail)
  generalize (W.alloc (.cells #[.slice none 0 0] 69)).alloc (.cells #[.slice none 0 0] 70) = W1 at *
  refine (pairs_any _ _ rfl W1).mono ?_
  rintro e W2 ⟨rfl, rfl⟩
  go_wp2_with (fail)
  have hbx := Blk.new W1 24 #[.pointer none]
  have ox : Only [] W1 (W1.alloc (.cells #[.pointer none] 24)) := (Only.refl _ _).alloc _
  have X1' := Lib.hid (ox.blk X1.out (by simp))
  have X2' := Lib.hid (ox.blk X2.out (by simp))
  have hseq := pairs_seqs_nil hbx
  have HO' := Lib.hid (HO.out.trans ox (by simp))
  clear X1 X2 HO hbx ox c0 cl
  generalize hW2 : W1.alloc (.cells #[.pointer none] 24) = W2 at *
  refine' wp_rangeFunc_seqs (gf := 32) (lb := #[.pointer (some ⟨W1.heap.size, 0, none⟩)]) (vs := valsP []) rfl (enters Try.func32 (by kernel_rfl) rfl)
    hseq (by intro v hv; simp [valsP] at hv) [] (by simp) (by simp)
    (fun _ _ X => KeepC W2.heap.size W2 X) (fun _ _ => False) (fun _ _ _ _ h k => h.trans k) (fun _ _ _ h _ => h) (KeepC.refl _ _)
    (fun _ => { tmps := #[], defers := [] }) (by intro l k v W K hv; simp [valsP] at hv) (by intro l k v S W hv; simp [valsP] at hv) ?done (fun _ _ _ _ h _ => h.elim)
  case done =>
    intro D S' X hD hk hdf
    have b1 := hk.blk X1'.out
    have b2 := hk.blk X2'.out
    obtain ⟨p0, pl⟩ := b1.facts1
    obtain ⟨q0, ql⟩ := b2.facts1
    have HD := Lib.hid hdf
    have HK := Lib.hid hk
    clear b1 b2 hdf hk
    go_wp2_with (fail)
    refine wp_loop_rounds 1 ?_
    rw [rounds_succ]
    go_wp2_with (fail)
    refine ⟨by simp, .inl ⟨_, _, rfl, run_takeDeferred HD.out, ?_⟩⟩
    have hk := HK.out.trans (KeepC.putObj (o' := .deferred none) HD.out rfl hD)
    exact ⟨_, results_none rfl _ _ _, ⟨_, rfl⟩, .inl ⟨S, HJ.out _ _ _ _ H0.out (HO'.out.trans hk.only (by simp))⟩⟩
theorem nlen_nil (w : World) : Calls Try.prog 12 #[.pointer none] w fun e w' => e = .returned (.int .i64 0) ∧ Only [] w w' := by
  go_enter Try.func12, Try.ntmps12
  go_wp2_with (fail)
  go_ret
  exact ⟨rfl, Only.refl _ _⟩
theorem ntake_nil (a b : Int) (w : World) : Calls Try.prog 11 #[.pointer none, .int .i64 a, .int .i64 b] w fun e w' => e = .returned (.tuple #[.int .i64 0, .bool false]) ∧ Only [] w w' := by
  go_enter Try.func11, Try.ntmps11
  go_wp2_with (fail)
  go_ret2
  exact ⟨rfl, (Only.refl _ _).alloc _⟩
theorem nsend_nil (a b v : Int) (w : World) : Calls Try.prog 10 #[.pointer none, .int .i64 a, .int .i64 b, .int .i64 v] w fun e w' => e = .returned (.int .i64 1) ∧ Only [] w w' := by
  go_enter Try.func10, Try.ntmps10
  go_wp2_with (fail)
  go_ret
  exact ⟨rfl, Only.refl _ _⟩
theorem ncopy_nil (w : World) : Calls Try.prog 15 #[.pointer none] w fun e w' => e = .returned (.pointer none) ∧ Only [] w w' := by
  go_enter Try.func15, Try.ntmps15
  go_wp2_with (fail)
  go_ret
  exact ⟨rfl, Only.refl _ _⟩
end Go.Proofs.Ytlhmhpopppfpkaa
