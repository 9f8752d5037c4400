/- LinkNil: the law's own walk. -/
import Derived.Test.YtlhmhpopppfpkaaNilN
import Derived.Test.YtlhmhpopppfpkaaAwake
namespace Go.Proofs.Ytlhmhpopppfpkaa
open Go.RowKit Go.Kx
set_option maxRecDepth 100000

set_option maxHeartbeats 4000000 in
theorem linknil_any (a b v : Int) (w : World) :
    Calls Try.prog 7 #[.int .i64 a, .int .i64 b, .int .i64 v] w fun e w' => e = .returned (.bool true) ∧ Only [] w w' := by
  refine calls_marks Try.func7 rfl ?_
  simp only [Try.ntmps7, List.size_toArray, List.length_cons, List.length_nil, Nat.reduceAdd, Nat.reduceSub, Array.replicate_succ, Array.replicate_zero, List.push_toArray, List.append_toArray, List.nil_append, List.cons_append]
  go_wp2_with (fail)
  refine (awake_any _).mono ?_
  rintro e w1 ⟨rfl, o1⟩
  have HO1 := Lib.hid o1
  clear o1
  go_wp2_with (fail)
  have x1 := Blk.new w1 3 #[.int .i64 0]
  have HO2 := Lib.hid (HO1.out.trans (c := w1.alloc (.cells #[.int .i64 0] 3)) ((Only.refl [] _).alloc _) (by simp))
  generalize hW : w1.alloc (.cells #[.int .i64 0] 3) = w2 at *
  obtain ⟨nb, hnb⟩ : ∃ nb, w1.heap.size = nb := ⟨_, rfl⟩
  rw [hnb] at x1 ⊢
  refine (nall_any _ _ rfl w2).mono ?_
  rintro e w3 ⟨rfl, rfl⟩
  have hnw : w.heap.size ≤ nb := by have := HO1.out.size; omega
  have hnl : nb < w2.heap.size := x1.lt
  go_wp2_with (fail)
  have hbx := Blk.new w2 24 #[.pointer none]
  have ox : Only [] w2 (w2.alloc (.cells #[.pointer none] 24)) := (Only.refl _ _).alloc _
  have X1 := Lib.hid (ox.blk x1 (by simp))
  have hseq := nall_nil hbx
  have HO3 := Lib.hid (HO2.out.trans ox (by simp))
  clear x1 HO1 HO2 hbx ox hW hnb
  generalize hW2 : w2.alloc (.cells #[.pointer none] 24) = w3 at *
  refine' wp_rangeFunc_seqs (gf := 24) (lb := #[.pointer (some ⟨w2.heap.size, 0, none⟩)]) (vs := []) rfl (enters Try.func24 (by kernel_rfl) rfl)
    hseq (by simp) [] (by simp) (by simp)
    (fun _ _ X => KeepC w3.heap.size w3 X) (fun _ _ => False) (fun _ _ _ _ h k => h.trans k) (fun _ _ _ h _ => h) (KeepC.refl _ _)
    (fun _ => { tmps := #[], defers := [] }) (by intro l k v W K hv; simp at hv) (by intro l k v S W hv; simp at hv) ?done (fun _ _ _ _ h _ => h.elim)
  case done =>
    intro D S' X hD hk hdf
    have B1 := Lib.hid (hk.blk X1.out)
    have HX := Lib.hid (HO3.out.trans hk.only (by simp))
    have HD := Lib.hid hdf
    have hDX : D < X.heap.size := (Array.getElem?_eq_some_iff.1 hdf).1
    have hw3 := HO3.out.size
    clear hseq hk hdf X1 HO3 hnl
    go_wp2_with (fail)
    refine (nheads_any _ _ rfl X).mono ?_
    rintro e w4 ⟨rfl, rfl⟩
    go_wp2_with (fail)
    have hbx := Blk.new X 24 #[.pointer none]
    have ox : Only [] X (X.alloc (.cells #[.pointer none] 24)) := (Only.refl _ _).alloc _
    have X1 := Lib.hid (ox.blk B1.out (by simp))
    have hseq := nheads_nil hbx
    have HO3 := Lib.hid (HX.out.trans ox (by simp))
    have HD' := Lib.hid ((ox.block D hDX (by simp)).trans HD.out)
    clear hbx ox HX HD B1
    generalize hW3 : X.alloc (.cells #[.pointer none] 24) = w5 at *
    refine' wp_rangeFunc_seqs (gf := 27) (lb := #[.pointer (some ⟨X.heap.size, 0, none⟩)]) (vs := []) rfl (enters Try.func27 (by kernel_rfl) rfl)
      hseq (by simp) [] (by simp) (by simp)
      (fun _ _ X => KeepC w5.heap.size w5 X) (fun _ _ => False) (fun _ _ _ _ h k => h.trans k) (fun _ _ _ h _ => h) (KeepC.refl _ _)
      (fun _ => { tmps := #[], defers := [] }) (by intro l k v W K hv; simp at hv) (by intro l k v S W hv; simp at hv) ?done2 (fun _ _ _ _ h _ => h.elim)
    case done2 =>
      intro D2 S' Y hD2 hk hdf
      have B1 := Lib.hid (hk.blk X1.out)
      have HY := Lib.hid (HO3.out.trans hk.only (by simp))
      have HD2 := Lib.hid hdf
      have HD1 := Lib.hid (hk.block D _ HD'.out (.inl (by have := (Array.getElem?_eq_some_iff.1 HD'.out).1; omega)))
      have hD5 : D < w5.heap.size := (Array.getElem?_eq_some_iff.1 HD'.out).1
      have hw5 := HO3.out.size
      clear hseq hk hdf X1 HD'
      go_wp2_with (fail)
      refine (ntake_nil a b Y).mono ?_
      rintro e w6 ⟨rfl, o6⟩
      have B6 := Lib.hid (o6.blk B1.out (by simp))
      have HO6 := Lib.hid o6
      clear o6
      go_wp2_with (fail)
      refine (awake_any _).mono ?_
      rintro e w7 ⟨rfl, o7⟩
      obtain ⟨n0, nl⟩ := (o7.blk B6.out (by simp)).facts1
      have HO7 := Lib.hid o7
      clear o7
      go_wp2_with (fail)
      refine (nsend_nil a b v _).mono ?_
      rintro e w8 ⟨rfl, o8⟩
      have HO8 := Lib.hid o8
      clear o8
      go_wp2_with (fail)
      refine (nlen_nil _).mono ?_
      rintro e w9 ⟨rfl, o9⟩
      have HO9 := Lib.hid o9
      clear o9
      go_wp2_with (fail)
      refine (ncopy_nil _).mono ?_
      rintro e w10 ⟨rfl, o10⟩
      have HO10 := Lib.hid o10
      clear o10
      go_wp2_with (fail)
      have oY := ((((HO6.out.trans HO7.out (by simp)).trans HO8.out (by simp)).trans HO9.out (by simp)).trans HO10.out (by simp) : Only [] Y w10)
      have d2 := (oY.block D2 (Array.getElem?_eq_some_iff.1 HD2.out).1 (by simp)).trans HD2.out
      have d1 := (oY.block D (Array.getElem?_eq_some_iff.1 HD1.out).1 (by simp)).trans HD1.out
      have hne : D ≠ D2 := by omega
      refine ⟨by simp, .inl ⟨_, _, rfl, run_takeDeferred d2, ?_⟩⟩
      refine ⟨by simp, .inl ⟨_, _, rfl, run_takeDeferred ((World.putObj_heap_other hne).trans d1), ?_⟩⟩
      have o := HY.out.trans oY (by simp)
      have hs3 := HO3.out.size
      have k1 : KeepC w.heap.size w10 (w10.putObj D2 (.deferred none)) := KeepC.putObj d2 rfl (by omega)
      have k2 : KeepC w.heap.size (w10.putObj D2 (.deferred none)) ((w10.putObj D2 (.deferred none)).putObj D (.deferred none)) := KeepC.putObj ((World.putObj_heap_other hne).trans d1) rfl (by omega)
      exact ⟨_, results_tmp rfl _ _ _, rfl, (o.keepC k1 (Nat.le_refl _)).keepC k2 (Nat.le_refl _)⟩
end Go.Proofs.Ytlhmhpopppfpkaa
