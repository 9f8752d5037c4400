import Derived.Test.YtdneihlpdnhhnaaAll
namespace Go.Proofs.Ytdneihlpdnhhnaa
open Go.RowKit Go.Kx
attribute [local go_sem] Oper.semAt_some

set_option maxHeartbeats 400000 in
theorem len_nil (w : World) : Calls Try.prog 10 #[.pointer none] w fun e w' => e = .returned (.int .i64 0) ∧ w = w' := by
  go_enter Try.func10, Try.ntmps10
  go_wp2
  go_ret
  exact ⟨rfl, rfl⟩
set_option maxHeartbeats 400000 in
theorem peek_nil (w : World) : Calls Try.prog 14 #[.pointer none] w fun e w' => e = .returned (.tuple #[.int .i64 0, .bool false]) ∧ Only [] w w' := by
  go_enter Try.func14, Try.ntmps14
  go_wp2_with (go_at_call 10; refine (len_nil _).mono ?_; rintro e w' ⟨rfl, rfl⟩)
  go_ret2
  exact ⟨rfl, (Only.refl _ _).alloc _⟩
set_option maxHeartbeats 400000 in
theorem pop_nil (w : World) : Calls Try.prog 11 #[.pointer none] w fun e w' => e = .returned (.tuple #[.int .i64 0, .bool false]) ∧ Only [] w w' := by
  go_enter Try.func11, Try.ntmps11
  go_wp2_with (go_at_call 14; refine (peek_nil _).mono ?_; rintro e w' ⟨rfl, ho⟩)
  go_ret2
  exact ⟨rfl, ho⟩
set_option maxHeartbeats 400000 in
theorem push_nil (x : Int) (w : World) : Calls Try.prog 9 #[.pointer none, .int .i64 x] w fun e w' => e = .returned (.int .i64 1) ∧ w = w' := by
  go_enter Try.func9, Try.ntmps9
  go_wp2
  go_ret
  exact ⟨rfl, rfl⟩
set_option maxHeartbeats 400000 in
theorem copy_nil (w : World) : Calls Try.prog 15 #[.pointer none] w fun e w' => e = .returned (.pointer none) ∧ w = w' := by
  go_enter Try.func15, Try.ntmps15
  go_wp2
  go_ret
  exact ⟨rfl, rfl⟩

set_option maxHeartbeats 2000000 in
theorem all_seqs_nil {c : Nat} {w : World} (hc : Blk w c 24 #[.pointer none]) :
    Seqs Try.prog 22 #[.pointer (some ⟨c, 0, none⟩)] [] [] w := by
  intro l J Jx W S hK hl hlW hS _ hJ hY h0
  have cc := (hK.blk hc).cell 0
  simp at cc
  have H0 := Lib.hid h0
  clear hc hJ hY h0 hK
  show Calls Try.prog 22 #[.func (.yield l) #[] #[], .pointer (some ⟨c, 0, none⟩)] W _
  go_enter Try.func22, Try.ntmps22
  go_wp2
  refine bodyPost_ret (results_none rfl _ _ _) rfl ?_
  exact ⟨⟨_, rfl⟩, .inl ⟨S, H0.out⟩⟩

set_option maxRecDepth 100000 in
set_option maxHeartbeats 2000000 in
theorem nil_any (x : Int) (w : World) : Calls Try.prog 5 #[.int .i64 x] w fun e w' => e = .returned (.bool true) ∧ Only [] w w' := by
  refine calls_marks Try.func5 rfl ?_
  simp only [Try.ntmps5, List.size_toArray, List.length_cons, List.length_nil, Nat.reduceAdd, Nat.reduceSub, Array.replicate_succ, Array.replicate_zero, List.push_toArray, List.append_toArray, List.nil_append, List.cons_append]
  go_wp2_with (fail)
  refine (awake_any _).mono ?_; rintro e w1 ⟨rfl, o1⟩
  go_wp2_with (fail)
  refine (pop_nil _).mono ?_; rintro e w2 ⟨rfl, o2⟩
  go_wp2_with (fail)
  refine (peek_nil _).mono ?_; rintro e w3 ⟨rfl, o3⟩
  go_wp2_with (fail)
  refine (all_any _ none rfl _).mono ?_; rintro e w4 ⟨rfl, rfl⟩
  have o4 : Only [] w w3 := (o1.trans o2 (fun _ h => by simp at h)).trans o3 (fun _ h => by simp at h)
  have s4 := o4.size
  go_wp2_with (fail)
  refine wp_rangeFunc_seqs (gf := 22) (lb := #[.pointer (some ⟨w3.heap.size + 1, 0, none⟩)]) (vs := []) rfl (enters Try.func22 (by kernel_rfl) rfl)
    (all_seqs_nil (by have := Blk.new (w3.alloc (Obj.cells #[.int .i64 0] 3)) 24 #[.pointer none]; simpa using this))
    (by simp) [] (by simp) (by simp)
    (fun _ _ W => Blk W w3.heap.size 3 #[.int .i64 0] ∧ Only [] w W)
    (fun _ _ => False) ?hI (fun _ _ _ h _ => h) ?h0 (fun _ => ⟨#[], []⟩) (fun _ _ _ _ _ h => by simp at h) (fun _ _ _ _ _ h => by simp at h) ?done (fun _ _ _ _ h _ => h.elim)
  case hI =>
    rintro k S W1 W2 ⟨h1, h2⟩ hk
    exact ⟨hk.blk h1, h2.keepC hk (by simp; omega)⟩
  case h0 => exact ⟨(Blk.new _ _ _).alloc _, (o4.alloc _).alloc _⟩
  case done =>
    rintro D S W hD ⟨hb, hO⟩ hK
    simp at hD
    have HK := Lib.hid hK
    clear hK
    go_wp2_with (fail)
    refine (awake_any _).mono ?_; rintro e w5 ⟨rfl, o5⟩
    have hK5 := (o5.block D (Array.getElem?_eq_some_iff.1 HK.out).1 (by simp)).trans HK.out
    have HK5 := Lib.hid hK5
    have c0 := (o5.blk hb (by simp)).cell 0
    simp at c0
    clear hK5
    go_wp2_with (fail)
    refine (push_nil _ _).mono ?_; rintro e w6 ⟨rfl, rfl⟩
    go_wp2_with (fail)
    refine (len_nil _).mono ?_; rintro e w6 ⟨rfl, rfl⟩
    go_wp2_with (fail)
    refine (copy_nil _).mono ?_; rintro e w6 ⟨rfl, rfl⟩
    go_wp2_with (fail)
    refine ⟨by simp, .inl ⟨_, _, rfl, run_takeDeferred HK5.out, ?_⟩⟩
    have hk : KeepC D w5 (w5.putObj D (.deferred none)) := KeepC.putObj HK5.out rfl (Nat.le_refl _)
    exact ⟨_, results_tmp rfl _ _ _, rfl, (hO.trans o5 (fun _ h => by simp at h)).keepC hk (by omega)⟩

end Go.Proofs.Ytdneihlpdnhhnaa
