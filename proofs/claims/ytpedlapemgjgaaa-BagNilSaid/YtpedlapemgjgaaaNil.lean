/- BagNil: what a nil bag answers; the law's own walk. -/
import Derived.Test.YtpedlapemgjgaaaAwake
namespace Go.Proofs.Ytpedlapemgjgaaa
open Go.RowKit Go.Kx Go.Bag
attribute [local go_sem] Oper.semAt_some
set_option maxRecDepth 100000
theorem nil_put (v : Value) (w : World) : Calls Try.prog 35 #[.pointer none, v] w fun e w' => e = .returned (.tuple #[]) ∧ w = w' := by
  go_enter Try.func35, Try.ntmps35
  go_wp2_with (fail)
  refine bodyPost_ret (results_none rfl _ _ _) rfl ?_
  exact ⟨rfl, rfl⟩
theorem nil_len (w : World) : Calls Try.prog 16 #[.pointer none] w fun e w' => e = .returned (.int .i64 0) ∧ w = w' := by
  go_enter Try.func16, Try.ntmps16
  go_wp2_with (fail)
  go_ret
  exact ⟨rfl, rfl⟩
theorem nil_at (x : Int) (w : World) : Calls Try.prog 20 #[.pointer none, .int .i64 x] w fun e w' => e = .returned (.tuple #[.int .i64 0, .bool false]) ∧ Only [] w w' := by
  by_cases hx : x < 0
  · have e0 : decide (x < 0) = true := decide_eq_true hx
    go_enter Try.func20, Try.ntmps20
    go_wp2_with (fail)
    go_ret2
    exact ⟨rfl, (Only.refl _ _).alloc _⟩
  · have e0 : decide (x < 0) = false := decide_eq_false hx
    have e1 : decide (0 ≤ x) = true := decide_eq_true (by omega)
    go_enter Try.func20, Try.ntmps20
    go_wp2_with (fail)
    refine (nil_len _).mono ?_
    rintro e w1 ⟨rfl, rfl⟩
    go_wp2_with (fail)
    go_ret2
    exact ⟨rfl, (Only.refl _ _).alloc _⟩
theorem nil_count (x : Int) (w : World) : Calls Try.prog 13 #[.pointer none, .int .i64 x] w fun e w' => e = .returned (.int .i64 0) ∧ w = w' := by
  go_enter Try.func13, Try.ntmps13
  go_wp2_with (fail)
  go_ret
  exact ⟨rfl, rfl⟩
theorem nil_drop (x : Int) (w : World) : Calls Try.prog 19 #[.pointer none, .int .i64 x] w fun e w' => e = .returned (.bool false) ∧ w = w' := by
  go_enter Try.func19, Try.ntmps19
  go_wp2_with (fail)
  go_ret
  exact ⟨rfl, rfl⟩
theorem nil_new (v : Value) (w : World) : Calls Try.prog 10 #[.nilFunc, v] w fun e w' => e = .returned (.pointer none) ∧ w = w' := by
  have hq : ∀ W, (binOp .eql 26 .nilFunc .nilFunc).run Try.prog W = .ok (.bool true) W := fun W => by
    have h : ∀ d, (Op.equalIn (d + 1) 26 .nilFunc .nilFunc).run Try.prog W = .ok true W := fun d => by simp [Op.equalIn, run_underlying Try.underlying26]
    simp only [binOp]
    simp [Op.equal, Op.maxDepth, h 9999]
  go_enter Try.func10, Try.ntmps10
  go_wp2_with (fail)
  go_ret
  exact ⟨rfl, rfl⟩
theorem nil_mergeL (p : Option Addr) (w : World) : Calls Try.prog 15 #[.pointer none, .pointer p] w fun e w' => e = .returned (.pointer none) ∧ w = w' := by
  go_enter Try.func15, Try.ntmps15
  go_wp2_with (fail)
  go_ret
  exact ⟨rfl, rfl⟩
theorem nil_mergeR (g : Nat) (w : World) : Calls Try.prog 15 #[.pointer (some ⟨g, 0, none⟩), .pointer none] w fun e w' => e = .returned (.pointer none) ∧ w = w' := by
  go_enter Try.func15, Try.ntmps15
  go_wp2_with (fail)
  go_ret
  exact ⟨rfl, rfl⟩
theorem nil_same (w : World) : Calls Try.prog 14 #[.pointer none, .pointer none] w fun e w' => e = .returned (.bool true) ∧ w = w' := by
  go_enter Try.func14, Try.ntmps14
  go_wp2_with (fail)
  go_ret
  exact ⟨rfl, rfl⟩
theorem nil_sameL (g : Nat) (w : World) : Calls Try.prog 14 #[.pointer none, .pointer (some ⟨g, 0, none⟩)] w fun e w' => e = .returned (.bool false) ∧ w = w' := by
  go_enter Try.func14, Try.ntmps14
  go_wp2_with (fail)
  go_ret
  exact ⟨rfl, rfl⟩
theorem nil_sameR (g : Nat) (w : World) : Calls Try.prog 14 #[.pointer (some ⟨g, 0, none⟩), .pointer none] w fun e w' => e = .returned (.bool false) ∧ w = w' := by
  go_enter Try.func14, Try.ntmps14
  go_wp2_with (fail)
  go_ret
  exact ⟨rfl, rfl⟩
theorem nil_seqs {w : World} {cb : Nat} (hc : Blk w cb 24 #[.pointer none]) : SeqsT Try.prog 36 #[.pointer (some ⟨cb, 0, none⟩)] [] [cb] w := by
  intro l J Jx W S hK hl hlW hS hpr hJ hJx hY h0
  have hbx := hK.blk hc
  obtain ⟨b0, bl⟩ := hbx.facts1
  have H0 := Lib.hid h0
  clear hc hK hJ hJx hY h0 hS hpr hbx
  show Calls Try.prog 36 #[.func (.yield l) #[] #[], .pointer (some ⟨cb, 0, none⟩)] W _
  go_enter Try.func36, Try.ntmps36
  go_wp2_with (fail)
  refine bodyPost_ret (results_none rfl _ _ _) rfl ?_
  exact ⟨⟨_, rfl⟩, .inl ⟨S, H0.out⟩⟩
theorem nil_many {A : Option Addr} {cap : Nat} {L : List Int} {x : Int} {w : World} (hl : 200 < L.length) :
    Calls Try.prog 8 #[.int .i64 x, .slice A L.length cap] w fun e w' => e = .returned (.bool true) ∧ Only [] w w' := by
  generalize L.length = n at *
  have hg : decide ((200 : Int) < (n : Int)) = true := by simp; omega
  refine calls_marks Try.func8 rfl ?_
  simp only [Try.ntmps8, List.size_toArray, List.length_cons, List.length_nil, Nat.reduceAdd, Nat.reduceSub, Array.replicate_succ, Array.replicate_zero, List.push_toArray, List.append_toArray, List.nil_append, List.cons_append]
  go_wp2_with (fail)
  refine (awake_any _).mono ?_
  rintro e w1 ⟨rfl, o1⟩
  go_wp2_with (fail)
  exact ⟨.bool true, by simp [results, Try.results8, go_sem], rfl, o1⟩
set_option maxHeartbeats 4000000 in
theorem nil_few {A : Option Addr} {cap : Nat} {L : List Int} {x : Int} {w : World} (hL : RowC w A (flat1 L)) (h1 : L.length ≤ 200) :
    Calls Try.prog 8 #[.int .i64 x, .slice A L.length cap] w fun e w' => e = .returned (.bool true) ∧ Only [] w w' := by
  obtain ⟨n, hn⟩ : ∃ n, L.length = n := ⟨_, rfl⟩
  rw [hn] at h1 ⊢
  have HN := Lib.hid hn
  have HL := Lib.hid hL
  clear hn hL
  have hg : decide ((200 : Int) < (n : Int)) = false := by simp; omega
  refine calls_marks Try.func8 rfl ?_
  simp only [Try.ntmps8, List.size_toArray, List.length_cons, List.length_nil, Nat.reduceAdd, Nat.reduceSub, Array.replicate_succ, Array.replicate_zero, List.push_toArray, List.append_toArray, List.nil_append, List.cons_append]
  go_wp2_with (fail)
  refine (awake_any _).mono ?_
  rintro e w1 ⟨rfl, o1⟩
  have HO1 := Lib.hid o1
  clear o1 hg
  go_wp2_with (fail)
  refine (nil_put _ _).mono ?_
  rintro e w2 ⟨rfl, rfl⟩
  go_wp2_with (fail)
  refine (nil_at _ _).mono ?_
  rintro e w3 ⟨rfl, o3⟩
  have HO3 := Lib.hid (HO1.out.trans o3 (by simp))
  clear o3 HO1
  go_wp2_with (fail)
  have q5 := Blk.new w3 3 #[.int .i64 0]
  have o5 : Only [] w3 (w3.alloc (.cells #[.int .i64 0] 3)) := (Only.refl _ _).alloc _
  generalize w3.alloc (.cells #[.int .i64 0] 3) = w5 at q5 o5 ⊢
  obtain ⟨nb, hnb⟩ : ∃ nb, w3.heap.size = nb := ⟨_, rfl⟩
  rw [hnb] at q5 ⊢
  clear hnb
  refine (all_any none w5).mono ?_
  rintro e w6' ⟨rfl, rfl⟩
  have bc := Blk.new w5 24 #[.pointer none]
  have o6 : Only [] w5 (w5.alloc (.cells #[.pointer none] 24)) := (Only.refl _ _).alloc _
  have hnl : nb < w5.heap.size := q5.lt
  generalize w5.alloc (.cells #[.pointer none] 24) = w6 at bc o6 ⊢
  obtain ⟨cb, hcb⟩ : ∃ cb, w5.heap.size = cb := ⟨_, rfl⟩
  rw [hcb] at bc hnl ⊢
  clear hcb
  have Q6 := Lib.hid (o6.blk q5 (by simp))
  have HO6 := Lib.hid ((HO3.out.trans o5 (by simp)).trans o6 (by simp))
  have HQ := Lib.hid (nil_seqs bc)
  clear bc o6 q5 o5 HO3
  go_wp2_with (fail)
  refine' wp_rangeFunc_seqsT (gf := 36) (lb := #[.pointer (some ⟨cb, 0, none⟩)]) (vs := []) (prot := [cb]) rfl (enters Try.func36 (by kernel_rfl) rfl)
    HQ.out (by simp) [] (by simp) (by simp)
    (fun k S W => S = [] ∧ Only [] w6 W)
    (fun c S W => False) ?hI ?hIx ?h0
    (fun _ _ => { tmps := #[], defers := [] }) (fun k V => V) (fun k V => Only.refl [] V) ?assign ?body ?done ?stop
  case assign =>
    intro l k v w K hv
    simp at hv
  case hI =>
    rintro k S W1 W2 ⟨rfl, h5⟩ hk
    exact ⟨rfl, h5.keepT hk (Nat.le_refl _)⟩
  case hIx => exact fun _ _ _ _ h => h.elim
  case h0 => exact ⟨rfl, Only.refl _ _⟩
  case stop => exact fun _ _ _ _ _ _ h => h.elim
  case body =>
    rintro l2 k vv S V X hv
    simp at hv
  case done =>
    rintro D S W hD hDS ⟨rfl, hO⟩ hKd
    have HNB := Lib.hid (hO.blk Q6.out (by simp))
    have HO := Lib.hid (HO6.out.trans hO (by simp))
    have HD := Lib.hid hKd
    have hz6 := HO6.out.size
    clear hKd hDS hO
    go_wp2_with (fail)
    refine (newI (cl := cap) (HL.out.only HO.out) HN.out (by omega)).mono ?_
    rintro e w7 ⟨rfl, ⟨Ax, cx, -⟩, o7⟩
    obtain ⟨g, hgx⟩ : ∃ g, W.heap.size = g := ⟨_, rfl⟩
    rw [hgx]
    have HO7 := Lib.hid (HO.out.trans o7 (by simp))
    have HN7 := Lib.hid (o7.blk HNB.out (by simp))
    have HD7 := Lib.hid ((o7.block D (Array.getElem?_eq_some_iff.1 HD.out).1 (by simp)).trans HD.out)
    clear hgx o7 HO HNB HD
    go_wp2_with (fail)
    refine (awake_any _).mono ?_
    rintro e w8 ⟨rfl, o8⟩
    have HO8 := Lib.hid (HO7.out.trans o8 (by simp))
    have HN8 := Lib.hid (o8.blk HN7.out (by simp))
    have HD8 := Lib.hid ((o8.block D (Array.getElem?_eq_some_iff.1 HD7.out).1 (by simp)).trans HD7.out)
    obtain ⟨n0, nl⟩ := HN8.out.facts1
    clear o8 HO7 HN7 HD7
    go_wp2_with (fail)
    refine (nil_new _ _).mono ?_
    rintro e w9 ⟨rfl, rfl⟩
    go_wp2_with (fail)
    refine (nil_len _).mono ?_
    rintro e w9 ⟨rfl, rfl⟩
    go_wp2_with (fail)
    refine (nil_count _ _).mono ?_
    rintro e w9 ⟨rfl, rfl⟩
    go_wp2_with (fail)
    refine (nil_drop _ _).mono ?_
    rintro e w9 ⟨rfl, rfl⟩
    go_wp2_with (fail)
    refine (nil_mergeL _ _).mono ?_
    rintro e w9 ⟨rfl, rfl⟩
    go_wp2_with (fail)
    refine (nil_mergeR _ _).mono ?_
    rintro e w9 ⟨rfl, rfl⟩
    go_wp2_with (fail)
    refine (nil_same _).mono ?_
    rintro e w9 ⟨rfl, rfl⟩
    go_wp2_with (fail)
    refine (nil_sameL _ _).mono ?_
    rintro e w9 ⟨rfl, rfl⟩
    go_wp2_with (fail)
    refine (nil_sameR _ _).mono ?_
    rintro e w9 ⟨rfl, rfl⟩
    go_wp2_with (fail)
    refine ⟨by simp, .inl ⟨_, _, rfl, run_takeDeferred HD8.out, ?_⟩⟩
    have hk := KeepC.putObj (B := D) (o' := .deferred none) HD8.out rfl (Nat.le_refl _)
    exact ⟨.bool true, by simp [results, Try.results8, go_sem], rfl, HO8.out.keepC hk (by omega)⟩
theorem bagnil_any {A : Option Addr} {cap : Nat} {L : List Int} {w : World} (hL : RowC w A (flat1 L)) (x : Int) :
    Calls Try.prog 8 #[.int .i64 x, .slice A L.length cap] w fun e w' => e = .returned (.bool true) ∧ Only [] w w' := by
  by_cases hl : 200 < L.length
  · exact nil_many hl
  · exact nil_few hL (by omega)
end Go.Proofs.Ytpedlapemgjgaaa
