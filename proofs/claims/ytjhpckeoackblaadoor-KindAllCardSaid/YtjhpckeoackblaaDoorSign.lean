/- sign. -/
import Derived.Test.YtjhpckeoackblaaDoorKinds
namespace Go.Proofs.YtjhpckeoackblaaDoor
open Go.RowKit Go.Kx
open Go.Val (Tt)
set_option maxRecDepth 100000
set_option maxHeartbeats 4000000 in
theorem sign13 {B0 B : Nat} {A : Option Addr} {cap : Nat} {es : List Tx} {w : World} (h : AR B0 B w A es) (_hB0 : B0 ≤ w.heap.size) (_hB : B ≤ w.heap.size) :
    Calls Tryd.prog 35 #[.int .i64 13, .slice A es.length cap] w fun r w' => RG B0 B w (signK 13 (es.map Tx.tr)) r w' := by
  have hs : signK 13 (es.map Tx.tr) = if decide (kindsL es = [0]) = true then (inT, 0) else (noT, 12) := by rw [← kindsB_of]; simp [signK]
  rw [hs]
  clear hs
  have HR := Lib.hid h.row
  have R0 := Lib.hid (Blk.new w 34 #[.int .i64 0, .slice none 0 0])
  have O0 := Lib.hid (show Only [] w (w.alloc (.cells #[.int .i64 0, .slice none 0 0] 34)) from (Only.refl _ _).alloc _)
  have hz := Blk.new (w.alloc (.cells #[.int .i64 0, .slice none 0 0] 34)) 3 #[.int .i64 0]
  have O1 := Lib.hid (show Only [] w ((w.alloc (.cells #[.int .i64 0, .slice none 0 0] 34)).alloc (.cells #[.int .i64 0] 3)) from ((Only.refl _ _).alloc _).alloc _)
  have R1 := Lib.hid (show Blk ((w.alloc (.cells #[.int .i64 0, .slice none 0 0] 34)).alloc (.cells #[.int .i64 0] 3)) w.heap.size 34 #[.int .i64 0, .slice none 0 0] from Blk.alloc R0.out _)
  simp only [World.size_alloc] at hz
  have CK := Lib.hid (show Calls Tryd.prog 49 #[.slice A es.length cap, .slice (some ⟨w.heap.size + 1, 0, none⟩) 1 1] ((w.alloc (.cells #[.int .i64 0, .slice none 0 0] 34)).alloc (.cells #[.int .i64 0] 3)) fun r w' => r = .returned (.bool (decide (kindsL es = [0]))) ∧ Only [] ((w.alloc (.cells #[.int .i64 0, .slice none 0 0] 34)).alloc (.cells #[.int .i64 0] 3)) w' from kinds_any (want := [0]) (h.row.keep O1.out) hz (by simp))
  obtain ⟨q, hq⟩ : ∃ q, decide (kindsL es = [0]) = q := ⟨_, rfl⟩
  rw [hq] at CK
  rw [hq]
  clear h _hB0 _hB hq hz HR
  go_enter Tryd.func35, Tryd.ntmps35
  go_wp2_with (fail)
  refine CK.out.mono ?_
  rintro r w2 ⟨rfl, o2⟩
  have O2 := Lib.hid (O1.out.trans o2 (by simp))
  have R2 := Lib.hid (o2.blk R1.out (by simp))
  clear o2 CK
  cases q with
  | false =>
    obtain ⟨r0, r1, rl⟩ := R2.out.facts2
    have g0 := R2.out.frozen 0
    have g1 := R2.out.frozen 1
    go_wp2_with (fail)
    have hb5 := (R2.out.set_ 0 (.int .i64 0)).set_ 1 (.slice none 0 0)
    obtain ⟨e0, e1, -⟩ := Blk.facts2 (a := .int .i64 0) (b := .slice none 0 0) hb5
    refine bodyPost_ret (v := .tuple #[.agg #[.int .i64 0, .slice none 0 0], .int .i64 12]) (by simp [results, Tryd.results35, go_sem, e0, e1]) rfl ?_
    clear e0 e1 hb5
    have o7 : Only [w.heap.size] w2 _ := ((Only.refl _ w2).setCell (p := ⟨w.heap.size, 0, none⟩) (.inl (by simp)) (.int .i64 0)).setCell (p := ⟨w.heap.size, 1, none⟩) (.inl (by simp)) (.slice none 0 0)
    exact ⟨0, none, 0, [], rfl, plain_TK _ _ 0 ⟨by omega, by omega⟩ _, O2.out.trans o7 (fun b hb => .inr (by simp at hb; omega))⟩
  | true =>
    go_wp2_with (fail)
    refine (plain_any 0 _).mono ?_
    rintro r w3 ⟨rfl, o3⟩
    have O3 := Lib.hid (O2.out.trans o3 (by simp))
    have R3 := Lib.hid (o3.blk R2.out (by simp))
    clear o3
    obtain ⟨r0, r1, rl⟩ := R3.out.facts2
    have g0 := R3.out.frozen 0
    have g1 := R3.out.frozen 1
    go_wp2_with (fail)
    have hb5 := (R3.out.set_ 0 (.int .i64 0)).set_ 1 (.slice none 0 0)
    obtain ⟨e0, e1, -⟩ := Blk.facts2 (a := .int .i64 0) (b := .slice none 0 0) hb5
    refine bodyPost_ret (v := .tuple #[.agg #[.int .i64 0, .slice none 0 0], .int .i64 0]) (by simp [results, Tryd.results35, go_sem, e0, e1]) rfl ?_
    clear e0 e1 hb5
    have o7 : Only [w.heap.size] w3 _ := ((Only.refl _ w3).setCell (p := ⟨w.heap.size, 0, none⟩) (.inl (by simp)) (.int .i64 0)).setCell (p := ⟨w.heap.size, 1, none⟩) (.inl (by simp)) (.slice none 0 0)
    exact ⟨0, none, 0, [], rfl, plain_TK _ _ 0 ⟨by omega, by omega⟩ _, O3.out.trans o7 (fun b hb => .inr (by simp at hb; omega))⟩
set_option maxHeartbeats 4000000 in
theorem sign14 {B0 B : Nat} {A : Option Addr} {cap : Nat} {es : List Tx} {w : World} (h : AR B0 B w A es) (_hB0 : B0 ≤ w.heap.size) (_hB : B ≤ w.heap.size) :
    Calls Tryd.prog 35 #[.int .i64 14, .slice A es.length cap] w fun r w' => RG B0 B w (signK 14 (es.map Tx.tr)) r w' := by
  have hs : signK 14 (es.map Tx.tr) = if decide (kindsL es = [1]) = true then (boT, 0) else (noT, 12) := by rw [← kindsB_of]; simp [signK]
  rw [hs]
  clear hs
  have HR := Lib.hid h.row
  have R0 := Lib.hid (Blk.new w 34 #[.int .i64 0, .slice none 0 0])
  have O0 := Lib.hid (show Only [] w (w.alloc (.cells #[.int .i64 0, .slice none 0 0] 34)) from (Only.refl _ _).alloc _)
  have hz := Blk.new (w.alloc (.cells #[.int .i64 0, .slice none 0 0] 34)) 3 #[.int .i64 1]
  have O1 := Lib.hid (show Only [] w ((w.alloc (.cells #[.int .i64 0, .slice none 0 0] 34)).alloc (.cells #[.int .i64 1] 3)) from ((Only.refl _ _).alloc _).alloc _)
  have R1 := Lib.hid (show Blk ((w.alloc (.cells #[.int .i64 0, .slice none 0 0] 34)).alloc (.cells #[.int .i64 1] 3)) w.heap.size 34 #[.int .i64 0, .slice none 0 0] from Blk.alloc R0.out _)
  simp only [World.size_alloc] at hz
  have CK := Lib.hid (show Calls Tryd.prog 49 #[.slice A es.length cap, .slice (some ⟨w.heap.size + 1, 0, none⟩) 1 1] ((w.alloc (.cells #[.int .i64 0, .slice none 0 0] 34)).alloc (.cells #[.int .i64 1] 3)) fun r w' => r = .returned (.bool (decide (kindsL es = [1]))) ∧ Only [] ((w.alloc (.cells #[.int .i64 0, .slice none 0 0] 34)).alloc (.cells #[.int .i64 1] 3)) w' from kinds_any (want := [1]) (h.row.keep O1.out) hz (by simp))
  obtain ⟨q, hq⟩ : ∃ q, decide (kindsL es = [1]) = q := ⟨_, rfl⟩
  rw [hq] at CK
  rw [hq]
  clear h _hB0 _hB hq hz HR
  go_enter Tryd.func35, Tryd.ntmps35
  go_wp2_with (fail)
  refine CK.out.mono ?_
  rintro r w2 ⟨rfl, o2⟩
  have O2 := Lib.hid (O1.out.trans o2 (by simp))
  have R2 := Lib.hid (o2.blk R1.out (by simp))
  clear o2 CK
  cases q with
  | false =>
    obtain ⟨r0, r1, rl⟩ := R2.out.facts2
    have g0 := R2.out.frozen 0
    have g1 := R2.out.frozen 1
    go_wp2_with (fail)
    have hb5 := (R2.out.set_ 0 (.int .i64 0)).set_ 1 (.slice none 0 0)
    obtain ⟨e0, e1, -⟩ := Blk.facts2 (a := .int .i64 0) (b := .slice none 0 0) hb5
    refine bodyPost_ret (v := .tuple #[.agg #[.int .i64 0, .slice none 0 0], .int .i64 12]) (by simp [results, Tryd.results35, go_sem, e0, e1]) rfl ?_
    clear e0 e1 hb5
    have o7 : Only [w.heap.size] w2 _ := ((Only.refl _ w2).setCell (p := ⟨w.heap.size, 0, none⟩) (.inl (by simp)) (.int .i64 0)).setCell (p := ⟨w.heap.size, 1, none⟩) (.inl (by simp)) (.slice none 0 0)
    exact ⟨0, none, 0, [], rfl, plain_TK _ _ 0 ⟨by omega, by omega⟩ _, O2.out.trans o7 (fun b hb => .inr (by simp at hb; omega))⟩
  | true =>
    go_wp2_with (fail)
    refine (plain_any 1 _).mono ?_
    rintro r w3 ⟨rfl, o3⟩
    have O3 := Lib.hid (O2.out.trans o3 (by simp))
    have R3 := Lib.hid (o3.blk R2.out (by simp))
    clear o3
    obtain ⟨r0, r1, rl⟩ := R3.out.facts2
    have g0 := R3.out.frozen 0
    have g1 := R3.out.frozen 1
    go_wp2_with (fail)
    have hb5 := (R3.out.set_ 0 (.int .i64 1)).set_ 1 (.slice none 0 0)
    obtain ⟨e0, e1, -⟩ := Blk.facts2 (a := .int .i64 1) (b := .slice none 0 0) hb5
    refine bodyPost_ret (v := .tuple #[.agg #[.int .i64 1, .slice none 0 0], .int .i64 0]) (by simp [results, Tryd.results35, go_sem, e0, e1]) rfl ?_
    clear e0 e1 hb5
    have o7 : Only [w.heap.size] w3 _ := ((Only.refl _ w3).setCell (p := ⟨w.heap.size, 0, none⟩) (.inl (by simp)) (.int .i64 1)).setCell (p := ⟨w.heap.size, 1, none⟩) (.inl (by simp)) (.slice none 0 0)
    exact ⟨1, none, 0, [], rfl, plain_TK _ _ 1 ⟨by omega, by omega⟩ _, O3.out.trans o7 (fun b hb => .inr (by simp at hb; omega))⟩
set_option maxHeartbeats 4000000 in
theorem sign15 {B0 B : Nat} {A : Option Addr} {cap : Nat} {es : List Tx} {w : World} (h : AR B0 B w A es) (_hB0 : B0 ≤ w.heap.size) (_hB : B ≤ w.heap.size) :
    Calls Tryd.prog 35 #[.int .i64 15, .slice A es.length cap] w fun r w' => RG B0 B w (signK 15 (es.map Tx.tr)) r w' := by
  have hs : signK 15 (es.map Tx.tr) = if decide (kindsL es = [0, 0]) = true then (inT, 0) else (noT, 12) := by rw [← kindsB_of]; simp [signK]
  rw [hs]
  clear hs
  have HR := Lib.hid h.row
  have R0 := Lib.hid (Blk.new w 34 #[.int .i64 0, .slice none 0 0])
  have O0 := Lib.hid (show Only [] w (w.alloc (.cells #[.int .i64 0, .slice none 0 0] 34)) from (Only.refl _ _).alloc _)
  have hz := Blk.new (w.alloc (.cells #[.int .i64 0, .slice none 0 0] 34)) 3 #[.int .i64 0, .int .i64 0]
  have O1 := Lib.hid (show Only [] w ((w.alloc (.cells #[.int .i64 0, .slice none 0 0] 34)).alloc (.cells #[.int .i64 0, .int .i64 0] 3)) from ((Only.refl _ _).alloc _).alloc _)
  have R1 := Lib.hid (show Blk ((w.alloc (.cells #[.int .i64 0, .slice none 0 0] 34)).alloc (.cells #[.int .i64 0, .int .i64 0] 3)) w.heap.size 34 #[.int .i64 0, .slice none 0 0] from Blk.alloc R0.out _)
  simp only [World.size_alloc] at hz
  have CK := Lib.hid (show Calls Tryd.prog 49 #[.slice A es.length cap, .slice (some ⟨w.heap.size + 1, 0, none⟩) 2 2] ((w.alloc (.cells #[.int .i64 0, .slice none 0 0] 34)).alloc (.cells #[.int .i64 0, .int .i64 0] 3)) fun r w' => r = .returned (.bool (decide (kindsL es = [0, 0]))) ∧ Only [] ((w.alloc (.cells #[.int .i64 0, .slice none 0 0] 34)).alloc (.cells #[.int .i64 0, .int .i64 0] 3)) w' from kinds_any (want := [0, 0]) (h.row.keep O1.out) hz (by simp))
  obtain ⟨q, hq⟩ : ∃ q, decide (kindsL es = [0, 0]) = q := ⟨_, rfl⟩
  rw [hq] at CK
  rw [hq]
  clear h _hB0 _hB hq hz HR
  go_enter Tryd.func35, Tryd.ntmps35
  go_wp2_with (fail)
  refine CK.out.mono ?_
  rintro r w2 ⟨rfl, o2⟩
  have O2 := Lib.hid (O1.out.trans o2 (by simp))
  have R2 := Lib.hid (o2.blk R1.out (by simp))
  clear o2 CK
  cases q with
  | false =>
    obtain ⟨r0, r1, rl⟩ := R2.out.facts2
    have g0 := R2.out.frozen 0
    have g1 := R2.out.frozen 1
    go_wp2_with (fail)
    have hb5 := (R2.out.set_ 0 (.int .i64 0)).set_ 1 (.slice none 0 0)
    obtain ⟨e0, e1, -⟩ := Blk.facts2 (a := .int .i64 0) (b := .slice none 0 0) hb5
    refine bodyPost_ret (v := .tuple #[.agg #[.int .i64 0, .slice none 0 0], .int .i64 12]) (by simp [results, Tryd.results35, go_sem, e0, e1]) rfl ?_
    clear e0 e1 hb5
    have o7 : Only [w.heap.size] w2 _ := ((Only.refl _ w2).setCell (p := ⟨w.heap.size, 0, none⟩) (.inl (by simp)) (.int .i64 0)).setCell (p := ⟨w.heap.size, 1, none⟩) (.inl (by simp)) (.slice none 0 0)
    exact ⟨0, none, 0, [], rfl, plain_TK _ _ 0 ⟨by omega, by omega⟩ _, O2.out.trans o7 (fun b hb => .inr (by simp at hb; omega))⟩
  | true =>
    go_wp2_with (fail)
    refine (plain_any 0 _).mono ?_
    rintro r w3 ⟨rfl, o3⟩
    have O3 := Lib.hid (O2.out.trans o3 (by simp))
    have R3 := Lib.hid (o3.blk R2.out (by simp))
    clear o3
    obtain ⟨r0, r1, rl⟩ := R3.out.facts2
    have g0 := R3.out.frozen 0
    have g1 := R3.out.frozen 1
    go_wp2_with (fail)
    have hb5 := (R3.out.set_ 0 (.int .i64 0)).set_ 1 (.slice none 0 0)
    obtain ⟨e0, e1, -⟩ := Blk.facts2 (a := .int .i64 0) (b := .slice none 0 0) hb5
    refine bodyPost_ret (v := .tuple #[.agg #[.int .i64 0, .slice none 0 0], .int .i64 0]) (by simp [results, Tryd.results35, go_sem, e0, e1]) rfl ?_
    clear e0 e1 hb5
    have o7 : Only [w.heap.size] w3 _ := ((Only.refl _ w3).setCell (p := ⟨w.heap.size, 0, none⟩) (.inl (by simp)) (.int .i64 0)).setCell (p := ⟨w.heap.size, 1, none⟩) (.inl (by simp)) (.slice none 0 0)
    exact ⟨0, none, 0, [], rfl, plain_TK _ _ 0 ⟨by omega, by omega⟩ _, O3.out.trans o7 (fun b hb => .inr (by simp at hb; omega))⟩
set_option maxHeartbeats 4000000 in
theorem sign16 {B0 B : Nat} {A : Option Addr} {cap : Nat} {es : List Tx} {w : World} (h : AR B0 B w A es) (_hB0 : B0 ≤ w.heap.size) (_hB : B ≤ w.heap.size) :
    Calls Tryd.prog 35 #[.int .i64 16, .slice A es.length cap] w fun r w' => RG B0 B w (signK 16 (es.map Tx.tr)) r w' := by
  have hs : signK 16 (es.map Tx.tr) = if decide (kindsL es = [0, 0]) = true then (inT, 0) else (noT, 12) := by rw [← kindsB_of]; simp [signK]
  rw [hs]
  clear hs
  have HR := Lib.hid h.row
  have R0 := Lib.hid (Blk.new w 34 #[.int .i64 0, .slice none 0 0])
  have O0 := Lib.hid (show Only [] w (w.alloc (.cells #[.int .i64 0, .slice none 0 0] 34)) from (Only.refl _ _).alloc _)
  have hz := Blk.new (w.alloc (.cells #[.int .i64 0, .slice none 0 0] 34)) 3 #[.int .i64 0, .int .i64 0]
  have O1 := Lib.hid (show Only [] w ((w.alloc (.cells #[.int .i64 0, .slice none 0 0] 34)).alloc (.cells #[.int .i64 0, .int .i64 0] 3)) from ((Only.refl _ _).alloc _).alloc _)
  have R1 := Lib.hid (show Blk ((w.alloc (.cells #[.int .i64 0, .slice none 0 0] 34)).alloc (.cells #[.int .i64 0, .int .i64 0] 3)) w.heap.size 34 #[.int .i64 0, .slice none 0 0] from Blk.alloc R0.out _)
  simp only [World.size_alloc] at hz
  have CK := Lib.hid (show Calls Tryd.prog 49 #[.slice A es.length cap, .slice (some ⟨w.heap.size + 1, 0, none⟩) 2 2] ((w.alloc (.cells #[.int .i64 0, .slice none 0 0] 34)).alloc (.cells #[.int .i64 0, .int .i64 0] 3)) fun r w' => r = .returned (.bool (decide (kindsL es = [0, 0]))) ∧ Only [] ((w.alloc (.cells #[.int .i64 0, .slice none 0 0] 34)).alloc (.cells #[.int .i64 0, .int .i64 0] 3)) w' from kinds_any (want := [0, 0]) (h.row.keep O1.out) hz (by simp))
  obtain ⟨q, hq⟩ : ∃ q, decide (kindsL es = [0, 0]) = q := ⟨_, rfl⟩
  rw [hq] at CK
  rw [hq]
  clear h _hB0 _hB hq hz HR
  go_enter Tryd.func35, Tryd.ntmps35
  go_wp2_with (fail)
  refine CK.out.mono ?_
  rintro r w2 ⟨rfl, o2⟩
  have O2 := Lib.hid (O1.out.trans o2 (by simp))
  have R2 := Lib.hid (o2.blk R1.out (by simp))
  clear o2 CK
  cases q with
  | false =>
    obtain ⟨r0, r1, rl⟩ := R2.out.facts2
    have g0 := R2.out.frozen 0
    have g1 := R2.out.frozen 1
    go_wp2_with (fail)
    have hb5 := (R2.out.set_ 0 (.int .i64 0)).set_ 1 (.slice none 0 0)
    obtain ⟨e0, e1, -⟩ := Blk.facts2 (a := .int .i64 0) (b := .slice none 0 0) hb5
    refine bodyPost_ret (v := .tuple #[.agg #[.int .i64 0, .slice none 0 0], .int .i64 12]) (by simp [results, Tryd.results35, go_sem, e0, e1]) rfl ?_
    clear e0 e1 hb5
    have o7 : Only [w.heap.size] w2 _ := ((Only.refl _ w2).setCell (p := ⟨w.heap.size, 0, none⟩) (.inl (by simp)) (.int .i64 0)).setCell (p := ⟨w.heap.size, 1, none⟩) (.inl (by simp)) (.slice none 0 0)
    exact ⟨0, none, 0, [], rfl, plain_TK _ _ 0 ⟨by omega, by omega⟩ _, O2.out.trans o7 (fun b hb => .inr (by simp at hb; omega))⟩
  | true =>
    go_wp2_with (fail)
    refine (plain_any 0 _).mono ?_
    rintro r w3 ⟨rfl, o3⟩
    have O3 := Lib.hid (O2.out.trans o3 (by simp))
    have R3 := Lib.hid (o3.blk R2.out (by simp))
    clear o3
    obtain ⟨r0, r1, rl⟩ := R3.out.facts2
    have g0 := R3.out.frozen 0
    have g1 := R3.out.frozen 1
    go_wp2_with (fail)
    have hb5 := (R3.out.set_ 0 (.int .i64 0)).set_ 1 (.slice none 0 0)
    obtain ⟨e0, e1, -⟩ := Blk.facts2 (a := .int .i64 0) (b := .slice none 0 0) hb5
    refine bodyPost_ret (v := .tuple #[.agg #[.int .i64 0, .slice none 0 0], .int .i64 0]) (by simp [results, Tryd.results35, go_sem, e0, e1]) rfl ?_
    clear e0 e1 hb5
    have o7 : Only [w.heap.size] w3 _ := ((Only.refl _ w3).setCell (p := ⟨w.heap.size, 0, none⟩) (.inl (by simp)) (.int .i64 0)).setCell (p := ⟨w.heap.size, 1, none⟩) (.inl (by simp)) (.slice none 0 0)
    exact ⟨0, none, 0, [], rfl, plain_TK _ _ 0 ⟨by omega, by omega⟩ _, O3.out.trans o7 (fun b hb => .inr (by simp at hb; omega))⟩
set_option maxHeartbeats 4000000 in
theorem sign17 {B0 B : Nat} {A : Option Addr} {cap : Nat} {es : List Tx} {w : World} (h : AR B0 B w A es) (_hB0 : B0 ≤ w.heap.size) (_hB : B ≤ w.heap.size) :
    Calls Tryd.prog 35 #[.int .i64 17, .slice A es.length cap] w fun r w' => RG B0 B w (signK 17 (es.map Tx.tr)) r w' := by
  have hs : signK 17 (es.map Tx.tr) = if decide (kindsL es = [0, 0]) = true then (inT, 0) else (noT, 12) := by rw [← kindsB_of]; simp [signK]
  rw [hs]
  clear hs
  have HR := Lib.hid h.row
  have R0 := Lib.hid (Blk.new w 34 #[.int .i64 0, .slice none 0 0])
  have O0 := Lib.hid (show Only [] w (w.alloc (.cells #[.int .i64 0, .slice none 0 0] 34)) from (Only.refl _ _).alloc _)
  have hz := Blk.new (w.alloc (.cells #[.int .i64 0, .slice none 0 0] 34)) 3 #[.int .i64 0, .int .i64 0]
  have O1 := Lib.hid (show Only [] w ((w.alloc (.cells #[.int .i64 0, .slice none 0 0] 34)).alloc (.cells #[.int .i64 0, .int .i64 0] 3)) from ((Only.refl _ _).alloc _).alloc _)
  have R1 := Lib.hid (show Blk ((w.alloc (.cells #[.int .i64 0, .slice none 0 0] 34)).alloc (.cells #[.int .i64 0, .int .i64 0] 3)) w.heap.size 34 #[.int .i64 0, .slice none 0 0] from Blk.alloc R0.out _)
  simp only [World.size_alloc] at hz
  have CK := Lib.hid (show Calls Tryd.prog 49 #[.slice A es.length cap, .slice (some ⟨w.heap.size + 1, 0, none⟩) 2 2] ((w.alloc (.cells #[.int .i64 0, .slice none 0 0] 34)).alloc (.cells #[.int .i64 0, .int .i64 0] 3)) fun r w' => r = .returned (.bool (decide (kindsL es = [0, 0]))) ∧ Only [] ((w.alloc (.cells #[.int .i64 0, .slice none 0 0] 34)).alloc (.cells #[.int .i64 0, .int .i64 0] 3)) w' from kinds_any (want := [0, 0]) (h.row.keep O1.out) hz (by simp))
  obtain ⟨q, hq⟩ : ∃ q, decide (kindsL es = [0, 0]) = q := ⟨_, rfl⟩
  rw [hq] at CK
  rw [hq]
  clear h _hB0 _hB hq hz HR
  go_enter Tryd.func35, Tryd.ntmps35
  go_wp2_with (fail)
  refine CK.out.mono ?_
  rintro r w2 ⟨rfl, o2⟩
  have O2 := Lib.hid (O1.out.trans o2 (by simp))
  have R2 := Lib.hid (o2.blk R1.out (by simp))
  clear o2 CK
  cases q with
  | false =>
    obtain ⟨r0, r1, rl⟩ := R2.out.facts2
    have g0 := R2.out.frozen 0
    have g1 := R2.out.frozen 1
    go_wp2_with (fail)
    have hb5 := (R2.out.set_ 0 (.int .i64 0)).set_ 1 (.slice none 0 0)
    obtain ⟨e0, e1, -⟩ := Blk.facts2 (a := .int .i64 0) (b := .slice none 0 0) hb5
    refine bodyPost_ret (v := .tuple #[.agg #[.int .i64 0, .slice none 0 0], .int .i64 12]) (by simp [results, Tryd.results35, go_sem, e0, e1]) rfl ?_
    clear e0 e1 hb5
    have o7 : Only [w.heap.size] w2 _ := ((Only.refl _ w2).setCell (p := ⟨w.heap.size, 0, none⟩) (.inl (by simp)) (.int .i64 0)).setCell (p := ⟨w.heap.size, 1, none⟩) (.inl (by simp)) (.slice none 0 0)
    exact ⟨0, none, 0, [], rfl, plain_TK _ _ 0 ⟨by omega, by omega⟩ _, O2.out.trans o7 (fun b hb => .inr (by simp at hb; omega))⟩
  | true =>
    go_wp2_with (fail)
    refine (plain_any 0 _).mono ?_
    rintro r w3 ⟨rfl, o3⟩
    have O3 := Lib.hid (O2.out.trans o3 (by simp))
    have R3 := Lib.hid (o3.blk R2.out (by simp))
    clear o3
    obtain ⟨r0, r1, rl⟩ := R3.out.facts2
    have g0 := R3.out.frozen 0
    have g1 := R3.out.frozen 1
    go_wp2_with (fail)
    have hb5 := (R3.out.set_ 0 (.int .i64 0)).set_ 1 (.slice none 0 0)
    obtain ⟨e0, e1, -⟩ := Blk.facts2 (a := .int .i64 0) (b := .slice none 0 0) hb5
    refine bodyPost_ret (v := .tuple #[.agg #[.int .i64 0, .slice none 0 0], .int .i64 0]) (by simp [results, Tryd.results35, go_sem, e0, e1]) rfl ?_
    clear e0 e1 hb5
    have o7 : Only [w.heap.size] w3 _ := ((Only.refl _ w3).setCell (p := ⟨w.heap.size, 0, none⟩) (.inl (by simp)) (.int .i64 0)).setCell (p := ⟨w.heap.size, 1, none⟩) (.inl (by simp)) (.slice none 0 0)
    exact ⟨0, none, 0, [], rfl, plain_TK _ _ 0 ⟨by omega, by omega⟩ _, O3.out.trans o7 (fun b hb => .inr (by simp at hb; omega))⟩
set_option maxHeartbeats 4000000 in
theorem sign18 {B0 B : Nat} {A : Option Addr} {cap : Nat} {es : List Tx} {w : World} (h : AR B0 B w A es) (_hB0 : B0 ≤ w.heap.size) (_hB : B ≤ w.heap.size) :
    Calls Tryd.prog 35 #[.int .i64 18, .slice A es.length cap] w fun r w' => RG B0 B w (signK 18 (es.map Tx.tr)) r w' := by
  have hs : signK 18 (es.map Tx.tr) = if decide (kindsL es = [0, 0]) = true then (inT, 0) else (noT, 12) := by rw [← kindsB_of]; simp [signK]
  rw [hs]
  clear hs
  have HR := Lib.hid h.row
  have R0 := Lib.hid (Blk.new w 34 #[.int .i64 0, .slice none 0 0])
  have O0 := Lib.hid (show Only [] w (w.alloc (.cells #[.int .i64 0, .slice none 0 0] 34)) from (Only.refl _ _).alloc _)
  have hz := Blk.new (w.alloc (.cells #[.int .i64 0, .slice none 0 0] 34)) 3 #[.int .i64 0, .int .i64 0]
  have O1 := Lib.hid (show Only [] w ((w.alloc (.cells #[.int .i64 0, .slice none 0 0] 34)).alloc (.cells #[.int .i64 0, .int .i64 0] 3)) from ((Only.refl _ _).alloc _).alloc _)
  have R1 := Lib.hid (show Blk ((w.alloc (.cells #[.int .i64 0, .slice none 0 0] 34)).alloc (.cells #[.int .i64 0, .int .i64 0] 3)) w.heap.size 34 #[.int .i64 0, .slice none 0 0] from Blk.alloc R0.out _)
  simp only [World.size_alloc] at hz
  have CK := Lib.hid (show Calls Tryd.prog 49 #[.slice A es.length cap, .slice (some ⟨w.heap.size + 1, 0, none⟩) 2 2] ((w.alloc (.cells #[.int .i64 0, .slice none 0 0] 34)).alloc (.cells #[.int .i64 0, .int .i64 0] 3)) fun r w' => r = .returned (.bool (decide (kindsL es = [0, 0]))) ∧ Only [] ((w.alloc (.cells #[.int .i64 0, .slice none 0 0] 34)).alloc (.cells #[.int .i64 0, .int .i64 0] 3)) w' from kinds_any (want := [0, 0]) (h.row.keep O1.out) hz (by simp))
  obtain ⟨q, hq⟩ : ∃ q, decide (kindsL es = [0, 0]) = q := ⟨_, rfl⟩
  rw [hq] at CK
  rw [hq]
  clear h _hB0 _hB hq hz HR
  go_enter Tryd.func35, Tryd.ntmps35
  go_wp2_with (fail)
  refine CK.out.mono ?_
  rintro r w2 ⟨rfl, o2⟩
  have O2 := Lib.hid (O1.out.trans o2 (by simp))
  have R2 := Lib.hid (o2.blk R1.out (by simp))
  clear o2 CK
  cases q with
  | false =>
    obtain ⟨r0, r1, rl⟩ := R2.out.facts2
    have g0 := R2.out.frozen 0
    have g1 := R2.out.frozen 1
    go_wp2_with (fail)
    have hb5 := (R2.out.set_ 0 (.int .i64 0)).set_ 1 (.slice none 0 0)
    obtain ⟨e0, e1, -⟩ := Blk.facts2 (a := .int .i64 0) (b := .slice none 0 0) hb5
    refine bodyPost_ret (v := .tuple #[.agg #[.int .i64 0, .slice none 0 0], .int .i64 12]) (by simp [results, Tryd.results35, go_sem, e0, e1]) rfl ?_
    clear e0 e1 hb5
    have o7 : Only [w.heap.size] w2 _ := ((Only.refl _ w2).setCell (p := ⟨w.heap.size, 0, none⟩) (.inl (by simp)) (.int .i64 0)).setCell (p := ⟨w.heap.size, 1, none⟩) (.inl (by simp)) (.slice none 0 0)
    exact ⟨0, none, 0, [], rfl, plain_TK _ _ 0 ⟨by omega, by omega⟩ _, O2.out.trans o7 (fun b hb => .inr (by simp at hb; omega))⟩
  | true =>
    go_wp2_with (fail)
    refine (plain_any 0 _).mono ?_
    rintro r w3 ⟨rfl, o3⟩
    have O3 := Lib.hid (O2.out.trans o3 (by simp))
    have R3 := Lib.hid (o3.blk R2.out (by simp))
    clear o3
    obtain ⟨r0, r1, rl⟩ := R3.out.facts2
    have g0 := R3.out.frozen 0
    have g1 := R3.out.frozen 1
    go_wp2_with (fail)
    have hb5 := (R3.out.set_ 0 (.int .i64 0)).set_ 1 (.slice none 0 0)
    obtain ⟨e0, e1, -⟩ := Blk.facts2 (a := .int .i64 0) (b := .slice none 0 0) hb5
    refine bodyPost_ret (v := .tuple #[.agg #[.int .i64 0, .slice none 0 0], .int .i64 0]) (by simp [results, Tryd.results35, go_sem, e0, e1]) rfl ?_
    clear e0 e1 hb5
    have o7 : Only [w.heap.size] w3 _ := ((Only.refl _ w3).setCell (p := ⟨w.heap.size, 0, none⟩) (.inl (by simp)) (.int .i64 0)).setCell (p := ⟨w.heap.size, 1, none⟩) (.inl (by simp)) (.slice none 0 0)
    exact ⟨0, none, 0, [], rfl, plain_TK _ _ 0 ⟨by omega, by omega⟩ _, O3.out.trans o7 (fun b hb => .inr (by simp at hb; omega))⟩
set_option maxHeartbeats 4000000 in
theorem sign19 {B0 B : Nat} {A : Option Addr} {cap : Nat} {es : List Tx} {w : World} (h : AR B0 B w A es) (_hB0 : B0 ≤ w.heap.size) (_hB : B ≤ w.heap.size) :
    Calls Tryd.prog 35 #[.int .i64 19, .slice A es.length cap] w fun r w' => RG B0 B w (signK 19 (es.map Tx.tr)) r w' := by
  have hs : signK 19 (es.map Tx.tr) = if decide (kindsL es = [0, 0]) = true then (inT, 0) else (noT, 12) := by rw [← kindsB_of]; simp [signK]
  rw [hs]
  clear hs
  have HR := Lib.hid h.row
  have R0 := Lib.hid (Blk.new w 34 #[.int .i64 0, .slice none 0 0])
  have O0 := Lib.hid (show Only [] w (w.alloc (.cells #[.int .i64 0, .slice none 0 0] 34)) from (Only.refl _ _).alloc _)
  have hz := Blk.new (w.alloc (.cells #[.int .i64 0, .slice none 0 0] 34)) 3 #[.int .i64 0, .int .i64 0]
  have O1 := Lib.hid (show Only [] w ((w.alloc (.cells #[.int .i64 0, .slice none 0 0] 34)).alloc (.cells #[.int .i64 0, .int .i64 0] 3)) from ((Only.refl _ _).alloc _).alloc _)
  have R1 := Lib.hid (show Blk ((w.alloc (.cells #[.int .i64 0, .slice none 0 0] 34)).alloc (.cells #[.int .i64 0, .int .i64 0] 3)) w.heap.size 34 #[.int .i64 0, .slice none 0 0] from Blk.alloc R0.out _)
  simp only [World.size_alloc] at hz
  have CK := Lib.hid (show Calls Tryd.prog 49 #[.slice A es.length cap, .slice (some ⟨w.heap.size + 1, 0, none⟩) 2 2] ((w.alloc (.cells #[.int .i64 0, .slice none 0 0] 34)).alloc (.cells #[.int .i64 0, .int .i64 0] 3)) fun r w' => r = .returned (.bool (decide (kindsL es = [0, 0]))) ∧ Only [] ((w.alloc (.cells #[.int .i64 0, .slice none 0 0] 34)).alloc (.cells #[.int .i64 0, .int .i64 0] 3)) w' from kinds_any (want := [0, 0]) (h.row.keep O1.out) hz (by simp))
  obtain ⟨q, hq⟩ : ∃ q, decide (kindsL es = [0, 0]) = q := ⟨_, rfl⟩
  rw [hq] at CK
  rw [hq]
  clear h _hB0 _hB hq hz HR
  go_enter Tryd.func35, Tryd.ntmps35
  go_wp2_with (fail)
  refine CK.out.mono ?_
  rintro r w2 ⟨rfl, o2⟩
  have O2 := Lib.hid (O1.out.trans o2 (by simp))
  have R2 := Lib.hid (o2.blk R1.out (by simp))
  clear o2 CK
  cases q with
  | false =>
    obtain ⟨r0, r1, rl⟩ := R2.out.facts2
    have g0 := R2.out.frozen 0
    have g1 := R2.out.frozen 1
    go_wp2_with (fail)
    have hb5 := (R2.out.set_ 0 (.int .i64 0)).set_ 1 (.slice none 0 0)
    obtain ⟨e0, e1, -⟩ := Blk.facts2 (a := .int .i64 0) (b := .slice none 0 0) hb5
    refine bodyPost_ret (v := .tuple #[.agg #[.int .i64 0, .slice none 0 0], .int .i64 12]) (by simp [results, Tryd.results35, go_sem, e0, e1]) rfl ?_
    clear e0 e1 hb5
    have o7 : Only [w.heap.size] w2 _ := ((Only.refl _ w2).setCell (p := ⟨w.heap.size, 0, none⟩) (.inl (by simp)) (.int .i64 0)).setCell (p := ⟨w.heap.size, 1, none⟩) (.inl (by simp)) (.slice none 0 0)
    exact ⟨0, none, 0, [], rfl, plain_TK _ _ 0 ⟨by omega, by omega⟩ _, O2.out.trans o7 (fun b hb => .inr (by simp at hb; omega))⟩
  | true =>
    go_wp2_with (fail)
    refine (plain_any 0 _).mono ?_
    rintro r w3 ⟨rfl, o3⟩
    have O3 := Lib.hid (O2.out.trans o3 (by simp))
    have R3 := Lib.hid (o3.blk R2.out (by simp))
    clear o3
    obtain ⟨r0, r1, rl⟩ := R3.out.facts2
    have g0 := R3.out.frozen 0
    have g1 := R3.out.frozen 1
    go_wp2_with (fail)
    have hb5 := (R3.out.set_ 0 (.int .i64 0)).set_ 1 (.slice none 0 0)
    obtain ⟨e0, e1, -⟩ := Blk.facts2 (a := .int .i64 0) (b := .slice none 0 0) hb5
    refine bodyPost_ret (v := .tuple #[.agg #[.int .i64 0, .slice none 0 0], .int .i64 0]) (by simp [results, Tryd.results35, go_sem, e0, e1]) rfl ?_
    clear e0 e1 hb5
    have o7 : Only [w.heap.size] w3 _ := ((Only.refl _ w3).setCell (p := ⟨w.heap.size, 0, none⟩) (.inl (by simp)) (.int .i64 0)).setCell (p := ⟨w.heap.size, 1, none⟩) (.inl (by simp)) (.slice none 0 0)
    exact ⟨0, none, 0, [], rfl, plain_TK _ _ 0 ⟨by omega, by omega⟩ _, O3.out.trans o7 (fun b hb => .inr (by simp at hb; omega))⟩
set_option maxHeartbeats 4000000 in
theorem sign23 {B0 B : Nat} {A : Option Addr} {cap : Nat} {es : List Tx} {w : World} (h : AR B0 B w A es) (_hB0 : B0 ≤ w.heap.size) (_hB : B ≤ w.heap.size) :
    Calls Tryd.prog 35 #[.int .i64 23, .slice A es.length cap] w fun r w' => RG B0 B w (signK 23 (es.map Tx.tr)) r w' := by
  have hs : signK 23 (es.map Tx.tr) = if decide (kindsL es = [1, 1]) = true then (boT, 0) else (noT, 12) := by rw [← kindsB_of]; simp [signK]
  rw [hs]
  clear hs
  have HR := Lib.hid h.row
  have R0 := Lib.hid (Blk.new w 34 #[.int .i64 0, .slice none 0 0])
  have O0 := Lib.hid (show Only [] w (w.alloc (.cells #[.int .i64 0, .slice none 0 0] 34)) from (Only.refl _ _).alloc _)
  have hz := Blk.new (w.alloc (.cells #[.int .i64 0, .slice none 0 0] 34)) 3 #[.int .i64 1, .int .i64 1]
  have O1 := Lib.hid (show Only [] w ((w.alloc (.cells #[.int .i64 0, .slice none 0 0] 34)).alloc (.cells #[.int .i64 1, .int .i64 1] 3)) from ((Only.refl _ _).alloc _).alloc _)
  have R1 := Lib.hid (show Blk ((w.alloc (.cells #[.int .i64 0, .slice none 0 0] 34)).alloc (.cells #[.int .i64 1, .int .i64 1] 3)) w.heap.size 34 #[.int .i64 0, .slice none 0 0] from Blk.alloc R0.out _)
  simp only [World.size_alloc] at hz
  have CK := Lib.hid (show Calls Tryd.prog 49 #[.slice A es.length cap, .slice (some ⟨w.heap.size + 1, 0, none⟩) 2 2] ((w.alloc (.cells #[.int .i64 0, .slice none 0 0] 34)).alloc (.cells #[.int .i64 1, .int .i64 1] 3)) fun r w' => r = .returned (.bool (decide (kindsL es = [1, 1]))) ∧ Only [] ((w.alloc (.cells #[.int .i64 0, .slice none 0 0] 34)).alloc (.cells #[.int .i64 1, .int .i64 1] 3)) w' from kinds_any (want := [1, 1]) (h.row.keep O1.out) hz (by simp))
  obtain ⟨q, hq⟩ : ∃ q, decide (kindsL es = [1, 1]) = q := ⟨_, rfl⟩
  rw [hq] at CK
  rw [hq]
  clear h _hB0 _hB hq hz HR
  go_enter Tryd.func35, Tryd.ntmps35
  go_wp2_with (fail)
  refine CK.out.mono ?_
  rintro r w2 ⟨rfl, o2⟩
  have O2 := Lib.hid (O1.out.trans o2 (by simp))
  have R2 := Lib.hid (o2.blk R1.out (by simp))
  clear o2 CK
  cases q with
  | false =>
    obtain ⟨r0, r1, rl⟩ := R2.out.facts2
    have g0 := R2.out.frozen 0
    have g1 := R2.out.frozen 1
    go_wp2_with (fail)
    have hb5 := (R2.out.set_ 0 (.int .i64 0)).set_ 1 (.slice none 0 0)
    obtain ⟨e0, e1, -⟩ := Blk.facts2 (a := .int .i64 0) (b := .slice none 0 0) hb5
    refine bodyPost_ret (v := .tuple #[.agg #[.int .i64 0, .slice none 0 0], .int .i64 12]) (by simp [results, Tryd.results35, go_sem, e0, e1]) rfl ?_
    clear e0 e1 hb5
    have o7 : Only [w.heap.size] w2 _ := ((Only.refl _ w2).setCell (p := ⟨w.heap.size, 0, none⟩) (.inl (by simp)) (.int .i64 0)).setCell (p := ⟨w.heap.size, 1, none⟩) (.inl (by simp)) (.slice none 0 0)
    exact ⟨0, none, 0, [], rfl, plain_TK _ _ 0 ⟨by omega, by omega⟩ _, O2.out.trans o7 (fun b hb => .inr (by simp at hb; omega))⟩
  | true =>
    go_wp2_with (fail)
    refine (plain_any 1 _).mono ?_
    rintro r w3 ⟨rfl, o3⟩
    have O3 := Lib.hid (O2.out.trans o3 (by simp))
    have R3 := Lib.hid (o3.blk R2.out (by simp))
    clear o3
    obtain ⟨r0, r1, rl⟩ := R3.out.facts2
    have g0 := R3.out.frozen 0
    have g1 := R3.out.frozen 1
    go_wp2_with (fail)
    have hb5 := (R3.out.set_ 0 (.int .i64 1)).set_ 1 (.slice none 0 0)
    obtain ⟨e0, e1, -⟩ := Blk.facts2 (a := .int .i64 1) (b := .slice none 0 0) hb5
    refine bodyPost_ret (v := .tuple #[.agg #[.int .i64 1, .slice none 0 0], .int .i64 0]) (by simp [results, Tryd.results35, go_sem, e0, e1]) rfl ?_
    clear e0 e1 hb5
    have o7 : Only [w.heap.size] w3 _ := ((Only.refl _ w3).setCell (p := ⟨w.heap.size, 0, none⟩) (.inl (by simp)) (.int .i64 1)).setCell (p := ⟨w.heap.size, 1, none⟩) (.inl (by simp)) (.slice none 0 0)
    exact ⟨1, none, 0, [], rfl, plain_TK _ _ 1 ⟨by omega, by omega⟩ _, O3.out.trans o7 (fun b hb => .inr (by simp at hb; omega))⟩
set_option maxHeartbeats 4000000 in
theorem sign24 {B0 B : Nat} {A : Option Addr} {cap : Nat} {es : List Tx} {w : World} (h : AR B0 B w A es) (_hB0 : B0 ≤ w.heap.size) (_hB : B ≤ w.heap.size) :
    Calls Tryd.prog 35 #[.int .i64 24, .slice A es.length cap] w fun r w' => RG B0 B w (signK 24 (es.map Tx.tr)) r w' := by
  have hs : signK 24 (es.map Tx.tr) = if decide (kindsL es = [1, 1]) = true then (boT, 0) else (noT, 12) := by rw [← kindsB_of]; simp [signK]
  rw [hs]
  clear hs
  have HR := Lib.hid h.row
  have R0 := Lib.hid (Blk.new w 34 #[.int .i64 0, .slice none 0 0])
  have O0 := Lib.hid (show Only [] w (w.alloc (.cells #[.int .i64 0, .slice none 0 0] 34)) from (Only.refl _ _).alloc _)
  have hz := Blk.new (w.alloc (.cells #[.int .i64 0, .slice none 0 0] 34)) 3 #[.int .i64 1, .int .i64 1]
  have O1 := Lib.hid (show Only [] w ((w.alloc (.cells #[.int .i64 0, .slice none 0 0] 34)).alloc (.cells #[.int .i64 1, .int .i64 1] 3)) from ((Only.refl _ _).alloc _).alloc _)
  have R1 := Lib.hid (show Blk ((w.alloc (.cells #[.int .i64 0, .slice none 0 0] 34)).alloc (.cells #[.int .i64 1, .int .i64 1] 3)) w.heap.size 34 #[.int .i64 0, .slice none 0 0] from Blk.alloc R0.out _)
  simp only [World.size_alloc] at hz
  have CK := Lib.hid (show Calls Tryd.prog 49 #[.slice A es.length cap, .slice (some ⟨w.heap.size + 1, 0, none⟩) 2 2] ((w.alloc (.cells #[.int .i64 0, .slice none 0 0] 34)).alloc (.cells #[.int .i64 1, .int .i64 1] 3)) fun r w' => r = .returned (.bool (decide (kindsL es = [1, 1]))) ∧ Only [] ((w.alloc (.cells #[.int .i64 0, .slice none 0 0] 34)).alloc (.cells #[.int .i64 1, .int .i64 1] 3)) w' from kinds_any (want := [1, 1]) (h.row.keep O1.out) hz (by simp))
  obtain ⟨q, hq⟩ : ∃ q, decide (kindsL es = [1, 1]) = q := ⟨_, rfl⟩
  rw [hq] at CK
  rw [hq]
  clear h _hB0 _hB hq hz HR
  go_enter Tryd.func35, Tryd.ntmps35
  go_wp2_with (fail)
  refine CK.out.mono ?_
  rintro r w2 ⟨rfl, o2⟩
  have O2 := Lib.hid (O1.out.trans o2 (by simp))
  have R2 := Lib.hid (o2.blk R1.out (by simp))
  clear o2 CK
  cases q with
  | false =>
    obtain ⟨r0, r1, rl⟩ := R2.out.facts2
    have g0 := R2.out.frozen 0
    have g1 := R2.out.frozen 1
    go_wp2_with (fail)
    have hb5 := (R2.out.set_ 0 (.int .i64 0)).set_ 1 (.slice none 0 0)
    obtain ⟨e0, e1, -⟩ := Blk.facts2 (a := .int .i64 0) (b := .slice none 0 0) hb5
    refine bodyPost_ret (v := .tuple #[.agg #[.int .i64 0, .slice none 0 0], .int .i64 12]) (by simp [results, Tryd.results35, go_sem, e0, e1]) rfl ?_
    clear e0 e1 hb5
    have o7 : Only [w.heap.size] w2 _ := ((Only.refl _ w2).setCell (p := ⟨w.heap.size, 0, none⟩) (.inl (by simp)) (.int .i64 0)).setCell (p := ⟨w.heap.size, 1, none⟩) (.inl (by simp)) (.slice none 0 0)
    exact ⟨0, none, 0, [], rfl, plain_TK _ _ 0 ⟨by omega, by omega⟩ _, O2.out.trans o7 (fun b hb => .inr (by simp at hb; omega))⟩
  | true =>
    go_wp2_with (fail)
    refine (plain_any 1 _).mono ?_
    rintro r w3 ⟨rfl, o3⟩
    have O3 := Lib.hid (O2.out.trans o3 (by simp))
    have R3 := Lib.hid (o3.blk R2.out (by simp))
    clear o3
    obtain ⟨r0, r1, rl⟩ := R3.out.facts2
    have g0 := R3.out.frozen 0
    have g1 := R3.out.frozen 1
    go_wp2_with (fail)
    have hb5 := (R3.out.set_ 0 (.int .i64 1)).set_ 1 (.slice none 0 0)
    obtain ⟨e0, e1, -⟩ := Blk.facts2 (a := .int .i64 1) (b := .slice none 0 0) hb5
    refine bodyPost_ret (v := .tuple #[.agg #[.int .i64 1, .slice none 0 0], .int .i64 0]) (by simp [results, Tryd.results35, go_sem, e0, e1]) rfl ?_
    clear e0 e1 hb5
    have o7 : Only [w.heap.size] w3 _ := ((Only.refl _ w3).setCell (p := ⟨w.heap.size, 0, none⟩) (.inl (by simp)) (.int .i64 1)).setCell (p := ⟨w.heap.size, 1, none⟩) (.inl (by simp)) (.slice none 0 0)
    exact ⟨1, none, 0, [], rfl, plain_TK _ _ 1 ⟨by omega, by omega⟩ _, O3.out.trans o7 (fun b hb => .inr (by simp at hb; omega))⟩
set_option maxHeartbeats 4000000 in
theorem sign20 {B0 B : Nat} {A : Option Addr} {cap : Nat} {es : List Tx} {w : World} (h : AR B0 B w A es) (_hB0 : B0 ≤ w.heap.size) (_hB : B ≤ w.heap.size) (hl : es.length = 2) :
    Calls Tryd.prog 35 #[.int .i64 20, .slice A es.length cap] w fun r w' => RG B0 B w (signK 20 (es.map Tx.tr)) r w' := by
  obtain ⟨x, y, rfl⟩ := list2 hl
  have hs : signK 20 ([x, y].map Tx.tr) = if x.tr.same y.tr = true then (boT, 0) else (noT, 12) := by simp [signK]
  rw [hs]
  clear hs
  have hx := h.row.row 0 x rfl
  have hy := h.row.row 1 y rfl
  have Lx := Lib.hid (h.el (e := x) (by simp))
  have Ly := Lib.hid (h.el (e := y) (by simp))
  have HR := Lib.hid h.row
  have R0 := Lib.hid (Blk.new w 34 #[.int .i64 0, .slice none 0 0])
  have O0 := Lib.hid (show Only [] w (w.alloc (.cells #[.int .i64 0, .slice none 0 0] 34)) from (Only.refl _ _).alloc _)
  have CS := Lib.hid (fun W (o : Only [] w W) => sameT x y W (Lx.out.lies.keep o) (Ly.out.lies.keep o))
  obtain ⟨q, hq⟩ : ∃ q, x.tr.same y.tr = q := ⟨_, rfl⟩
  rw [hq] at CS
  rw [hq]
  replace hx := hx.only O0.out (by simp)
  replace hy := hy.only O0.out (by simp)
  obtain ⟨xk, xA, xcap, xl⟩ := x
  obtain ⟨yk, yA, ycap, yl⟩ := y
  obtain ⟨b, o, rfl, hbb, c0, c1⟩ := hx.cells
  obtain ⟨b', o', hA2, -, c2, c3⟩ := hy.cells
  injection hA2 with hA2
  injection hA2 with h1 h2
  subst h1 h2
  have HC := Lib.hid (And.intro hbb (And.intro c0 (And.intro c1 (And.intro c2 c3))))
  simp only [Nat.zero_mul, Nat.add_zero, Nat.one_mul] at HC
  have CS2 := CS
  show Calls Tryd.prog 35 #[.int .i64 20, .slice (some ⟨b, o, none⟩) (2 : Nat) cap] w _
  clear h _hB0 _hB hq hx hy hbb c0 c1 c2 c3 hl CS2 HR Lx Ly
  generalize hw0 : w.alloc (.cells #[.int .i64 0, .slice none 0 0] 34) = w0 at R0 O0 HC
  have HW0 := Lib.hid hw0
  clear hw0
  go_enter Tryd.func35, Tryd.ntmps35
  go_wp2_with (fail)
  rw [HW0.out]
  have HX := Lib.hid (fun W (o : Only [] w0.drew W) => O0.out.trans ((Only.refl [] w0).drew.trans o (by simp)) (by simp))
  refine (wpIn_wide (n := 9)).1 ?_
  refine wpIn_region_relR 12 (Only []) (fr := ?frgs20) (tl := ?tlgs20) (fun iq v wv => match iq with
    | 0 => v = .slice (some ⟨b, o, none⟩) 2 cap
    | 1 => v = .int .i64 2
    | 2 => v = .bool true
    | 3 => v = .bool true
    | 4 => v = .slice (some ⟨b, o, none⟩) 2 cap
    | 5 => v = .pointer (some ⟨b, o, none⟩)
    | 6 => v = .agg #[.int .i64 xk, .slice xA xl.length xcap]
    | 7 => v = .slice (some ⟨b, o, none⟩) 2 cap
    | 8 => v = .pointer (some ⟨b, o + 2, none⟩)
    | 9 => v = .agg #[.int .i64 yk, .slice yA yl.length ycap]
    | 10 => v = .bool q
    | 11 => v = .bool q
    | _ => True) (.inl rfl) (by kernel_rfl) (by kernel_rfl) (by kernel_rfl) (by kernel_rfl) (by kernel_rfl) (by kernel_rfl) (by decide) ?htlgs20 ?hfrgs20 (Only.refl _ _) (fun _ _ _ h k => h.trans k (fun _ hx => .inl hx)) ?stabgs20 ?stepsgs20 ?donegs20
  case htlgs20 => simp only [List.drop_succ_cons, List.drop_zero]; rfl
  case hfrgs20 => intro vals; simp only [putAll, dstAt, Act.put, List.getElem?_toArray, List.getElem?_cons_zero, List.getElem?_cons_succ, Option.bind_some, List.setIfInBounds_toArray, List.set_cons_zero, List.set_cons_succ]; rfl
  case stabgs20 =>
    intro i v wa wb h
    try dsimp only
    split <;> first | exact id
  case stepsgs20 =>
    refine ⟨?_, ?_, ?_, ?_, ?_, ?_, ?_, ?_, ?_, ?_, ?_, ?_, trivial⟩
    · intro vals wr hR hp K hK
      dsimp only at hK ⊢
      clear hp
      unfold RunsOp
      go_simp
      exact hK.out _ _ ⟨_, rfl, Only.refl _ _, rfl⟩
    · intro vals wr hR hp K hK
      dsimp only at hK ⊢
      obtain ⟨p0, -⟩ := hp
      replace p0 := p0 rfl
      dsimp only at p0
      rw [p0] at hK ⊢
      clear p0
      unfold RunsOp
      go_simp
      exact hK.out _ _ ⟨_, rfl, Only.refl _ _, rfl⟩
    · intro vals wr hR hp K hK
      dsimp only at hK ⊢
      obtain ⟨p1, -⟩ := hp
      replace p1 := p1 rfl
      dsimp only at p1
      rw [p1] at hK ⊢
      clear p1
      unfold RunsOp
      go_simp
      exact hK.out _ _ ⟨_, rfl, Only.refl _ _, rfl⟩
    · intro vals wr hR hp K hK
      dsimp only at hK ⊢
      obtain ⟨p2, -⟩ := hp
      replace p2 := p2 rfl
      dsimp only at p2
      rw [p2] at hK ⊢
      clear p2
      unfold RunsOp
      go_simp
      exact hK.out _ _ ⟨_, rfl, Only.refl _ _, rfl⟩
    · intro vals wr hR hp K hK
      dsimp only at hK ⊢
      obtain ⟨p3, -⟩ := hp
      replace p3 := p3 rfl
      dsimp only at p3
      rw [p3] at hK ⊢
      clear p3
      unfold RunsOp
      go_simp
      exact hK.out _ _ ⟨_, rfl, Only.refl _ _, rfl⟩
    · intro vals wr hR hp K hK
      dsimp only at hK ⊢
      obtain ⟨p4, p3, -⟩ := hp
      replace p4 := p4 rfl
      replace p3 := p3 rfl
      dsimp only at p4 p3
      rw [p4, p3] at hK ⊢
      clear p4 p3
      unfold RunsOp
      go_simp
      exact hK.out _ _ ⟨_, rfl, Only.refl _ _, rfl⟩
    · intro vals wr hR hp K hK
      dsimp only at hK ⊢
      obtain ⟨p5, p3, -⟩ := hp
      replace p5 := p5 rfl
      replace p3 := p3 rfl
      dsimp only at p5 p3
      rw [p5, p3] at hK ⊢
      clear p5 p3
      unfold RunsOp
      have c0 := (hR.cell (p := ⟨b, o, none⟩) HC.out.1 (by simp)).trans HC.out.2.1
      have c1 := (hR.cell (p := ⟨b, o + 1, none⟩) HC.out.1 (by simp)).trans HC.out.2.2.1
      go_simp
      exact hK.out _ _ ⟨_, rfl, Only.refl _ _, rfl⟩
    · intro vals wr hR hp K hK
      dsimp only at hK ⊢
      obtain ⟨p3, -⟩ := hp
      replace p3 := p3 rfl
      dsimp only at p3
      rw [p3] at hK ⊢
      clear p3
      unfold RunsOp
      go_simp
      exact hK.out _ _ ⟨_, rfl, Only.refl _ _, rfl⟩
    · intro vals wr hR hp K hK
      dsimp only at hK ⊢
      obtain ⟨p7, p3, -⟩ := hp
      replace p7 := p7 rfl
      replace p3 := p3 rfl
      dsimp only at p7 p3
      rw [p7, p3] at hK ⊢
      clear p7 p3
      unfold RunsOp
      go_simp
      exact hK.out _ _ ⟨_, rfl, Only.refl _ _, rfl⟩
    · intro vals wr hR hp K hK
      dsimp only at hK ⊢
      obtain ⟨p8, p3, -⟩ := hp
      replace p8 := p8 rfl
      replace p3 := p3 rfl
      dsimp only at p8 p3
      rw [p8, p3] at hK ⊢
      clear p8 p3
      unfold RunsOp
      have c2 := (hR.cell (p := ⟨b, o + 2, none⟩) HC.out.1 (by simp)).trans HC.out.2.2.2.1
      have c3 := (hR.cell (p := ⟨b, o + 3, none⟩) HC.out.1 (by simp)).trans HC.out.2.2.2.2
      go_simp
      exact hK.out _ _ ⟨_, rfl, Only.refl _ _, rfl⟩
    · intro vals wr hR hp K hK
      dsimp only at hK ⊢
      obtain ⟨p6, p9, p3, -, -⟩ := hp
      replace p6 := p6 rfl
      replace p9 := p9 rfl
      replace p3 := p3 rfl
      dsimp only at p6 p9 p3
      rw [p6, p9, p3] at hK ⊢
      clear p6 p9 p3
      unfold RunsOp
      go_simp
      refine (CS.out _ (HX.out _ hR)).mono ?_
      rintro e w2 ⟨rfl, o2⟩
      exact hK.out _ _ ⟨_, rfl, o2, rfl⟩
    · intro vals wr hR hp K hK
      dsimp only at hK ⊢
      obtain ⟨p3, p10, -⟩ := hp
      replace p3 := p3 rfl
      replace p10 := p10 rfl
      dsimp only at p3 p10
      rw [p3, p10] at hK ⊢
      clear p3 p10
      unfold RunsOp
      go_simp
      exact hK.out _ _ ⟨_, rfl, Only.refl _ _, rfl⟩
  case donegs20 =>
    intro vals wd hR hF
    have f0 : vals 0 = .slice (some ⟨b, o, none⟩) 2 cap := hF 0 (by decide)
    have f1 : vals 1 = .int .i64 2 := hF 1 (by decide)
    have f2 : vals 2 = .bool true := hF 2 (by decide)
    have f3 : vals 3 = .bool true := hF 3 (by decide)
    have f4 : vals 4 = .slice (some ⟨b, o, none⟩) 2 cap := hF 4 (by decide)
    have f5 : vals 5 = .pointer (some ⟨b, o, none⟩) := hF 5 (by decide)
    have f6 : vals 6 = .agg #[.int .i64 xk, .slice xA xl.length xcap] := hF 6 (by decide)
    have f7 : vals 7 = .slice (some ⟨b, o, none⟩) 2 cap := hF 7 (by decide)
    have f8 : vals 8 = .pointer (some ⟨b, o + 2, none⟩) := hF 8 (by decide)
    have f9 : vals 9 = .agg #[.int .i64 yk, .slice yA yl.length ycap] := hF 9 (by decide)
    have f10 : (vals 10) = .bool q := hF 10 (by decide)
    have f11 : vals 11 = .bool q := hF 11 (by decide)
    rw [f0, f1, f2, f3, f4, f5, f6, f7, f8, f9, f11]
    clear f0 f1 f2 f3 f4 f5 f6 f7 f8 f9 f11
    rw [f10]
    clear f10
    have O9 := Lib.hid (HX.out _ hR)
    have R9 := Lib.hid (hR.blk (Blk.drew R0.out) (by simp))
    clear hR hF
    gi_wp2_with (fail)
    cases q with
    | false =>
      obtain ⟨r0, r1, rl⟩ := R9.out.facts2
      have g0 := R9.out.frozen 0
      have g1 := R9.out.frozen 1
      go_wp2_with (fail)
      have hb5 := (R9.out.set_ 0 (.int .i64 0)).set_ 1 (.slice none 0 0)
      obtain ⟨e0, e1, -⟩ := Blk.facts2 (a := .int .i64 0) (b := .slice none 0 0) hb5
      refine bodyPost_ret (v := .tuple #[.agg #[.int .i64 0, .slice none 0 0], .int .i64 12]) (by simp [results, Tryd.results35, go_sem, e0, e1]) rfl ?_
      clear e0 e1 hb5
      have o7 : Only [w.heap.size] wd _ := ((Only.refl _ wd).setCell (p := ⟨w.heap.size, 0, none⟩) (.inl (by simp)) (.int .i64 0)).setCell (p := ⟨w.heap.size, 1, none⟩) (.inl (by simp)) (.slice none 0 0)
      exact ⟨0, none, 0, [], rfl, plain_TK _ _ 0 ⟨by omega, by omega⟩ _, O9.out.trans o7 (fun b hb => .inr (by simp at hb; omega))⟩
    | true =>
      go_wp2_with (fail)
      refine (plain_any 1 _).mono ?_
      rintro r w3 ⟨rfl, o3⟩
      have O3 := Lib.hid (O9.out.trans o3 (by simp))
      have R3 := Lib.hid (o3.blk R9.out (by simp))
      clear o3
      obtain ⟨r0, r1, rl⟩ := R3.out.facts2
      have g0 := R3.out.frozen 0
      have g1 := R3.out.frozen 1
      go_wp2_with (fail)
      have hb5 := (R3.out.set_ 0 (.int .i64 1)).set_ 1 (.slice none 0 0)
      obtain ⟨e0, e1, -⟩ := Blk.facts2 (a := .int .i64 1) (b := .slice none 0 0) hb5
      refine bodyPost_ret (v := .tuple #[.agg #[.int .i64 1, .slice none 0 0], .int .i64 0]) (by simp [results, Tryd.results35, go_sem, e0, e1]) rfl ?_
      clear e0 e1 hb5
      have o7 : Only [w.heap.size] w3 _ := ((Only.refl _ w3).setCell (p := ⟨w.heap.size, 0, none⟩) (.inl (by simp)) (.int .i64 1)).setCell (p := ⟨w.heap.size, 1, none⟩) (.inl (by simp)) (.slice none 0 0)
      exact ⟨1, none, 0, [], rfl, plain_TK _ _ 1 ⟨by omega, by omega⟩ _, O3.out.trans o7 (fun b hb => .inr (by simp at hb; omega))⟩
set_option maxHeartbeats 4000000 in
theorem sign21 {B0 B : Nat} {A : Option Addr} {cap : Nat} {es : List Tx} {w : World} (h : AR B0 B w A es) (_hB0 : B0 ≤ w.heap.size) (_hB : B ≤ w.heap.size) (hl : es.length = 2) :
    Calls Tryd.prog 35 #[.int .i64 21, .slice A es.length cap] w fun r w' => RG B0 B w (signK 21 (es.map Tx.tr)) r w' := by
  obtain ⟨x, y, rfl⟩ := list2 hl
  have hs : signK 21 ([x, y].map Tx.tr) = if x.tr.same y.tr = true then (boT, 0) else (noT, 12) := by simp [signK]
  rw [hs]
  clear hs
  have hx := h.row.row 0 x rfl
  have hy := h.row.row 1 y rfl
  have Lx := Lib.hid (h.el (e := x) (by simp))
  have Ly := Lib.hid (h.el (e := y) (by simp))
  have HR := Lib.hid h.row
  have R0 := Lib.hid (Blk.new w 34 #[.int .i64 0, .slice none 0 0])
  have O0 := Lib.hid (show Only [] w (w.alloc (.cells #[.int .i64 0, .slice none 0 0] 34)) from (Only.refl _ _).alloc _)
  have CS := Lib.hid (fun W (o : Only [] w W) => sameT x y W (Lx.out.lies.keep o) (Ly.out.lies.keep o))
  obtain ⟨q, hq⟩ : ∃ q, x.tr.same y.tr = q := ⟨_, rfl⟩
  rw [hq] at CS
  rw [hq]
  replace hx := hx.only O0.out (by simp)
  replace hy := hy.only O0.out (by simp)
  obtain ⟨xk, xA, xcap, xl⟩ := x
  obtain ⟨yk, yA, ycap, yl⟩ := y
  obtain ⟨b, o, rfl, hbb, c0, c1⟩ := hx.cells
  obtain ⟨b', o', hA2, -, c2, c3⟩ := hy.cells
  injection hA2 with hA2
  injection hA2 with h1 h2
  subst h1 h2
  have HC := Lib.hid (And.intro hbb (And.intro c0 (And.intro c1 (And.intro c2 c3))))
  simp only [Nat.zero_mul, Nat.add_zero, Nat.one_mul] at HC
  have CS2 := CS
  show Calls Tryd.prog 35 #[.int .i64 21, .slice (some ⟨b, o, none⟩) (2 : Nat) cap] w _
  clear h _hB0 _hB hq hx hy hbb c0 c1 c2 c3 hl CS2 HR Lx Ly
  generalize hw0 : w.alloc (.cells #[.int .i64 0, .slice none 0 0] 34) = w0 at R0 O0 HC
  have HW0 := Lib.hid hw0
  clear hw0
  go_enter Tryd.func35, Tryd.ntmps35
  go_wp2_with (fail)
  rw [HW0.out]
  have HX := Lib.hid (fun W (o : Only [] w0.drew W) => O0.out.trans ((Only.refl [] w0).drew.trans o (by simp)) (by simp))
  refine (wpIn_wide (n := 9)).1 ?_
  refine wpIn_region_relR 12 (Only []) (fr := ?frgs21) (tl := ?tlgs21) (fun iq v wv => match iq with
    | 0 => v = .slice (some ⟨b, o, none⟩) 2 cap
    | 1 => v = .int .i64 2
    | 2 => v = .bool true
    | 3 => v = .bool true
    | 4 => v = .slice (some ⟨b, o, none⟩) 2 cap
    | 5 => v = .pointer (some ⟨b, o, none⟩)
    | 6 => v = .agg #[.int .i64 xk, .slice xA xl.length xcap]
    | 7 => v = .slice (some ⟨b, o, none⟩) 2 cap
    | 8 => v = .pointer (some ⟨b, o + 2, none⟩)
    | 9 => v = .agg #[.int .i64 yk, .slice yA yl.length ycap]
    | 10 => v = .bool q
    | 11 => v = .bool q
    | _ => True) (.inl rfl) (by kernel_rfl) (by kernel_rfl) (by kernel_rfl) (by kernel_rfl) (by kernel_rfl) (by kernel_rfl) (by decide) ?htlgs21 ?hfrgs21 (Only.refl _ _) (fun _ _ _ h k => h.trans k (fun _ hx => .inl hx)) ?stabgs21 ?stepsgs21 ?donegs21
  case htlgs21 => simp only [List.drop_succ_cons, List.drop_zero]; rfl
  case hfrgs21 => intro vals; simp only [putAll, dstAt, Act.put, List.getElem?_toArray, List.getElem?_cons_zero, List.getElem?_cons_succ, Option.bind_some, List.setIfInBounds_toArray, List.set_cons_zero, List.set_cons_succ]; rfl
  case stabgs21 =>
    intro i v wa wb h
    try dsimp only
    split <;> first | exact id
  case stepsgs21 =>
    refine ⟨?_, ?_, ?_, ?_, ?_, ?_, ?_, ?_, ?_, ?_, ?_, ?_, trivial⟩
    · intro vals wr hR hp K hK
      dsimp only at hK ⊢
      clear hp
      unfold RunsOp
      go_simp
      exact hK.out _ _ ⟨_, rfl, Only.refl _ _, rfl⟩
    · intro vals wr hR hp K hK
      dsimp only at hK ⊢
      obtain ⟨p0, -⟩ := hp
      replace p0 := p0 rfl
      dsimp only at p0
      rw [p0] at hK ⊢
      clear p0
      unfold RunsOp
      go_simp
      exact hK.out _ _ ⟨_, rfl, Only.refl _ _, rfl⟩
    · intro vals wr hR hp K hK
      dsimp only at hK ⊢
      obtain ⟨p1, -⟩ := hp
      replace p1 := p1 rfl
      dsimp only at p1
      rw [p1] at hK ⊢
      clear p1
      unfold RunsOp
      go_simp
      exact hK.out _ _ ⟨_, rfl, Only.refl _ _, rfl⟩
    · intro vals wr hR hp K hK
      dsimp only at hK ⊢
      obtain ⟨p2, -⟩ := hp
      replace p2 := p2 rfl
      dsimp only at p2
      rw [p2] at hK ⊢
      clear p2
      unfold RunsOp
      go_simp
      exact hK.out _ _ ⟨_, rfl, Only.refl _ _, rfl⟩
    · intro vals wr hR hp K hK
      dsimp only at hK ⊢
      obtain ⟨p3, -⟩ := hp
      replace p3 := p3 rfl
      dsimp only at p3
      rw [p3] at hK ⊢
      clear p3
      unfold RunsOp
      go_simp
      exact hK.out _ _ ⟨_, rfl, Only.refl _ _, rfl⟩
    · intro vals wr hR hp K hK
      dsimp only at hK ⊢
      obtain ⟨p4, p3, -⟩ := hp
      replace p4 := p4 rfl
      replace p3 := p3 rfl
      dsimp only at p4 p3
      rw [p4, p3] at hK ⊢
      clear p4 p3
      unfold RunsOp
      go_simp
      exact hK.out _ _ ⟨_, rfl, Only.refl _ _, rfl⟩
    · intro vals wr hR hp K hK
      dsimp only at hK ⊢
      obtain ⟨p5, p3, -⟩ := hp
      replace p5 := p5 rfl
      replace p3 := p3 rfl
      dsimp only at p5 p3
      rw [p5, p3] at hK ⊢
      clear p5 p3
      unfold RunsOp
      have c0 := (hR.cell (p := ⟨b, o, none⟩) HC.out.1 (by simp)).trans HC.out.2.1
      have c1 := (hR.cell (p := ⟨b, o + 1, none⟩) HC.out.1 (by simp)).trans HC.out.2.2.1
      go_simp
      exact hK.out _ _ ⟨_, rfl, Only.refl _ _, rfl⟩
    · intro vals wr hR hp K hK
      dsimp only at hK ⊢
      obtain ⟨p3, -⟩ := hp
      replace p3 := p3 rfl
      dsimp only at p3
      rw [p3] at hK ⊢
      clear p3
      unfold RunsOp
      go_simp
      exact hK.out _ _ ⟨_, rfl, Only.refl _ _, rfl⟩
    · intro vals wr hR hp K hK
      dsimp only at hK ⊢
      obtain ⟨p7, p3, -⟩ := hp
      replace p7 := p7 rfl
      replace p3 := p3 rfl
      dsimp only at p7 p3
      rw [p7, p3] at hK ⊢
      clear p7 p3
      unfold RunsOp
      go_simp
      exact hK.out _ _ ⟨_, rfl, Only.refl _ _, rfl⟩
    · intro vals wr hR hp K hK
      dsimp only at hK ⊢
      obtain ⟨p8, p3, -⟩ := hp
      replace p8 := p8 rfl
      replace p3 := p3 rfl
      dsimp only at p8 p3
      rw [p8, p3] at hK ⊢
      clear p8 p3
      unfold RunsOp
      have c2 := (hR.cell (p := ⟨b, o + 2, none⟩) HC.out.1 (by simp)).trans HC.out.2.2.2.1
      have c3 := (hR.cell (p := ⟨b, o + 3, none⟩) HC.out.1 (by simp)).trans HC.out.2.2.2.2
      go_simp
      exact hK.out _ _ ⟨_, rfl, Only.refl _ _, rfl⟩
    · intro vals wr hR hp K hK
      dsimp only at hK ⊢
      obtain ⟨p6, p9, p3, -, -⟩ := hp
      replace p6 := p6 rfl
      replace p9 := p9 rfl
      replace p3 := p3 rfl
      dsimp only at p6 p9 p3
      rw [p6, p9, p3] at hK ⊢
      clear p6 p9 p3
      unfold RunsOp
      go_simp
      refine (CS.out _ (HX.out _ hR)).mono ?_
      rintro e w2 ⟨rfl, o2⟩
      exact hK.out _ _ ⟨_, rfl, o2, rfl⟩
    · intro vals wr hR hp K hK
      dsimp only at hK ⊢
      obtain ⟨p3, p10, -⟩ := hp
      replace p3 := p3 rfl
      replace p10 := p10 rfl
      dsimp only at p3 p10
      rw [p3, p10] at hK ⊢
      clear p3 p10
      unfold RunsOp
      go_simp
      exact hK.out _ _ ⟨_, rfl, Only.refl _ _, rfl⟩
  case donegs21 =>
    intro vals wd hR hF
    have f0 : vals 0 = .slice (some ⟨b, o, none⟩) 2 cap := hF 0 (by decide)
    have f1 : vals 1 = .int .i64 2 := hF 1 (by decide)
    have f2 : vals 2 = .bool true := hF 2 (by decide)
    have f3 : vals 3 = .bool true := hF 3 (by decide)
    have f4 : vals 4 = .slice (some ⟨b, o, none⟩) 2 cap := hF 4 (by decide)
    have f5 : vals 5 = .pointer (some ⟨b, o, none⟩) := hF 5 (by decide)
    have f6 : vals 6 = .agg #[.int .i64 xk, .slice xA xl.length xcap] := hF 6 (by decide)
    have f7 : vals 7 = .slice (some ⟨b, o, none⟩) 2 cap := hF 7 (by decide)
    have f8 : vals 8 = .pointer (some ⟨b, o + 2, none⟩) := hF 8 (by decide)
    have f9 : vals 9 = .agg #[.int .i64 yk, .slice yA yl.length ycap] := hF 9 (by decide)
    have f10 : (vals 10) = .bool q := hF 10 (by decide)
    have f11 : vals 11 = .bool q := hF 11 (by decide)
    rw [f0, f1, f2, f3, f4, f5, f6, f7, f8, f9, f11]
    clear f0 f1 f2 f3 f4 f5 f6 f7 f8 f9 f11
    rw [f10]
    clear f10
    have O9 := Lib.hid (HX.out _ hR)
    have R9 := Lib.hid (hR.blk (Blk.drew R0.out) (by simp))
    clear hR hF
    gi_wp2_with (fail)
    cases q with
    | false =>
      obtain ⟨r0, r1, rl⟩ := R9.out.facts2
      have g0 := R9.out.frozen 0
      have g1 := R9.out.frozen 1
      go_wp2_with (fail)
      have hb5 := (R9.out.set_ 0 (.int .i64 0)).set_ 1 (.slice none 0 0)
      obtain ⟨e0, e1, -⟩ := Blk.facts2 (a := .int .i64 0) (b := .slice none 0 0) hb5
      refine bodyPost_ret (v := .tuple #[.agg #[.int .i64 0, .slice none 0 0], .int .i64 12]) (by simp [results, Tryd.results35, go_sem, e0, e1]) rfl ?_
      clear e0 e1 hb5
      have o7 : Only [w.heap.size] wd _ := ((Only.refl _ wd).setCell (p := ⟨w.heap.size, 0, none⟩) (.inl (by simp)) (.int .i64 0)).setCell (p := ⟨w.heap.size, 1, none⟩) (.inl (by simp)) (.slice none 0 0)
      exact ⟨0, none, 0, [], rfl, plain_TK _ _ 0 ⟨by omega, by omega⟩ _, O9.out.trans o7 (fun b hb => .inr (by simp at hb; omega))⟩
    | true =>
      go_wp2_with (fail)
      refine (plain_any 1 _).mono ?_
      rintro r w3 ⟨rfl, o3⟩
      have O3 := Lib.hid (O9.out.trans o3 (by simp))
      have R3 := Lib.hid (o3.blk R9.out (by simp))
      clear o3
      obtain ⟨r0, r1, rl⟩ := R3.out.facts2
      have g0 := R3.out.frozen 0
      have g1 := R3.out.frozen 1
      go_wp2_with (fail)
      have hb5 := (R3.out.set_ 0 (.int .i64 1)).set_ 1 (.slice none 0 0)
      obtain ⟨e0, e1, -⟩ := Blk.facts2 (a := .int .i64 1) (b := .slice none 0 0) hb5
      refine bodyPost_ret (v := .tuple #[.agg #[.int .i64 1, .slice none 0 0], .int .i64 0]) (by simp [results, Tryd.results35, go_sem, e0, e1]) rfl ?_
      clear e0 e1 hb5
      have o7 : Only [w.heap.size] w3 _ := ((Only.refl _ w3).setCell (p := ⟨w.heap.size, 0, none⟩) (.inl (by simp)) (.int .i64 1)).setCell (p := ⟨w.heap.size, 1, none⟩) (.inl (by simp)) (.slice none 0 0)
      exact ⟨1, none, 0, [], rfl, plain_TK _ _ 1 ⟨by omega, by omega⟩ _, O3.out.trans o7 (fun b hb => .inr (by simp at hb; omega))⟩
set_option maxHeartbeats 4000000 in
theorem sign22 {B0 B : Nat} {A : Option Addr} {cap : Nat} {es : List Tx} {w : World} (h : AR B0 B w A es) (_hB0 : B0 ≤ w.heap.size) (_hB : B ≤ w.heap.size) (hl : es.length = 2) :
    Calls Tryd.prog 35 #[.int .i64 22, .slice A es.length cap] w fun r w' => RG B0 B w (signK 22 (es.map Tx.tr)) r w' := by
  obtain ⟨x, y, rfl⟩ := list2 hl
  have hs : signK 22 ([x, y].map Tx.tr) = if x.tr.same y.tr = true then (boT, 0) else (noT, 12) := by simp [signK]
  rw [hs]
  clear hs
  have hx := h.row.row 0 x rfl
  have hy := h.row.row 1 y rfl
  have Lx := Lib.hid (h.el (e := x) (by simp))
  have Ly := Lib.hid (h.el (e := y) (by simp))
  have HR := Lib.hid h.row
  have R0 := Lib.hid (Blk.new w 34 #[.int .i64 0, .slice none 0 0])
  have O0 := Lib.hid (show Only [] w (w.alloc (.cells #[.int .i64 0, .slice none 0 0] 34)) from (Only.refl _ _).alloc _)
  have CS := Lib.hid (fun W (o : Only [] w W) => sameT x y W (Lx.out.lies.keep o) (Ly.out.lies.keep o))
  obtain ⟨q, hq⟩ : ∃ q, x.tr.same y.tr = q := ⟨_, rfl⟩
  rw [hq] at CS
  rw [hq]
  replace hx := hx.only O0.out (by simp)
  replace hy := hy.only O0.out (by simp)
  obtain ⟨xk, xA, xcap, xl⟩ := x
  obtain ⟨yk, yA, ycap, yl⟩ := y
  obtain ⟨b, o, rfl, hbb, c0, c1⟩ := hx.cells
  obtain ⟨b', o', hA2, -, c2, c3⟩ := hy.cells
  injection hA2 with hA2
  injection hA2 with h1 h2
  subst h1 h2
  have HC := Lib.hid (And.intro hbb (And.intro c0 (And.intro c1 (And.intro c2 c3))))
  simp only [Nat.zero_mul, Nat.add_zero, Nat.one_mul] at HC
  have CS2 := CS
  show Calls Tryd.prog 35 #[.int .i64 22, .slice (some ⟨b, o, none⟩) (2 : Nat) cap] w _
  clear h _hB0 _hB hq hx hy hbb c0 c1 c2 c3 hl CS2 HR Lx Ly
  generalize hw0 : w.alloc (.cells #[.int .i64 0, .slice none 0 0] 34) = w0 at R0 O0 HC
  have HW0 := Lib.hid hw0
  clear hw0
  go_enter Tryd.func35, Tryd.ntmps35
  go_wp2_with (fail)
  rw [HW0.out]
  have HX := Lib.hid (fun W (o : Only [] w0.drew W) => O0.out.trans ((Only.refl [] w0).drew.trans o (by simp)) (by simp))
  refine (wpIn_wide (n := 9)).1 ?_
  refine wpIn_region_relR 12 (Only []) (fr := ?frgs22) (tl := ?tlgs22) (fun iq v wv => match iq with
    | 0 => v = .slice (some ⟨b, o, none⟩) 2 cap
    | 1 => v = .int .i64 2
    | 2 => v = .bool true
    | 3 => v = .bool true
    | 4 => v = .slice (some ⟨b, o, none⟩) 2 cap
    | 5 => v = .pointer (some ⟨b, o, none⟩)
    | 6 => v = .agg #[.int .i64 xk, .slice xA xl.length xcap]
    | 7 => v = .slice (some ⟨b, o, none⟩) 2 cap
    | 8 => v = .pointer (some ⟨b, o + 2, none⟩)
    | 9 => v = .agg #[.int .i64 yk, .slice yA yl.length ycap]
    | 10 => v = .bool q
    | 11 => v = .bool q
    | _ => True) (.inl rfl) (by kernel_rfl) (by kernel_rfl) (by kernel_rfl) (by kernel_rfl) (by kernel_rfl) (by kernel_rfl) (by decide) ?htlgs22 ?hfrgs22 (Only.refl _ _) (fun _ _ _ h k => h.trans k (fun _ hx => .inl hx)) ?stabgs22 ?stepsgs22 ?donegs22
  case htlgs22 => simp only [List.drop_succ_cons, List.drop_zero]; rfl
  case hfrgs22 => intro vals; simp only [putAll, dstAt, Act.put, List.getElem?_toArray, List.getElem?_cons_zero, List.getElem?_cons_succ, Option.bind_some, List.setIfInBounds_toArray, List.set_cons_zero, List.set_cons_succ]; rfl
  case stabgs22 =>
    intro i v wa wb h
    try dsimp only
    split <;> first | exact id
  case stepsgs22 =>
    refine ⟨?_, ?_, ?_, ?_, ?_, ?_, ?_, ?_, ?_, ?_, ?_, ?_, trivial⟩
    · intro vals wr hR hp K hK
      dsimp only at hK ⊢
      clear hp
      unfold RunsOp
      go_simp
      exact hK.out _ _ ⟨_, rfl, Only.refl _ _, rfl⟩
    · intro vals wr hR hp K hK
      dsimp only at hK ⊢
      obtain ⟨p0, -⟩ := hp
      replace p0 := p0 rfl
      dsimp only at p0
      rw [p0] at hK ⊢
      clear p0
      unfold RunsOp
      go_simp
      exact hK.out _ _ ⟨_, rfl, Only.refl _ _, rfl⟩
    · intro vals wr hR hp K hK
      dsimp only at hK ⊢
      obtain ⟨p1, -⟩ := hp
      replace p1 := p1 rfl
      dsimp only at p1
      rw [p1] at hK ⊢
      clear p1
      unfold RunsOp
      go_simp
      exact hK.out _ _ ⟨_, rfl, Only.refl _ _, rfl⟩
    · intro vals wr hR hp K hK
      dsimp only at hK ⊢
      obtain ⟨p2, -⟩ := hp
      replace p2 := p2 rfl
      dsimp only at p2
      rw [p2] at hK ⊢
      clear p2
      unfold RunsOp
      go_simp
      exact hK.out _ _ ⟨_, rfl, Only.refl _ _, rfl⟩
    · intro vals wr hR hp K hK
      dsimp only at hK ⊢
      obtain ⟨p3, -⟩ := hp
      replace p3 := p3 rfl
      dsimp only at p3
      rw [p3] at hK ⊢
      clear p3
      unfold RunsOp
      go_simp
      exact hK.out _ _ ⟨_, rfl, Only.refl _ _, rfl⟩
    · intro vals wr hR hp K hK
      dsimp only at hK ⊢
      obtain ⟨p4, p3, -⟩ := hp
      replace p4 := p4 rfl
      replace p3 := p3 rfl
      dsimp only at p4 p3
      rw [p4, p3] at hK ⊢
      clear p4 p3
      unfold RunsOp
      go_simp
      exact hK.out _ _ ⟨_, rfl, Only.refl _ _, rfl⟩
    · intro vals wr hR hp K hK
      dsimp only at hK ⊢
      obtain ⟨p5, p3, -⟩ := hp
      replace p5 := p5 rfl
      replace p3 := p3 rfl
      dsimp only at p5 p3
      rw [p5, p3] at hK ⊢
      clear p5 p3
      unfold RunsOp
      have c0 := (hR.cell (p := ⟨b, o, none⟩) HC.out.1 (by simp)).trans HC.out.2.1
      have c1 := (hR.cell (p := ⟨b, o + 1, none⟩) HC.out.1 (by simp)).trans HC.out.2.2.1
      go_simp
      exact hK.out _ _ ⟨_, rfl, Only.refl _ _, rfl⟩
    · intro vals wr hR hp K hK
      dsimp only at hK ⊢
      obtain ⟨p3, -⟩ := hp
      replace p3 := p3 rfl
      dsimp only at p3
      rw [p3] at hK ⊢
      clear p3
      unfold RunsOp
      go_simp
      exact hK.out _ _ ⟨_, rfl, Only.refl _ _, rfl⟩
    · intro vals wr hR hp K hK
      dsimp only at hK ⊢
      obtain ⟨p7, p3, -⟩ := hp
      replace p7 := p7 rfl
      replace p3 := p3 rfl
      dsimp only at p7 p3
      rw [p7, p3] at hK ⊢
      clear p7 p3
      unfold RunsOp
      go_simp
      exact hK.out _ _ ⟨_, rfl, Only.refl _ _, rfl⟩
    · intro vals wr hR hp K hK
      dsimp only at hK ⊢
      obtain ⟨p8, p3, -⟩ := hp
      replace p8 := p8 rfl
      replace p3 := p3 rfl
      dsimp only at p8 p3
      rw [p8, p3] at hK ⊢
      clear p8 p3
      unfold RunsOp
      have c2 := (hR.cell (p := ⟨b, o + 2, none⟩) HC.out.1 (by simp)).trans HC.out.2.2.2.1
      have c3 := (hR.cell (p := ⟨b, o + 3, none⟩) HC.out.1 (by simp)).trans HC.out.2.2.2.2
      go_simp
      exact hK.out _ _ ⟨_, rfl, Only.refl _ _, rfl⟩
    · intro vals wr hR hp K hK
      dsimp only at hK ⊢
      obtain ⟨p6, p9, p3, -, -⟩ := hp
      replace p6 := p6 rfl
      replace p9 := p9 rfl
      replace p3 := p3 rfl
      dsimp only at p6 p9 p3
      rw [p6, p9, p3] at hK ⊢
      clear p6 p9 p3
      unfold RunsOp
      go_simp
      refine (CS.out _ (HX.out _ hR)).mono ?_
      rintro e w2 ⟨rfl, o2⟩
      exact hK.out _ _ ⟨_, rfl, o2, rfl⟩
    · intro vals wr hR hp K hK
      dsimp only at hK ⊢
      obtain ⟨p3, p10, -⟩ := hp
      replace p3 := p3 rfl
      replace p10 := p10 rfl
      dsimp only at p3 p10
      rw [p3, p10] at hK ⊢
      clear p3 p10
      unfold RunsOp
      go_simp
      exact hK.out _ _ ⟨_, rfl, Only.refl _ _, rfl⟩
  case donegs22 =>
    intro vals wd hR hF
    have f0 : vals 0 = .slice (some ⟨b, o, none⟩) 2 cap := hF 0 (by decide)
    have f1 : vals 1 = .int .i64 2 := hF 1 (by decide)
    have f2 : vals 2 = .bool true := hF 2 (by decide)
    have f3 : vals 3 = .bool true := hF 3 (by decide)
    have f4 : vals 4 = .slice (some ⟨b, o, none⟩) 2 cap := hF 4 (by decide)
    have f5 : vals 5 = .pointer (some ⟨b, o, none⟩) := hF 5 (by decide)
    have f6 : vals 6 = .agg #[.int .i64 xk, .slice xA xl.length xcap] := hF 6 (by decide)
    have f7 : vals 7 = .slice (some ⟨b, o, none⟩) 2 cap := hF 7 (by decide)
    have f8 : vals 8 = .pointer (some ⟨b, o + 2, none⟩) := hF 8 (by decide)
    have f9 : vals 9 = .agg #[.int .i64 yk, .slice yA yl.length ycap] := hF 9 (by decide)
    have f10 : (vals 10) = .bool q := hF 10 (by decide)
    have f11 : vals 11 = .bool q := hF 11 (by decide)
    rw [f0, f1, f2, f3, f4, f5, f6, f7, f8, f9, f11]
    clear f0 f1 f2 f3 f4 f5 f6 f7 f8 f9 f11
    rw [f10]
    clear f10
    have O9 := Lib.hid (HX.out _ hR)
    have R9 := Lib.hid (hR.blk (Blk.drew R0.out) (by simp))
    clear hR hF
    gi_wp2_with (fail)
    cases q with
    | false =>
      obtain ⟨r0, r1, rl⟩ := R9.out.facts2
      have g0 := R9.out.frozen 0
      have g1 := R9.out.frozen 1
      go_wp2_with (fail)
      have hb5 := (R9.out.set_ 0 (.int .i64 0)).set_ 1 (.slice none 0 0)
      obtain ⟨e0, e1, -⟩ := Blk.facts2 (a := .int .i64 0) (b := .slice none 0 0) hb5
      refine bodyPost_ret (v := .tuple #[.agg #[.int .i64 0, .slice none 0 0], .int .i64 12]) (by simp [results, Tryd.results35, go_sem, e0, e1]) rfl ?_
      clear e0 e1 hb5
      have o7 : Only [w.heap.size] wd _ := ((Only.refl _ wd).setCell (p := ⟨w.heap.size, 0, none⟩) (.inl (by simp)) (.int .i64 0)).setCell (p := ⟨w.heap.size, 1, none⟩) (.inl (by simp)) (.slice none 0 0)
      exact ⟨0, none, 0, [], rfl, plain_TK _ _ 0 ⟨by omega, by omega⟩ _, O9.out.trans o7 (fun b hb => .inr (by simp at hb; omega))⟩
    | true =>
      go_wp2_with (fail)
      refine (plain_any 1 _).mono ?_
      rintro r w3 ⟨rfl, o3⟩
      have O3 := Lib.hid (O9.out.trans o3 (by simp))
      have R3 := Lib.hid (o3.blk R9.out (by simp))
      clear o3
      obtain ⟨r0, r1, rl⟩ := R3.out.facts2
      have g0 := R3.out.frozen 0
      have g1 := R3.out.frozen 1
      go_wp2_with (fail)
      have hb5 := (R3.out.set_ 0 (.int .i64 1)).set_ 1 (.slice none 0 0)
      obtain ⟨e0, e1, -⟩ := Blk.facts2 (a := .int .i64 1) (b := .slice none 0 0) hb5
      refine bodyPost_ret (v := .tuple #[.agg #[.int .i64 1, .slice none 0 0], .int .i64 0]) (by simp [results, Tryd.results35, go_sem, e0, e1]) rfl ?_
      clear e0 e1 hb5
      have o7 : Only [w.heap.size] w3 _ := ((Only.refl _ w3).setCell (p := ⟨w.heap.size, 0, none⟩) (.inl (by simp)) (.int .i64 1)).setCell (p := ⟨w.heap.size, 1, none⟩) (.inl (by simp)) (.slice none 0 0)
      exact ⟨1, none, 0, [], rfl, plain_TK _ _ 1 ⟨by omega, by omega⟩ _, O3.out.trans o7 (fun b hb => .inr (by simp at hb; omega))⟩
set_option maxHeartbeats 4000000 in
theorem sign25 {B0 B : Nat} {A : Option Addr} {cap : Nat} {es : List Tx} {w : World} (h : AR B0 B w A es) (_hB0 : B0 ≤ w.heap.size) (_hB : B ≤ w.heap.size) (hl : es.length = 3) :
    Calls Tryd.prog 35 #[.int .i64 25, .slice A es.length cap] w fun r w' => RG B0 B w (signK 25 (es.map Tx.tr)) r w' := by
  obtain ⟨x, y, z, rfl⟩ := list3 hl
  have hs : signK 25 ([x, y, z].map Tx.tr) = if x.tr.k = 1 ∧ y.tr.same z.tr = true then (y.tr, 0) else (noT, 12) := by simp [signK]
  rw [hs]
  clear hs
  have hx := h.row.row 0 x rfl
  have hy := h.row.row 1 y rfl
  have hz := h.row.row 2 z rfl
  have Lx := Lib.hid (h.el (e := x) (by simp))
  have Ly := Lib.hid (h.el (e := y) (by simp))
  have Lz := Lib.hid (h.el (e := z) (by simp))
  have HR := Lib.hid h.row
  have R0 := Lib.hid (Blk.new w 34 #[.int .i64 0, .slice none 0 0])
  have O0 := Lib.hid (show Only [] w (w.alloc (.cells #[.int .i64 0, .slice none 0 0] 34)) from (Only.refl _ _).alloc _)
  have CS := Lib.hid (fun W (o : Only [] w W) => sameT y z W (Ly.out.lies.keep o) (Lz.out.lies.keep o))
  obtain ⟨q, hq⟩ : ∃ q, y.tr.same z.tr = q := ⟨_, rfl⟩
  rw [hq] at CS
  rw [hq]
  replace hx := hx.only O0.out (by simp)
  replace hy := hy.only O0.out (by simp)
  replace hz := hz.only O0.out (by simp)
  obtain ⟨xk, xA, xcap, xl⟩ := x
  obtain ⟨yk, yA, ycap, yl⟩ := y
  obtain ⟨zk, zA, zcap, zl⟩ := z
  have hxk : (Tx.mk xk xA xcap xl).tr.k = xk := by rw [Tx.tr_mk]; rfl
  rw [hxk]
  obtain ⟨b, o, rfl, hbb, c0, c1⟩ := hx.cells
  obtain ⟨b', o', hA2, -, c2, c3⟩ := hy.cells
  injection hA2 with hA2
  injection hA2 with h1 h2
  subst h1 h2
  obtain ⟨b', o', hA2, -, c4, c5⟩ := hz.cells
  injection hA2 with hA2
  injection hA2 with h1 h2
  subst h1 h2
  have HC := Lib.hid (And.intro hbb (And.intro c0 (And.intro c2 (And.intro c3 (And.intro c4 c5)))))
  simp only [Nat.zero_mul, Nat.add_zero, Nat.one_mul, Nat.reduceMul] at HC
  show Calls Tryd.prog 35 #[.int .i64 25, .slice (some ⟨b, o, none⟩) (3 : Nat) cap] w _
  clear h _hB0 _hB hq hx hy hz hbb c0 c1 c2 c3 c4 c5 hl HR Lx Lz hxk
  generalize hw0 : w.alloc (.cells #[.int .i64 0, .slice none 0 0] 34) = w0 at R0 O0 HC
  have HW0 := Lib.hid hw0
  clear hw0
  have HX := Lib.hid (fun W (o : Only [] w0.drew W) => O0.out.trans ((Only.refl [] w0).drew.trans o (by simp)) (by simp))
  by_cases hk1 : xk = 1
  · have HDK := Lib.hid (show (xk == 1) = true by rw [hk1]; rfl)
    have HP := Lib.hid (show (if xk = 1 ∧ q = true then ((Tx.mk yk yA ycap yl).tr, (0 : Int)) else (noT, 12)) = if q = true then ((Tx.mk yk yA ycap yl).tr, (0 : Int)) else (noT, 12) by simp [hk1])
    show Calls Tryd.prog 35 _ w fun r w' => RG B0 B w (if xk = 1 ∧ q = true then ((Tx.mk yk yA ycap yl).tr, (0 : Int)) else (noT, 12)) r w'
    rw [HP.out]
    clear hk1 HP
    go_enter Tryd.func35, Tryd.ntmps35
    go_wp2_with (fail)
    rw [HW0.out]
    refine (wpIn_wide (n := 9)).1 ?_
    refine wpIn_region_relR 19 (Only []) (fr := ?frgi1) (tl := ?tlgi1) (fun iq v wv => match iq with
      | 0 => v = .slice (some ⟨b, o, none⟩) 3 cap
      | 1 => v = .int .i64 3
      | 2 => v = .bool true
      | 3 => v = .bool true
      | 4 => v = .slice (some ⟨b, o, none⟩) 3 cap
      | 5 => v = .pointer (some ⟨b, o, none⟩)
      | 6 => v = .pointer (some ⟨b, o, none⟩)
      | 7 => v = .int .i64 xk
      | 8 => v = .bool true
      | 9 => v = .bool true
      | 10 => v = .bool true
      | 11 => v = .slice (some ⟨b, o, none⟩) 3 cap
      | 12 => v = .pointer (some ⟨b, o + 2, none⟩)
      | 13 => v = .agg #[.int .i64 yk, .slice yA yl.length ycap]
      | 14 => v = .slice (some ⟨b, o, none⟩) 3 cap
      | 15 => v = .pointer (some ⟨b, o + 4, none⟩)
      | 16 => v = .agg #[.int .i64 zk, .slice zA zl.length zcap]
      | 17 => v = .bool q
      | 18 => v = .bool q
      | _ => True) (.inl rfl) (by kernel_rfl) (by kernel_rfl) (by kernel_rfl) (by kernel_rfl) (by kernel_rfl) (by kernel_rfl) (by decide) ?htlgi1 ?hfrgi1 (Only.refl _ _) (fun _ _ _ h k => h.trans k (fun _ hx => .inl hx)) ?stabgi1 ?stepsgi1 ?donegi1
    case htlgi1 => simp only [List.drop_succ_cons, List.drop_zero]; rfl
    case hfrgi1 => intro vals; simp only [putAll, dstAt, Act.put, List.getElem?_toArray, List.getElem?_cons_zero, List.getElem?_cons_succ, Option.bind_some, List.setIfInBounds_toArray, List.set_cons_zero, List.set_cons_succ]; rfl
    case stabgi1 =>
      intro i v wa wb h
      try dsimp only
      split <;> first | exact id
    case stepsgi1 =>
      refine ⟨?_, ?_, ?_, ?_, ?_, ?_, ?_, ?_, ?_, ?_, ?_, ?_, ?_, ?_, ?_, ?_, ?_, ?_, ?_, trivial⟩
      · intro vals wr hR hp K hK
        dsimp only at hK ⊢
        clear hp
        unfold RunsOp
        go_simp
        exact hK.out _ _ ⟨_, rfl, Only.refl _ _, rfl⟩
      · intro vals wr hR hp K hK
        dsimp only at hK ⊢
        obtain ⟨p0, -⟩ := hp
        replace p0 := p0 rfl
        dsimp only at p0
        rw [p0] at hK ⊢
        clear p0
        unfold RunsOp
        go_simp
        exact hK.out _ _ ⟨_, rfl, Only.refl _ _, rfl⟩
      · intro vals wr hR hp K hK
        dsimp only at hK ⊢
        obtain ⟨p1, -⟩ := hp
        replace p1 := p1 rfl
        dsimp only at p1
        rw [p1] at hK ⊢
        clear p1
        unfold RunsOp
        go_simp
        exact hK.out _ _ ⟨_, rfl, Only.refl _ _, rfl⟩
      · intro vals wr hR hp K hK
        dsimp only at hK ⊢
        obtain ⟨p2, -⟩ := hp
        replace p2 := p2 rfl
        dsimp only at p2
        rw [p2] at hK ⊢
        clear p2
        unfold RunsOp
        go_simp
        exact hK.out _ _ ⟨_, rfl, Only.refl _ _, rfl⟩
      · intro vals wr hR hp K hK
        dsimp only at hK ⊢
        obtain ⟨p3, -⟩ := hp
        replace p3 := p3 rfl
        dsimp only at p3
        rw [p3] at hK ⊢
        clear p3
        unfold RunsOp
        go_simp
        exact hK.out _ _ ⟨_, rfl, Only.refl _ _, rfl⟩
      · intro vals wr hR hp K hK
        dsimp only at hK ⊢
        obtain ⟨p4, p3, -⟩ := hp
        replace p4 := p4 rfl
        replace p3 := p3 rfl
        dsimp only at p4 p3
        rw [p4, p3] at hK ⊢
        clear p4 p3
        unfold RunsOp
        go_simp
        exact hK.out _ _ ⟨_, rfl, Only.refl _ _, rfl⟩
      · intro vals wr hR hp K hK
        dsimp only at hK ⊢
        obtain ⟨p5, p3, -⟩ := hp
        replace p5 := p5 rfl
        replace p3 := p3 rfl
        dsimp only at p5 p3
        rw [p5, p3] at hK ⊢
        clear p5 p3
        unfold RunsOp
        go_simp
        exact hK.out _ _ ⟨_, rfl, Only.refl _ _, rfl⟩
      · intro vals wr hR hp K hK
        dsimp only at hK ⊢
        obtain ⟨p6, p3, -⟩ := hp
        replace p6 := p6 rfl
        replace p3 := p3 rfl
        dsimp only at p6 p3
        rw [p6, p3] at hK ⊢
        clear p6 p3
        unfold RunsOp
        have c0 := (hR.cell (p := ⟨b, o, none⟩) HC.out.1 (by simp)).trans HC.out.2.1
        go_simp
        exact hK.out _ _ ⟨_, rfl, Only.refl _ _, rfl⟩
      · intro vals wr hR hp K hK
        dsimp only at hK ⊢
        obtain ⟨p7, p3, -⟩ := hp
        replace p7 := p7 rfl
        replace p3 := p3 rfl
        dsimp only at p7 p3
        rw [p7, p3] at hK ⊢
        clear p7 p3
        unfold RunsOp
        have dk := HDK.out
        go_simp
        exact hK.out _ _ ⟨_, rfl, Only.refl _ _, rfl⟩
      · intro vals wr hR hp K hK
        dsimp only at hK ⊢
        obtain ⟨p3, p8, -⟩ := hp
        replace p3 := p3 rfl
        replace p8 := p8 rfl
        dsimp only at p3 p8
        rw [p3, p8] at hK ⊢
        clear p3 p8
        unfold RunsOp
        go_simp
        exact hK.out _ _ ⟨_, rfl, Only.refl _ _, rfl⟩
      · intro vals wr hR hp K hK
        dsimp only at hK ⊢
        obtain ⟨p9, -, -⟩ := hp
        replace p9 := p9 rfl
        dsimp only at p9
        rw [p9] at hK ⊢
        clear p9
        unfold RunsOp
        go_simp
        exact hK.out _ _ ⟨_, rfl, Only.refl _ _, rfl⟩
      · intro vals wr hR hp K hK
        dsimp only at hK ⊢
        obtain ⟨p10, -⟩ := hp
        replace p10 := p10 rfl
        dsimp only at p10
        rw [p10] at hK ⊢
        clear p10
        unfold RunsOp
        go_simp
        exact hK.out _ _ ⟨_, rfl, Only.refl _ _, rfl⟩
      · intro vals wr hR hp K hK
        dsimp only at hK ⊢
        obtain ⟨p11, p10, -⟩ := hp
        replace p11 := p11 rfl
        replace p10 := p10 rfl
        dsimp only at p11 p10
        rw [p11, p10] at hK ⊢
        clear p11 p10
        unfold RunsOp
        go_simp
        exact hK.out _ _ ⟨_, rfl, Only.refl _ _, rfl⟩
      · intro vals wr hR hp K hK
        dsimp only at hK ⊢
        obtain ⟨p12, p10, -⟩ := hp
        replace p12 := p12 rfl
        replace p10 := p10 rfl
        dsimp only at p12 p10
        rw [p12, p10] at hK ⊢
        clear p12 p10
        unfold RunsOp
        have c2 := (hR.cell (p := ⟨b, o + 2, none⟩) HC.out.1 (by simp)).trans HC.out.2.2.1
        have c3 := (hR.cell (p := ⟨b, o + 3, none⟩) HC.out.1 (by simp)).trans HC.out.2.2.2.1
        go_simp
        exact hK.out _ _ ⟨_, rfl, Only.refl _ _, rfl⟩
      · intro vals wr hR hp K hK
        dsimp only at hK ⊢
        obtain ⟨p10, -⟩ := hp
        replace p10 := p10 rfl
        dsimp only at p10
        rw [p10] at hK ⊢
        clear p10
        unfold RunsOp
        go_simp
        exact hK.out _ _ ⟨_, rfl, Only.refl _ _, rfl⟩
      · intro vals wr hR hp K hK
        dsimp only at hK ⊢
        obtain ⟨p14, p10, -⟩ := hp
        replace p14 := p14 rfl
        replace p10 := p10 rfl
        dsimp only at p14 p10
        rw [p14, p10] at hK ⊢
        clear p14 p10
        unfold RunsOp
        go_simp
        exact hK.out _ _ ⟨_, rfl, Only.refl _ _, rfl⟩
      · intro vals wr hR hp K hK
        dsimp only at hK ⊢
        obtain ⟨p15, p10, -⟩ := hp
        replace p15 := p15 rfl
        replace p10 := p10 rfl
        dsimp only at p15 p10
        rw [p15, p10] at hK ⊢
        clear p15 p10
        unfold RunsOp
        have c4 := (hR.cell (p := ⟨b, o + 4, none⟩) HC.out.1 (by simp)).trans HC.out.2.2.2.2.1
        have c5 := (hR.cell (p := ⟨b, o + 5, none⟩) HC.out.1 (by simp)).trans HC.out.2.2.2.2.2
        go_simp
        exact hK.out _ _ ⟨_, rfl, Only.refl _ _, rfl⟩
      · intro vals wr hR hp K hK
        dsimp only at hK ⊢
        obtain ⟨p13, p16, p10, -, -⟩ := hp
        replace p13 := p13 rfl
        replace p16 := p16 rfl
        replace p10 := p10 rfl
        dsimp only at p13 p16 p10
        rw [p13, p16, p10] at hK ⊢
        clear p13 p16 p10
        unfold RunsOp
        go_simp
        refine (CS.out _ (HX.out _ hR)).mono ?_
        rintro e w2 ⟨rfl, o2⟩
        exact hK.out _ _ ⟨_, rfl, o2, rfl⟩
      · intro vals wr hR hp K hK
        dsimp only at hK ⊢
        obtain ⟨p10, p17, -⟩ := hp
        replace p10 := p10 rfl
        replace p17 := p17 rfl
        dsimp only at p10 p17
        rw [p10, p17] at hK ⊢
        clear p10 p17
        unfold RunsOp
        go_simp
        exact hK.out _ _ ⟨_, rfl, Only.refl _ _, rfl⟩
    case donegi1 =>
      intro vals wd hR hF
      have f0 : vals 0 = .slice (some ⟨b, o, none⟩) 3 cap := hF 0 (by decide)
      have f1 : vals 1 = .int .i64 3 := hF 1 (by decide)
      have f2 : vals 2 = .bool true := hF 2 (by decide)
      have f3 : vals 3 = .bool true := hF 3 (by decide)
      have f4 : vals 4 = .slice (some ⟨b, o, none⟩) 3 cap := hF 4 (by decide)
      have f5 : vals 5 = .pointer (some ⟨b, o, none⟩) := hF 5 (by decide)
      have f6 : vals 6 = .pointer (some ⟨b, o, none⟩) := hF 6 (by decide)
      have f7 : vals 7 = .int .i64 xk := hF 7 (by decide)
      have f8 : vals 8 = .bool true := hF 8 (by decide)
      have f9 : vals 9 = .bool true := hF 9 (by decide)
      have f10 : vals 10 = .bool true := hF 10 (by decide)
      have f11 : vals 11 = .slice (some ⟨b, o, none⟩) 3 cap := hF 11 (by decide)
      have f12 : vals 12 = .pointer (some ⟨b, o + 2, none⟩) := hF 12 (by decide)
      have f13 : vals 13 = .agg #[.int .i64 yk, .slice yA yl.length ycap] := hF 13 (by decide)
      have f14 : vals 14 = .slice (some ⟨b, o, none⟩) 3 cap := hF 14 (by decide)
      have f15 : vals 15 = .pointer (some ⟨b, o + 4, none⟩) := hF 15 (by decide)
      have f16 : vals 16 = .agg #[.int .i64 zk, .slice zA zl.length zcap] := hF 16 (by decide)
      have f17 : (vals 17) = .bool q := hF 17 (by decide)
      have f18 : vals 18 = .bool q := hF 18 (by decide)
      rw [f0, f1, f2, f3, f4, f5, f6, f7, f8, f9, f10, f11, f12, f13, f14, f15, f16, f18]
      clear f0 f1 f2 f3 f4 f5 f6 f7 f8 f9 f10 f11 f12 f13 f14 f15 f16 f18
      rw [f17]
      clear f17
      have O9 := Lib.hid (HX.out _ hR)
      have R9 := Lib.hid (hR.blk (Blk.drew R0.out) (by simp))
      have HC9 := Lib.hid (show b < wd.heap.size ∧ wd.cell? ⟨b, o + 2, none⟩ = some (.int .i64 yk) ∧ wd.cell? ⟨b, o + 3, none⟩ = some (.slice yA yl.length ycap) from ⟨Nat.lt_of_lt_of_le HC.out.1 hR.size, (hR.cell (p := ⟨b, o + 2, none⟩) HC.out.1 (by simp)).trans HC.out.2.2.1, (hR.cell (p := ⟨b, o + 3, none⟩) HC.out.1 (by simp)).trans HC.out.2.2.2.1⟩)
      clear hR hF
      gi_wp2_with (fail)
      cases q with
      | false =>
        obtain ⟨r0, r1, rl⟩ := R9.out.facts2
        have g0 := R9.out.frozen 0
        have g1 := R9.out.frozen 1
        go_wp2_with (fail)
        have hb5 := (R9.out.set_ 0 (.int .i64 0)).set_ 1 (.slice none 0 0)
        obtain ⟨e0, e1, -⟩ := Blk.facts2 (a := .int .i64 0) (b := .slice none 0 0) hb5
        refine bodyPost_ret (v := .tuple #[.agg #[.int .i64 0, .slice none 0 0], .int .i64 12]) (by simp [results, Tryd.results35, go_sem, e0, e1]) rfl ?_
        clear e0 e1 hb5
        have o7 : Only [w.heap.size] wd _ := ((Only.refl _ wd).setCell (p := ⟨w.heap.size, 0, none⟩) (.inl (by simp)) (.int .i64 0)).setCell (p := ⟨w.heap.size, 1, none⟩) (.inl (by simp)) (.slice none 0 0)
        exact ⟨0, none, 0, [], rfl, plain_TK _ _ 0 ⟨by omega, by omega⟩ _, O9.out.trans o7 (fun b hb => .inr (by simp at hb; omega))⟩
      | true =>
        obtain ⟨hbl, c2, c3⟩ := HC9.out
        obtain ⟨r0, r1, rl⟩ := R9.out.facts2
        have g0 := R9.out.frozen 0
        have g1 := R9.out.frozen 1
        go_wp2_with (fail)
        have hb5 := (R9.out.set_ 0 (.int .i64 yk)).set_ 1 (.slice yA yl.length ycap)
        obtain ⟨e0, e1, -⟩ := Blk.facts2 (a := .int .i64 yk) (b := .slice yA yl.length ycap) hb5
        refine bodyPost_ret (v := .tuple #[.agg #[.int .i64 yk, .slice yA yl.length ycap], .int .i64 0]) (by simp [results, Tryd.results35, go_sem, e0, e1]) rfl ?_
        clear e0 e1 hb5
        have o7 : Only [w.heap.size] wd _ := ((Only.refl _ wd).setCell (p := ⟨w.heap.size, 0, none⟩) (.inl (by simp)) (.int .i64 yk)).setCell (p := ⟨w.heap.size, 1, none⟩) (.inl (by simp)) (.slice yA yl.length ycap)
        have o8 := O9.out.trans o7 (fun b hb => .inr (by simp at hb; omega))
        exact ⟨yk, yA, ycap, yl, rfl, Ly.out.keep o8, o8⟩
  · have HDK := Lib.hid (show (xk == 1) = false by simp [hk1])
    have HP := Lib.hid (show (if xk = 1 ∧ q = true then ((Tx.mk yk yA ycap yl).tr, (0 : Int)) else (noT, 12)) = (noT, 12) by simp [hk1])
    show Calls Tryd.prog 35 _ w fun r w' => RG B0 B w (if xk = 1 ∧ q = true then ((Tx.mk yk yA ycap yl).tr, (0 : Int)) else (noT, 12)) r w'
    rw [HP.out]
    clear hk1 HP
    go_enter Tryd.func35, Tryd.ntmps35
    go_wp2_with (fail)
    rw [HW0.out]
    refine (wpIn_wide (n := 9)).1 ?_
    refine wpIn_region_relR 19 (Only []) (fr := ?frgi2) (tl := ?tlgi2) (fun iq v wv => match iq with
      | 0 => v = .slice (some ⟨b, o, none⟩) 3 cap
      | 1 => v = .int .i64 3
      | 2 => v = .bool true
      | 3 => v = .bool true
      | 4 => v = .slice (some ⟨b, o, none⟩) 3 cap
      | 5 => v = .pointer (some ⟨b, o, none⟩)
      | 6 => v = .pointer (some ⟨b, o, none⟩)
      | 7 => v = .int .i64 xk
      | 8 => v = .bool false
      | 9 => v = .bool false
      | 10 => v = .bool false
      | 18 => v = .bool false
      | _ => True) (.inl rfl) (by kernel_rfl) (by kernel_rfl) (by kernel_rfl) (by kernel_rfl) (by kernel_rfl) (by kernel_rfl) (by decide) ?htlgi2 ?hfrgi2 (Only.refl _ _) (fun _ _ _ h k => h.trans k (fun _ hx => .inl hx)) ?stabgi2 ?stepsgi2 ?donegi2
    case htlgi2 => simp only [List.drop_succ_cons, List.drop_zero]; rfl
    case hfrgi2 => intro vals; simp only [putAll, dstAt, Act.put, List.getElem?_toArray, List.getElem?_cons_zero, List.getElem?_cons_succ, Option.bind_some, List.setIfInBounds_toArray, List.set_cons_zero, List.set_cons_succ]; rfl
    case stabgi2 =>
      intro i v wa wb h
      try dsimp only
      split <;> first | exact id
    case stepsgi2 =>
      refine ⟨?_, ?_, ?_, ?_, ?_, ?_, ?_, ?_, ?_, ?_, ?_, ?_, ?_, ?_, ?_, ?_, ?_, ?_, ?_, trivial⟩
      · intro vals wr hR hp K hK
        dsimp only at hK ⊢
        clear hp
        unfold RunsOp
        go_simp
        exact hK.out _ _ ⟨_, rfl, Only.refl _ _, rfl⟩
      · intro vals wr hR hp K hK
        dsimp only at hK ⊢
        obtain ⟨p0, -⟩ := hp
        replace p0 := p0 rfl
        dsimp only at p0
        rw [p0] at hK ⊢
        clear p0
        unfold RunsOp
        go_simp
        exact hK.out _ _ ⟨_, rfl, Only.refl _ _, rfl⟩
      · intro vals wr hR hp K hK
        dsimp only at hK ⊢
        obtain ⟨p1, -⟩ := hp
        replace p1 := p1 rfl
        dsimp only at p1
        rw [p1] at hK ⊢
        clear p1
        unfold RunsOp
        go_simp
        exact hK.out _ _ ⟨_, rfl, Only.refl _ _, rfl⟩
      · intro vals wr hR hp K hK
        dsimp only at hK ⊢
        obtain ⟨p2, -⟩ := hp
        replace p2 := p2 rfl
        dsimp only at p2
        rw [p2] at hK ⊢
        clear p2
        unfold RunsOp
        go_simp
        exact hK.out _ _ ⟨_, rfl, Only.refl _ _, rfl⟩
      · intro vals wr hR hp K hK
        dsimp only at hK ⊢
        obtain ⟨p3, -⟩ := hp
        replace p3 := p3 rfl
        dsimp only at p3
        rw [p3] at hK ⊢
        clear p3
        unfold RunsOp
        go_simp
        exact hK.out _ _ ⟨_, rfl, Only.refl _ _, rfl⟩
      · intro vals wr hR hp K hK
        dsimp only at hK ⊢
        obtain ⟨p4, p3, -⟩ := hp
        replace p4 := p4 rfl
        replace p3 := p3 rfl
        dsimp only at p4 p3
        rw [p4, p3] at hK ⊢
        clear p4 p3
        unfold RunsOp
        go_simp
        exact hK.out _ _ ⟨_, rfl, Only.refl _ _, rfl⟩
      · intro vals wr hR hp K hK
        dsimp only at hK ⊢
        obtain ⟨p5, p3, -⟩ := hp
        replace p5 := p5 rfl
        replace p3 := p3 rfl
        dsimp only at p5 p3
        rw [p5, p3] at hK ⊢
        clear p5 p3
        unfold RunsOp
        go_simp
        exact hK.out _ _ ⟨_, rfl, Only.refl _ _, rfl⟩
      · intro vals wr hR hp K hK
        dsimp only at hK ⊢
        obtain ⟨p6, p3, -⟩ := hp
        replace p6 := p6 rfl
        replace p3 := p3 rfl
        dsimp only at p6 p3
        rw [p6, p3] at hK ⊢
        clear p6 p3
        unfold RunsOp
        have c0 := (hR.cell (p := ⟨b, o, none⟩) HC.out.1 (by simp)).trans HC.out.2.1
        go_simp
        exact hK.out _ _ ⟨_, rfl, Only.refl _ _, rfl⟩
      · intro vals wr hR hp K hK
        dsimp only at hK ⊢
        obtain ⟨p7, p3, -⟩ := hp
        replace p7 := p7 rfl
        replace p3 := p3 rfl
        dsimp only at p7 p3
        rw [p7, p3] at hK ⊢
        clear p7 p3
        unfold RunsOp
        have dk := HDK.out
        go_simp
        exact hK.out _ _ ⟨_, rfl, Only.refl _ _, rfl⟩
      · intro vals wr hR hp K hK
        dsimp only at hK ⊢
        obtain ⟨p3, p8, -⟩ := hp
        replace p3 := p3 rfl
        replace p8 := p8 rfl
        dsimp only at p3 p8
        rw [p3, p8] at hK ⊢
        clear p3 p8
        unfold RunsOp
        go_simp
        exact hK.out _ _ ⟨_, rfl, Only.refl _ _, rfl⟩
      · intro vals wr hR hp K hK
        dsimp only at hK ⊢
        obtain ⟨p9, -, -⟩ := hp
        replace p9 := p9 rfl
        dsimp only at p9
        rw [p9] at hK ⊢
        clear p9
        unfold RunsOp
        go_simp
        exact hK.out _ _ ⟨_, rfl, Only.refl _ _, rfl⟩
      · intro vals wr hR hp K hK
        dsimp only at hK ⊢
        obtain ⟨p10, -⟩ := hp
        replace p10 := p10 rfl
        dsimp only at p10
        rw [p10] at hK ⊢
        clear p10
        unfold RunsOp
        go_simp
        exact hK.out _ _ ⟨_, rfl, Only.refl _ _, trivial⟩
      · intro vals wr hR hp K hK
        dsimp only at hK ⊢
        obtain ⟨-, p10, -⟩ := hp
        replace p10 := p10 rfl
        dsimp only at p10
        rw [p10] at hK ⊢
        clear p10
        unfold RunsOp
        go_simp
        exact hK.out _ _ ⟨_, rfl, Only.refl _ _, trivial⟩
      · intro vals wr hR hp K hK
        dsimp only at hK ⊢
        obtain ⟨-, p10, -⟩ := hp
        replace p10 := p10 rfl
        dsimp only at p10
        rw [p10] at hK ⊢
        clear p10
        unfold RunsOp
        go_simp
        exact hK.out _ _ ⟨_, rfl, Only.refl _ _, trivial⟩
      · intro vals wr hR hp K hK
        dsimp only at hK ⊢
        obtain ⟨p10, -⟩ := hp
        replace p10 := p10 rfl
        dsimp only at p10
        rw [p10] at hK ⊢
        clear p10
        unfold RunsOp
        go_simp
        exact hK.out _ _ ⟨_, rfl, Only.refl _ _, trivial⟩
      · intro vals wr hR hp K hK
        dsimp only at hK ⊢
        obtain ⟨-, p10, -⟩ := hp
        replace p10 := p10 rfl
        dsimp only at p10
        rw [p10] at hK ⊢
        clear p10
        unfold RunsOp
        go_simp
        exact hK.out _ _ ⟨_, rfl, Only.refl _ _, trivial⟩
      · intro vals wr hR hp K hK
        dsimp only at hK ⊢
        obtain ⟨-, p10, -⟩ := hp
        replace p10 := p10 rfl
        dsimp only at p10
        rw [p10] at hK ⊢
        clear p10
        unfold RunsOp
        go_simp
        exact hK.out _ _ ⟨_, rfl, Only.refl _ _, trivial⟩
      · intro vals wr hR hp K hK
        dsimp only at hK ⊢
        obtain ⟨-, -, p10, -, -⟩ := hp
        replace p10 := p10 rfl
        dsimp only at p10
        rw [p10] at hK ⊢
        clear p10
        unfold RunsOp
        go_simp
        exact hK.out _ _ ⟨_, rfl, Only.refl _ _, trivial⟩
      · intro vals wr hR hp K hK
        dsimp only at hK ⊢
        obtain ⟨p10, -, -⟩ := hp
        replace p10 := p10 rfl
        dsimp only at p10
        rw [p10] at hK ⊢
        clear p10
        unfold RunsOp
        go_simp
        exact hK.out _ _ ⟨_, rfl, Only.refl _ _, rfl⟩
    case donegi2 =>
      intro vals wd hR hF
      have f0 : vals 0 = .slice (some ⟨b, o, none⟩) 3 cap := hF 0 (by decide)
      have f1 : vals 1 = .int .i64 3 := hF 1 (by decide)
      have f2 : vals 2 = .bool true := hF 2 (by decide)
      have f3 : vals 3 = .bool true := hF 3 (by decide)
      have f4 : vals 4 = .slice (some ⟨b, o, none⟩) 3 cap := hF 4 (by decide)
      have f5 : vals 5 = .pointer (some ⟨b, o, none⟩) := hF 5 (by decide)
      have f6 : vals 6 = .pointer (some ⟨b, o, none⟩) := hF 6 (by decide)
      have f7 : vals 7 = .int .i64 xk := hF 7 (by decide)
      have f8 : vals 8 = .bool false := hF 8 (by decide)
      have f9 : vals 9 = .bool false := hF 9 (by decide)
      have f10 : vals 10 = .bool false := hF 10 (by decide)
      have f18 : vals 18 = .bool false := hF 18 (by decide)
      rw [f0, f1, f2, f3, f4, f5, f6, f7, f8, f9, f10, f18]
      clear f0 f1 f2 f3 f4 f5 f6 f7 f8 f9 f10 f18
      have O9 := Lib.hid (HX.out _ hR)
      have R9 := Lib.hid (hR.blk (Blk.drew R0.out) (by simp))
      clear hR hF
      gi_wp2_with (fail)
      obtain ⟨r0, r1, rl⟩ := R9.out.facts2
      have g0 := R9.out.frozen 0
      have g1 := R9.out.frozen 1
      go_wp2_with (fail)
      have hb5 := (R9.out.set_ 0 (.int .i64 0)).set_ 1 (.slice none 0 0)
      obtain ⟨e0, e1, -⟩ := Blk.facts2 (a := .int .i64 0) (b := .slice none 0 0) hb5
      refine bodyPost_ret (v := .tuple #[.agg #[.int .i64 0, .slice none 0 0], .int .i64 12]) (by simp [results, Tryd.results35, go_sem, e0, e1]) rfl ?_
      clear e0 e1 hb5
      have o7 : Only [w.heap.size] wd _ := ((Only.refl _ wd).setCell (p := ⟨w.heap.size, 0, none⟩) (.inl (by simp)) (.int .i64 0)).setCell (p := ⟨w.heap.size, 1, none⟩) (.inl (by simp)) (.slice none 0 0)
      exact ⟨0, none, 0, [], rfl, plain_TK _ _ 0 ⟨by omega, by omega⟩ _, O9.out.trans o7 (fun b hb => .inr (by simp at hb; omega))⟩
theorem sign_any {B0 B : Nat} {op : Int} {A : Option Addr} {cap : Nat} {es : List Tx} {w : World} (h : AR B0 B w A es) (hB0 : B0 ≤ w.heap.size) (hB : B ≤ w.heap.size) (h1 : 13 ≤ op) (h2 : op ≤ 25) (hl2 : op = 20 ∨ op = 21 ∨ op = 22 → es.length = 2) (hl3 : op = 25 → es.length = 3) :
    Calls Tryd.prog 35 #[.int .i64 op, .slice A es.length cap] w fun r w' => RG B0 B w (signK op (es.map Tx.tr)) r w' := by
  have hc : op = 13 ∨ op = 14 ∨ op = 15 ∨ op = 16 ∨ op = 17 ∨ op = 18 ∨ op = 19 ∨ op = 20 ∨ op = 21 ∨ op = 22 ∨ op = 23 ∨ op = 24 ∨ op = 25 := by omega
  rcases hc with rfl | rfl | rfl | rfl | rfl | rfl | rfl | rfl | rfl | rfl | rfl | rfl | rfl
  · exact sign13 h hB0 hB
  · exact sign14 h hB0 hB
  · exact sign15 h hB0 hB
  · exact sign16 h hB0 hB
  · exact sign17 h hB0 hB
  · exact sign18 h hB0 hB
  · exact sign19 h hB0 hB
  · exact sign20 h hB0 hB (hl2 (by omega))
  · exact sign21 h hB0 hB (hl2 (by omega))
  · exact sign22 h hB0 hB (hl2 (by omega))
  · exact sign23 h hB0 hB
  · exact sign24 h hB0 hB
  · exact sign25 h hB0 hB (hl3 rfl)
end Go.Proofs.YtjhpckeoackblaaDoor
