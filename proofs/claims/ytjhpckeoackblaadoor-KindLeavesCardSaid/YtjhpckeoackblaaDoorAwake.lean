/- awake. -/
import Derived.Test.YtjhpckeoackblaaDoorType
namespace Go.Proofs.YtjhpckeoackblaaDoor
open Go.RowKit Go.Kx
open Go.Val (Tt)
set_option maxRecDepth 100000
def nmA : Nm := ⟨[(⟨#[]⟩, ⟨#[120]⟩, inT)], [], false, []⟩
theorem n21 : nodeB 21 0 ⟨#[]⟩ ⟨#[]⟩ 2 = true := by kernel_rfl
theorem n14 : nodeB 14 0 ⟨#[]⟩ ⟨#[]⟩ 1 = true := by kernel_rfl
theorem n4x : nodeB 4 0 ⟨#[120]⟩ ⟨#[]⟩ 0 = true := by kernel_rfl
theorem n4y : nodeB 4 0 ⟨#[121]⟩ ⟨#[]⟩ 0 = true := by kernel_rfl
theorem n03 : nodeB 0 3 ⟨#[]⟩ ⟨#[]⟩ 0 = true := by kernel_rfl
theorem kx : (Tr.mk 4 0 ⟨#[120]⟩ ⟨#[]⟩ []).kind nmA = (inT, 0) := by
  rw [Tr.kind_mk]
  simp [errK, leafK, varK, nmA]
theorem ky : (Tr.mk 4 0 ⟨#[121]⟩ ⟨#[]⟩ []).kind nmA = (noT, 10) := by
  rw [Tr.kind_mk]
  simp [errK, leafK, varK, nmA]
theorem k03 : (Tr.mk 0 3 ⟨#[]⟩ ⟨#[]⟩ []).kind nmA = (inT, 0) := by
  rw [Tr.kind_mk]
  simp [errK, leafK]
theorem aw1 : (Tr.mk 21 0 ⟨#[]⟩ ⟨#[]⟩ [.mk 4 0 ⟨#[120]⟩ ⟨#[]⟩ [], .mk 0 3 ⟨#[]⟩ ⟨#[]⟩ []]).type nmA = (boT, 0) := by
  have h : (Tr.mk 21 0 ⟨#[]⟩ ⟨#[]⟩ [.mk 4 0 ⟨#[120]⟩ ⟨#[]⟩ [], .mk 0 3 ⟨#[]⟩ ⟨#[]⟩ []]).ok = true := by
    simp [Tr.ok, Tr.depth, Tr.right, n21, n4x, n03, mx]
  have e : inT.same inT = true := (Tt.same_iff _ _).2 rfl
  rw [Tr.type, if_pos h, Tr.kind_mk]
  simp [kx, k03, errK, leafK, signK, e]
theorem aw2 : (Tr.mk 14 0 ⟨#[]⟩ ⟨#[]⟩ [.mk 4 0 ⟨#[120]⟩ ⟨#[]⟩ []]).type nmA = (noT, 12) := by
  have h : (Tr.mk 14 0 ⟨#[]⟩ ⟨#[]⟩ [.mk 4 0 ⟨#[120]⟩ ⟨#[]⟩ []]).ok = true := by
    simp [Tr.ok, Tr.depth, Tr.right, n14, n4x, mx]
  rw [Tr.type, if_pos h, Tr.kind_mk]
  simp [kx, errK, leafK, signK, inT, kindsB, Go.Val.Tt.k]
theorem aw3 : (Tr.mk 4 0 ⟨#[121]⟩ ⟨#[]⟩ []).type nmA = (noT, 10) := by
  have h : (Tr.mk 4 0 ⟨#[121]⟩ ⟨#[]⟩ []).ok = true := by
    simp [Tr.ok, Tr.depth, Tr.right, n4y, mx]
  rw [Tr.type, if_pos h, ky]
theorem lies_leaf {op n : Int} {nm : ByteArray} (h1 : I64 op) (h2 : I64 n) (h3 : nm.size ≤ 9223372036854775807) (w : World) : Lies w (.mk op n nm ⟨#[]⟩ none 0 []) :=
  .mk h1 h2 h3 (by decide) (by simp) (fun i e h => by simp at h) (fun e h => by simp at h)
theorem row24 {w : World} {g : Nat} {es : List Ex} (h : Blk w g 24 (es.flatMap Ex.cs).toArray) : ∀ i e, es[i]? = some e → RowAt w (some ⟨g, 0, none⟩) i e := by
  intro i e he
  refine ⟨g, 0, rfl, h.lt, fun j v hv => ?_⟩
  have key : ∀ (L : List Ex) (i j : Nat) (e : Ex) (v : Value), L[i]? = some e → e.cs[j]? = some v → (L.flatMap Ex.cs)[i * 5 + j]? = some v := by
    intro L
    induction L with
    | nil => intro i j e v h; simp at h
    | cons a L ih =>
      have hl : a.cs.length = 5 := by cases a; rfl
      intro i j e v hi hj
      cases i with
      | zero =>
        simp at hi
        subst hi
        rw [List.flatMap_cons, Nat.zero_mul, Nat.zero_add, List.getElem?_append_left (List.getElem?_eq_some_iff.1 hj).1]
        exact hj
      | succ i =>
        rw [List.flatMap_cons, List.getElem?_append_right (by rw [hl]; omega), hl, show (i + 1) * 5 + j - 5 = i * 5 + j by omega]
        exact ih i j e v (by simpa using hi) hj
  rw [Nat.zero_add, h.cell]
  simpa using key es i j e v he hv
theorem awT {W : World} {g : Nat} (hV : Blk W g 54 #[.string ⟨#[]⟩, .string ⟨#[120]⟩, .int .i64 0, .slice none 0 0]) (hW : WordsIs W) (e : Ex) (hL : Lies W e) : Calls Tryd.prog 10 #[e.val, .agg #[.slice (some ⟨g, 0, none⟩) 1 1, .slice none 0 0, .bool false, .slice none 0 0]] W fun r W' => RK W.heap.size W (e.tr.type nmA) r W' := by
  have hN : LiesN W (some ⟨g, 0, none⟩) [.mk ⟨#[]⟩ ⟨#[120]⟩ 0 none 0 []] none [] none [] := ⟨⟨fun i e he => by
      cases i with
      | succ i => simp at he
      | zero =>
        simp at he
        subst he
        exact ⟨g, 0, rfl, hV.lt, fun j v hv => by rw [Nat.zero_mul, Nat.add_zero, Nat.zero_add, hV.cell]; simpa [Vr.cs] using hv⟩, fun e he => by simp at he; subst he; exact ⟨plain_lies 0 ⟨by omega, by omega⟩ W, by decide, by decide⟩, by simp⟩,
    ⟨fun i e h => by simp at h, fun e h => by simp at h, by simp⟩, ⟨fun i e h => by simp at h, fun e h => by simp at h, by simp⟩⟩
  have hok : OkN [.mk ⟨#[]⟩ ⟨#[120]⟩ 0 none 0 []] [] [] := ⟨fun v hv => by simp at hv; subst hv; simp [Vr.t, Tx.tr_mk, Go.Val.Tt.ok_mk]; decide, fun v hv => by simp at hv, fun v hv => by simp at hv, by simp, by simp, by simp⟩
  have h := type_any (c1 := 1) (c2 := 0) (bag := false) (c3 := 0) (e := e) (w := W) hok (Nat.le_refl _) hL hW hN
  rw [show (Nm.mk ([Vr.mk ⟨#[]⟩ ⟨#[120]⟩ 0 none 0 []].map Vr.tr) (([] : List Pr).map Pr.tr) false (([] : List Vr).map Vr.tr)) = nmA by simp [nmA, Vr.tr, Tx.tr_mk, inT]] at h
  exact h
set_option maxHeartbeats 8000000 in
theorem awake_any {w : World} (hW : WordsIs w) : Calls Tryd.prog 7 #[] w fun r w' => r = .returned (.bool true) ∧ Only [] w w' := by
  have h0 := Blk.new w 24 #[.int .i64 4, .int .i64 0, .string ⟨#[120]⟩, .string ⟨#[]⟩, .slice none 0 0]
  have h1 := Blk.new (w.alloc (.cells #[.int .i64 4, .int .i64 0, .string ⟨#[120]⟩, .string ⟨#[]⟩, .slice none 0 0] 24)) 54 #[.string ⟨#[]⟩, .string ⟨#[120]⟩, .int .i64 0, .slice none 0 0]
  have h2 := Blk.new ((w.alloc (.cells #[.int .i64 4, .int .i64 0, .string ⟨#[120]⟩, .string ⟨#[]⟩, .slice none 0 0] 24)).alloc (.cells #[.string ⟨#[]⟩, .string ⟨#[120]⟩, .int .i64 0, .slice none 0 0] 54)) 40 #[.slice (some ⟨w.heap.size + 1, 0, none⟩) 1 1, .slice none 0 0, .bool false, .slice none 0 0]
  have h3 := Blk.new (((w.alloc (.cells #[.int .i64 4, .int .i64 0, .string ⟨#[120]⟩, .string ⟨#[]⟩, .slice none 0 0] 24)).alloc (.cells #[.string ⟨#[]⟩, .string ⟨#[120]⟩, .int .i64 0, .slice none 0 0] 54)).alloc (.cells #[.slice (some ⟨w.heap.size + 1, 0, none⟩) 1 1, .slice none 0 0, .bool false, .slice none 0 0] 40)) 24 #[.int .i64 4, .int .i64 0, .string ⟨#[120]⟩, .string ⟨#[]⟩, .slice none 0 0, .int .i64 0, .int .i64 3, .string ⟨#[]⟩, .string ⟨#[]⟩, .slice none 0 0]
  simp only [World.size_alloc] at h1 h2 h3
  have HX0 := Lib.hid (show Blk ((((w.alloc (.cells #[.int .i64 4, .int .i64 0, .string ⟨#[120]⟩, .string ⟨#[]⟩, .slice none 0 0] 24)).alloc (.cells #[.string ⟨#[]⟩, .string ⟨#[120]⟩, .int .i64 0, .slice none 0 0] 54)).alloc (.cells #[.slice (some ⟨w.heap.size + 1, 0, none⟩) 1 1, .slice none 0 0, .bool false, .slice none 0 0] 40)).alloc (.cells #[.int .i64 4, .int .i64 0, .string ⟨#[120]⟩, .string ⟨#[]⟩, .slice none 0 0, .int .i64 0, .int .i64 3, .string ⟨#[]⟩, .string ⟨#[]⟩, .slice none 0 0] 24)) w.heap.size 24 #[.int .i64 4, .int .i64 0, .string ⟨#[120]⟩, .string ⟨#[]⟩, .slice none 0 0] from ((h0.alloc _).alloc _).alloc _)
  have HV0 := Lib.hid (show Blk ((((w.alloc (.cells #[.int .i64 4, .int .i64 0, .string ⟨#[120]⟩, .string ⟨#[]⟩, .slice none 0 0] 24)).alloc (.cells #[.string ⟨#[]⟩, .string ⟨#[120]⟩, .int .i64 0, .slice none 0 0] 54)).alloc (.cells #[.slice (some ⟨w.heap.size + 1, 0, none⟩) 1 1, .slice none 0 0, .bool false, .slice none 0 0] 40)).alloc (.cells #[.int .i64 4, .int .i64 0, .string ⟨#[120]⟩, .string ⟨#[]⟩, .slice none 0 0, .int .i64 0, .int .i64 3, .string ⟨#[]⟩, .string ⟨#[]⟩, .slice none 0 0] 24)) (w.heap.size + 1) 54 #[.string ⟨#[]⟩, .string ⟨#[120]⟩, .int .i64 0, .slice none 0 0] from (h1.alloc _).alloc _)
  have HN0 := Lib.hid (show Blk ((((w.alloc (.cells #[.int .i64 4, .int .i64 0, .string ⟨#[120]⟩, .string ⟨#[]⟩, .slice none 0 0] 24)).alloc (.cells #[.string ⟨#[]⟩, .string ⟨#[120]⟩, .int .i64 0, .slice none 0 0] 54)).alloc (.cells #[.slice (some ⟨w.heap.size + 1, 0, none⟩) 1 1, .slice none 0 0, .bool false, .slice none 0 0] 40)).alloc (.cells #[.int .i64 4, .int .i64 0, .string ⟨#[120]⟩, .string ⟨#[]⟩, .slice none 0 0, .int .i64 0, .int .i64 3, .string ⟨#[]⟩, .string ⟨#[]⟩, .slice none 0 0] 24)) (w.heap.size + 1 + 1) 40 #[.slice (some ⟨w.heap.size + 1, 0, none⟩) 1 1, .slice none 0 0, .bool false, .slice none 0 0] from h2.alloc _)
  have HO0 := Lib.hid (show Only [] w ((((w.alloc (.cells #[.int .i64 4, .int .i64 0, .string ⟨#[120]⟩, .string ⟨#[]⟩, .slice none 0 0] 24)).alloc (.cells #[.string ⟨#[]⟩, .string ⟨#[120]⟩, .int .i64 0, .slice none 0 0] 54)).alloc (.cells #[.slice (some ⟨w.heap.size + 1, 0, none⟩) 1 1, .slice none 0 0, .bool false, .slice none 0 0] 40)).alloc (.cells #[.int .i64 4, .int .i64 0, .string ⟨#[120]⟩, .string ⟨#[]⟩, .slice none 0 0, .int .i64 0, .int .i64 3, .string ⟨#[]⟩, .string ⟨#[]⟩, .slice none 0 0] 24)) from ((((Only.refl [] w).alloc _).alloc _).alloc _).alloc _)
  have HWD := Lib.hid hW
  have C1 := Lib.hid (awT HV0.out (hW.keep HO0.out) (.mk 21 0 ⟨#[]⟩ ⟨#[]⟩ (some ⟨w.heap.size + 1 + 1 + 1, 0, none⟩) 2 [(.mk 4 0 ⟨#[120]⟩ ⟨#[]⟩ none 0 []), (.mk 0 3 ⟨#[]⟩ ⟨#[]⟩ none 0 [])]) (.mk ⟨by omega, by omega⟩ ⟨by omega, by omega⟩ (by decide) (by decide) (by simp) (row24 h3) (fun e he => by
    simp at he
    rcases he with rfl | rfl
    · exact lies_leaf ⟨by omega, by omega⟩ ⟨by omega, by omega⟩ (by decide) _
    · exact lies_leaf ⟨by omega, by omega⟩ ⟨by omega, by omega⟩ (by decide) _)))
  rw [show (Ex.mk 21 0 ⟨#[]⟩ ⟨#[]⟩ (some ⟨w.heap.size + 1 + 1 + 1, 0, none⟩) 2 [(.mk 4 0 ⟨#[120]⟩ ⟨#[]⟩ none 0 []), (.mk 0 3 ⟨#[]⟩ ⟨#[]⟩ none 0 [])]).tr = .mk 21 0 ⟨#[]⟩ ⟨#[]⟩ [.mk 4 0 ⟨#[120]⟩ ⟨#[]⟩ [], .mk 0 3 ⟨#[]⟩ ⟨#[]⟩ []] by simp [extr_mk], aw1] at C1
  obtain ⟨x0, x1, x2, x3, x4, xl⟩ := h0.facts5
  clear h1 h2 h3 hW h0
  go_enter Tryd.func7, Tryd.ntmps7
  go_wp2_with (fail)
  refine C1.out.mono ?_
  rintro r w1 ⟨yk, yA, ycap, yl, rfl, hc, o1⟩
  have HO1 := Lib.hid (HO0.out.trans o1 (by simp))
  have HX1 := Lib.hid (o1.blk HX0.out (by simp))
  have HV1 := Lib.hid (o1.blk HV0.out (by simp))
  have HN1 := Lib.hid (o1.blk HN0.out (by simp))
  obtain rfl : yk = 1 := by have h := hc.tr; rw [Tx.tr_mk] at h; injection h
  clear hc o1 x0 x1 x2 x3 x4 xl HX0 HV0 HN0 HO0 C1
  have hT := Blk.new w1 34 #[.int .i64 1, .slice yA yl.length ycap]
  have hS := Blk.new (w1.alloc (.cells #[.int .i64 1, .slice yA yl.length ycap] 34)) 24 #[.int .i64 4, .int .i64 0, .string ⟨#[120]⟩, .string ⟨#[]⟩, .slice none 0 0]
  simp only [World.size_alloc] at hS
  have HO2 := Lib.hid (show Only [] w1 ((w1.alloc (.cells #[.int .i64 1, .slice yA yl.length ycap] 34)).alloc (.cells #[.int .i64 4, .int .i64 0, .string ⟨#[120]⟩, .string ⟨#[]⟩, .slice none 0 0] 24)) from ((Only.refl [] w1).alloc _).alloc _)
  have HT2 := Lib.hid (show Blk ((w1.alloc (.cells #[.int .i64 1, .slice yA yl.length ycap] 34)).alloc (.cells #[.int .i64 4, .int .i64 0, .string ⟨#[120]⟩, .string ⟨#[]⟩, .slice none 0 0] 24)) w1.heap.size 34 #[.int .i64 1, .slice yA yl.length ycap] from hT.alloc _)
  have C2 := Lib.hid (awT (HO2.out.blk HV1.out (by simp)) (HWD.out.keep (HO1.out.trans HO2.out (by simp))) (.mk 14 0 ⟨#[]⟩ ⟨#[]⟩ (some ⟨w1.heap.size + 1, 0, none⟩) 1 [(.mk 4 0 ⟨#[120]⟩ ⟨#[]⟩ none 0 [])]) (.mk ⟨by omega, by omega⟩ ⟨by omega, by omega⟩ (by decide) (by decide) (by simp) (row24 hS) (fun e he => by
    simp at he
    subst he
    exact lies_leaf ⟨by omega, by omega⟩ ⟨by omega, by omega⟩ (by decide) _)))
  rw [show (Ex.mk 14 0 ⟨#[]⟩ ⟨#[]⟩ (some ⟨w1.heap.size + 1, 0, none⟩) 1 [(.mk 4 0 ⟨#[120]⟩ ⟨#[]⟩ none 0 [])]).tr = .mk 14 0 ⟨#[]⟩ ⟨#[]⟩ [.mk 4 0 ⟨#[120]⟩ ⟨#[]⟩ []] by simp [extr_mk], aw2] at C2
  obtain ⟨x0, x1, x2, x3, x4, xl⟩ := HX1.out.facts5
  obtain ⟨b0, b1, b2, b3, bl⟩ := HN1.out.facts4
  have bl2 : w.heap.size + 1 + 1 < w1.heap.size + 1 := by omega
  clear hT hS
  go_wp2_with (fail)
  refine C2.out.mono ?_
  rintro r w2 ⟨zk, zA, zcap, zl, rfl, -, o2⟩
  have HO3 := Lib.hid ((HO1.out.trans HO2.out (by simp)).trans o2 (by simp))
  have HV2 := Lib.hid ((HO2.out.trans o2 (by simp)).blk HV1.out (by simp))
  have HN2 := Lib.hid ((HO2.out.trans o2 (by simp)).blk HN1.out (by simp))
  have HT3 := Lib.hid (o2.blk HT2.out (by simp))
  clear o2 x0 x1 x2 x3 x4 xl b0 b1 b2 b3 bl bl2 HX1 HV1 HN1 HO1 HO2 HT2 C2
  have HO4 := Lib.hid (show Only [] w2 (w2.alloc (.cells #[.int .i64 zk, .slice zA zl.length zcap] 34)) from (Only.refl [] w2).alloc _)
  have C3 := Lib.hid (awT (HO4.out.blk HV2.out (by simp)) (HWD.out.keep (HO3.out.trans HO4.out (by simp))) (.mk 4 0 ⟨#[121]⟩ ⟨#[]⟩ none 0 []) (lies_leaf ⟨by omega, by omega⟩ ⟨by omega, by omega⟩ (by decide) _))
  rw [show (Ex.mk 4 0 ⟨#[121]⟩ ⟨#[]⟩ none 0 []).tr = .mk 4 0 ⟨#[121]⟩ ⟨#[]⟩ [] by simp [extr_mk], aw3] at C3
  obtain ⟨b0, b1, b2, b3, bl⟩ := HN2.out.facts4
  go_wp2_with (fail)
  refine C3.out.mono ?_
  rintro r w3 ⟨vk, vA, vcap, vl, rfl, -, o3⟩
  have HO5 := Lib.hid ((HO3.out.trans HO4.out (by simp)).trans o3 (by simp))
  obtain ⟨t0, t1, tl⟩ := ((HO4.out.trans o3 (by simp)).blk HT3.out (by simp)).facts2
  clear o3 b0 b1 b2 b3 bl
  go_wp2_with (fail)
  go_ret
  exact ⟨rfl, HO5.out.alloc _⟩
end Go.Proofs.YtjhpckeoackblaaDoor
