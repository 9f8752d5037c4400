/- awake. -/
import Derived.Test.YtfnacnlaphpflaaDoorCollect
namespace Go.Proofs.YtfnacnlaphpflaaDoor
open Go.RowKit Go.Kx
set_option maxRecDepth 100000

theorem name31 (s : ByteArray) (w : World) : Calls Tryd.prog 31 #[.string s] w fun r w' => r = .returned (.agg #[.int .i64 4, .int .i64 0, .string s, .string ⟨#[]⟩, .slice none 0 0]) ∧ Only [] w w' := by
  go_enter Tryd.func31, Tryd.ntmps31
  go_wp2_with (fail)
  have hb := Blk.new w 24 #[.int .i64 4, .int .i64 0, .string s, .string ⟨#[]⟩, .slice none 0 0]
  obtain ⟨e0, e1, e2, e3, e4, -⟩ := hb.facts5
  refine bodyPost_ret (v := .agg #[.int .i64 4, .int .i64 0, .string s, .string ⟨#[]⟩, .slice none 0 0]) (by simp [results, Tryd.results31, go_sem, e0, e1, e2, e3, e4]) rfl ?_
  exact ⟨rfl, (Only.refl _ _).alloc _⟩
theorem row_two {w : World} {g : Nat} {a b : Ex} (h : Blk w g 24 (a.cs ++ b.cs).toArray) : ∀ i e, [a, b][i]? = some e → RowAt w (some ⟨g, 0, none⟩) i e := by
  intro i e hi
  have hla : a.cs.length = 5 := by cases a; rfl
  match i, hi with
  | 0, hi =>
    simp at hi; subst hi
    refine ⟨g, 0, rfl, h.lt, fun j v hv => (h.cell _).trans ?_⟩
    have hj := (List.getElem?_eq_some_iff.1 hv).1
    rw [List.getElem?_toArray, show 0 + 0 * 5 + j = j by omega, List.getElem?_append_left hj]
    exact hv
  | 1, hi =>
    simp at hi; subst hi
    refine ⟨g, 0, rfl, h.lt, fun j v hv => (h.cell _).trans ?_⟩
    rw [List.getElem?_toArray, List.getElem?_append_right (by omega), show 0 + 1 * 5 + j - a.cs.length = j by omega]
    exact hv
def nmE (s : ByteArray) : Ex := .mk 4 0 s ⟨#[]⟩ none 0 []
def mulE (g : Nat) : Ex := .mk 17 0 ⟨#[]⟩ ⟨#[]⟩ (some ⟨g, 0, none⟩) 2 [nmE ⟨#[98]⟩, nmE ⟨#[99]⟩]
def addE (g : Nat) : Ex := .mk 15 0 ⟨#[]⟩ ⟨#[]⟩ (some ⟨g + 1, 0, none⟩) 2 [nmE ⟨#[97]⟩, mulE g]
theorem nmE_lies (s : ByteArray) (hs : s.size ≤ 9223372036854775807) (w : World) : Lies w (nmE s) :=
  .mk (by unfold I64; omega) (by unfold I64; omega) hs (by decide) (by simp) (fun i e h => by simp at h) (fun e h => by simp at h)
theorem addE_lies {w : World} {g : Nat} (h1 : Blk w g 24 ((nmE ⟨#[98]⟩).cs ++ (nmE ⟨#[99]⟩).cs).toArray) (h2 : Blk w (g + 1) 24 ((nmE ⟨#[97]⟩).cs ++ (mulE g).cs).toArray) : Lies w (addE g) := by
  have hm : Lies w (mulE g) := .mk (by unfold I64; omega) (by unfold I64; omega) (by decide) (by decide) (by simp) (row_two h1) (fun e he => by
    simp at he
    rcases he with rfl | rfl
    · exact nmE_lies _ (by decide) _
    · exact nmE_lies _ (by decide) _)
  exact .mk (by unfold I64; omega) (by unfold I64; omega) (by decide) (by decide) (by simp) (row_two h2) (fun e he => by
    simp at he
    rcases he with rfl | rfl
    · exact nmE_lies _ (by decide) _
    · exact hm)
theorem sm_tr : ∀ {a b : Ex}, a.tr = b.tr → a.sm = true → b.sm = true := by
  intro a
  induction a using Ex.ind with
  | h a ih =>
    intro b h hs
    obtain ⟨op, n, nm, sb, A, cap, args⟩ := a
    obtain ⟨op2, n2, nm2, sb2, A2, cap2, args2⟩ := b
    rw [Ex.tr, Ex.tr] at h
    injection h with _ _ _ _ h
    obtain ⟨h1, h2⟩ := sm_mk hs
    rw [Ex.sm]
    have hl : args.length = args2.length := by simpa using congrArg List.length h
    simp only [Bool.and_eq_true, decide_eq_true_eq, List.all_eq_true, List.mem_map, id]
    refine ⟨by omega, ?_⟩
    rintro x ⟨y, hy, rfl⟩
    obtain ⟨i, hi⟩ := List.getElem?_of_mem hy
    have hil := (List.getElem?_eq_some_iff.1 hi).1
    have h3 := congrArg (·[i]?) h
    simp only [List.getElem?_map, hi, List.getElem?_eq_getElem (show i < args.length by omega)] at h3
    simp at h3
    exact ih (args[i]'(by omega)) (by simp [Ex.args]) h3 (h2 _ (by simp))
def addT : Tr := .mk 15 0 ⟨#[]⟩ ⟨#[]⟩ [.mk 4 0 ⟨#[97]⟩ ⟨#[]⟩ [], .mk 17 0 ⟨#[]⟩ ⟨#[]⟩ [.mk 4 0 ⟨#[98]⟩ ⟨#[]⟩ [], .mk 4 0 ⟨#[99]⟩ ⟨#[]⟩ []]]
theorem addE_tr (g : Nat) : (addE g).tr = addT := by simp [addE, mulE, nmE, Ex.tr, addT]
theorem addT_depth : addT.depth = 3 := by simp [addT, Tr.depth, mx]
theorem addT_ok : addT.ok = true := by
  unfold Tr.ok
  rw [addT_depth]
  have h1 : nmB ⟨#[97]⟩ = true := by kernel_rfl
  have h2 : nmB ⟨#[98]⟩ = true := by kernel_rfl
  have h3 : nmB ⟨#[99]⟩ = true := by kernel_rfl
  have n15 : nodeB 15 0 ⟨#[]⟩ ⟨#[]⟩ 2 = true := by kernel_rfl
  have n17 : nodeB 17 0 ⟨#[]⟩ ⟨#[]⟩ 2 = true := by kernel_rfl
  have a1 : nodeB 4 0 ⟨#[97]⟩ ⟨#[]⟩ 0 = true := by kernel_rfl
  have a2 : nodeB 4 0 ⟨#[98]⟩ ⟨#[]⟩ 0 = true := by kernel_rfl
  have a3 : nodeB 4 0 ⟨#[99]⟩ ⟨#[]⟩ 0 = true := by kernel_rfl
  simp [addT, Tr.right, n15, n17, a1, a2, a3]
theorem addT_all : addT.all.length = 5 := by simp [addT, Tr.all]
theorem addE_sm (g : Nat) : (addE g).sm = true := by simp [addE, mulE, nmE, Ex.sm]
theorem ta_res : resB (ByteArray.toList ⟨#[116, 97]⟩) = true := by kernel_rfl
theorem ta_nm : nmB ⟨#[116, 97]⟩ = false := by kernel_rfl
theorem tb_nm : nmB ⟨#[116, 98]⟩ = true := by kernel_rfl
set_option maxHeartbeats 4000000 in
theorem awake_any {w : World} (hW : WordsIs w) : Calls Tryd.prog 10 #[] w fun r w' => r = .returned (.bool true) ∧ Only [] w w' := by
  have HW := Lib.hid hW
  clear hW
  go_enter Tryd.func10, Tryd.ntmps10
  go_wp2_with (fail)
  refine (name31 _ _).mono ?_
  rintro r w1 ⟨rfl, o1⟩
  have HO1 := Lib.hid o1
  clear o1
  go_wp2_with (fail)
  refine (name31 _ _).mono ?_
  rintro r w2 ⟨rfl, o2⟩
  have HO2 := Lib.hid (HO1.out.trans o2 (by simp))
  clear o2
  go_wp2_with (fail)
  refine (name31 _ _).mono ?_
  rintro r w3 ⟨rfl, o3⟩
  have HO3 := Lib.hid (HO2.out.trans o3 (by simp))
  clear o3
  go_wp2_with (fail)
  obtain ⟨g, hg⟩ : ∃ g, w3.heap.size = g := ⟨_, rfl⟩
  have q1 := Blk.new w3 24 #[.int .i64 4, .int .i64 0, .string ⟨#[98]⟩, .string ⟨#[]⟩, .slice none 0 0, .int .i64 4, .int .i64 0, .string ⟨#[99]⟩, .string ⟨#[]⟩, .slice none 0 0]
  have o4 : Only [] w3 (w3.alloc (.cells #[.int .i64 4, .int .i64 0, .string ⟨#[98]⟩, .string ⟨#[]⟩, .slice none 0 0, .int .i64 4, .int .i64 0, .string ⟨#[99]⟩, .string ⟨#[]⟩, .slice none 0 0] 24)) := (Only.refl _ _).alloc _
  have hs4 : (w3.alloc (.cells #[.int .i64 4, .int .i64 0, .string ⟨#[98]⟩, .string ⟨#[]⟩, .slice none 0 0, .int .i64 4, .int .i64 0, .string ⟨#[99]⟩, .string ⟨#[]⟩, .slice none 0 0] 24)).heap.size = g + 1 := by rw [← hg]; simp
  rw [hg] at q1 ⊢
  generalize w3.alloc (.cells #[.int .i64 4, .int .i64 0, .string ⟨#[98]⟩, .string ⟨#[]⟩, .slice none 0 0, .int .i64 4, .int .i64 0, .string ⟨#[99]⟩, .string ⟨#[]⟩, .slice none 0 0] 24) = w4 at q1 o4 hs4 ⊢
  have q2 := Blk.new w4 24 #[.int .i64 4, .int .i64 0, .string ⟨#[97]⟩, .string ⟨#[]⟩, .slice none 0 0, .int .i64 17, .int .i64 0, .string ⟨#[]⟩, .string ⟨#[]⟩, .slice (some ⟨g, 0, none⟩) 2 2]
  have o5 : Only [] w4 (w4.alloc (.cells #[.int .i64 4, .int .i64 0, .string ⟨#[97]⟩, .string ⟨#[]⟩, .slice none 0 0, .int .i64 17, .int .i64 0, .string ⟨#[]⟩, .string ⟨#[]⟩, .slice (some ⟨g, 0, none⟩) 2 2] 24)) := (Only.refl _ _).alloc _
  have hs5 : (w4.alloc (.cells #[.int .i64 4, .int .i64 0, .string ⟨#[97]⟩, .string ⟨#[]⟩, .slice none 0 0, .int .i64 17, .int .i64 0, .string ⟨#[]⟩, .string ⟨#[]⟩, .slice (some ⟨g, 0, none⟩) 2 2] 24)).heap.size = g + 1 + 1 := by rw [← hs4]; simp
  rw [hs4] at q2
  generalize w4.alloc (.cells #[.int .i64 4, .int .i64 0, .string ⟨#[97]⟩, .string ⟨#[]⟩, .slice none 0 0, .int .i64 17, .int .i64 0, .string ⟨#[]⟩, .string ⟨#[]⟩, .slice (some ⟨g, 0, none⟩) 2 2] 24) = w5 at q2 o5 hs5 ⊢
  have q3 := Blk.new w5 24 #[.int .i64 15, .int .i64 0, .string ⟨#[]⟩, .string ⟨#[]⟩, .slice (some ⟨g + 1, 0, none⟩) 2 2]
  have o6 : Only [] w5 (w5.alloc (.cells #[.int .i64 15, .int .i64 0, .string ⟨#[]⟩, .string ⟨#[]⟩, .slice (some ⟨g + 1, 0, none⟩) 2 2] 24)) := (Only.refl _ _).alloc _
  rw [hs5] at q3
  have hL := addE_lies (o6.blk (o5.blk q1 (by simp)) (by simp)) (o6.blk q2 (by simp))
  generalize w5.alloc (.cells #[.int .i64 15, .int .i64 0, .string ⟨#[]⟩, .string ⟨#[]⟩, .slice (some ⟨g + 1, 0, none⟩) 2 2] 24) = w6 at q3 o6 hL ⊢
  have HO6 := Lib.hid (((HO3.out.trans o4 (by simp)).trans o5 (by simp)).trans o6 (by simp))
  have HL := Lib.hid hL
  have HQ := Lib.hid q3
  clear q1 q2 q3 o4 o5 o6 hs4 hs5 hL hg HO1 HO2 HO3
  have c1 : ∀ W, Only [] w6 W → Calls Tryd.prog 19 #[.agg #[.int .i64 15, .int .i64 0, .string ⟨#[]⟩, .string ⟨#[]⟩, .slice (some ⟨g + 1, 0, none⟩) 2 2]] W fun r w' => r = .returned (.int .i64 3) ∧ Only [] W w' := fun W o => (pnest_any (HL.out.keep o)).mono (by rintro r w' ⟨rfl, o⟩; exact ⟨by rw [addE_tr, addT_depth]; rfl, o⟩)
  have c2 : ∀ W, Only [] w6 W → Calls Tryd.prog 20 #[.agg #[.int .i64 15, .int .i64 0, .string ⟨#[]⟩, .string ⟨#[]⟩, .slice (some ⟨g + 1, 0, none⟩) 2 2]] W fun r w' => r = .returned (.bool true) ∧ Only [] W w' := fun W o => (pright_any (HL.out.keep o) (HW.out.keep (HO6.out.trans o (by simp)))).mono (by rintro r w' ⟨rfl, o⟩; exact ⟨by rw [addE_tr, addT_ok], o⟩)
  have c3 : ∀ W, Only [] w6 W → Calls Tryd.prog 15 #[.string ⟨#[116, 97]⟩] W fun r w' => r = .returned (.bool true) ∧ Only [] W w' := fun W o => (reserved_any (HW.out.keep (HO6.out.trans o (by simp)))).mono (by rintro r w' ⟨rfl, o⟩; exact ⟨by rw [ta_res], o⟩)
  have c4 : ∀ W, Only [] w6 W → Calls Tryd.prog 13 #[.agg #[.int .i64 15, .int .i64 0, .string ⟨#[]⟩, .string ⟨#[]⟩, .slice (some ⟨g + 1, 0, none⟩) 2 2]] W fun r w' => ∃ cb prot, r = .returned (.func (.func 34) #[] #[.pointer (some ⟨cb, 0, none⟩)]) ∧ Only [] W w' ∧ Hid (SeqsP Tryd.prog 34 #[.pointer (some ⟨cb, 0, none⟩)] 5 (WR addT.all) prot w') ∧ Hid (∀ b ∈ prot, b < w'.heap.size) := fun W o => (walk13 (HL.out.keep o) (addE_sm g)).mono (by
    rintro r w' ⟨cb, e', rfl, hcp, hb, hcb, o2⟩
    have hs := walk_seqs hcp.lies (sm_tr (hcp.tr.symm) (addE_sm g)) hb hcp.top
    rw [hcp.tr, addE_tr, addT_all] at hs
    exact ⟨cb, _, rfl, o2, Lib.hid hs, Lib.hid (fun b hm => by
      rcases List.mem_cons.1 hm with rfl | hm
      · exact hb.lt
      · exact hcp.top b hm)⟩)
  have c5 : ∀ W, Only [] w6 W → Calls Tryd.prog 17 #[.string ⟨#[116, 97]⟩] W fun r w' => r = .returned (.bool false) ∧ Only [] W w' := fun W o => (name_any (by decide) (HW.out.keep (HO6.out.trans o (by simp)))).mono (by rintro r w' ⟨rfl, o⟩; exact ⟨by rw [ta_nm], o⟩)
  have c6 : ∀ W, Only [] w6 W → Calls Tryd.prog 17 #[.string ⟨#[116, 98]⟩] W fun r w' => r = .returned (.bool true) ∧ Only [] W w' := fun W o => (name_any (by decide) (HW.out.keep (HO6.out.trans o (by simp)))).mono (by rintro r w' ⟨rfl, o⟩; exact ⟨by rw [tb_nm], o⟩)
  have C2 := Lib.hid c2
  have C3 := Lib.hid c3
  have C4 := Lib.hid c4
  have C5 := Lib.hid c5
  have C6 := Lib.hid c6
  obtain ⟨b0, b1, b2, b3, b4, bl⟩ := HQ.out.facts5
  refine (c1 _ (Only.refl _ _)).mono ?_
  clear c1 c2 c3 c4 c5 c6
  rintro r w7 ⟨rfl, o7⟩
  have O7 := Lib.hid o7
  obtain ⟨d0, d1, d2, d3, d4, dl⟩ := (o7.blk HQ.out (by simp)).facts5
  clear o7 b0 b1 b2 b3 b4 bl
  go_wp2_with (fail)
  refine (C2.out _ O7.out).mono ?_
  rintro r w8 ⟨rfl, o8⟩
  have O8 := Lib.hid (O7.out.trans o8 (by simp))
  clear o8 d0 d1 d2 d3 d4 dl
  obtain ⟨d0, d1, d2, d3, d4, dl⟩ := (O8.out.blk HQ.out (by simp)).facts5
  go_wp2_with (fail)
  refine (C3.out _ O8.out).mono ?_
  rintro r w9 ⟨rfl, o9⟩
  have O9 := Lib.hid (O8.out.trans o9 (by simp))
  clear o9 d0 d1 d2 d3 d4 dl
  obtain ⟨d0, d1, d2, d3, d4, dl⟩ := (O9.out.blk HQ.out (by simp)).facts5
  go_wp2_with (fail)
  refine (C4.out _ O9.out).mono ?_
  rintro r w10 ⟨cb, prot, rfl, o10, hs, hp⟩
  have O10 := Lib.hid (O9.out.trans o10 (by simp))
  clear o10 d0 d1 d2 d3 d4 dl
  go_wp2_with (fail)
  refine (collect_any hs.out hp.out (by omega) (fun k v W h => by
    obtain ⟨⟨op, n, nm, sb, A, cap, args⟩, rfl, _⟩ := h
    exact ⟨op, n, nm, sb, A, cap, args, rfl⟩)).mono ?_
  rintro r w11 ⟨A2, c2, rfl, o11⟩
  have O11 := Lib.hid (O10.out.trans o11 (by simp))
  clear o11 hs hp
  go_wp2_with (fail)
  refine (C3.out _ O11.out).mono ?_
  rintro r w12 ⟨rfl, o12⟩
  have O12 := Lib.hid (O11.out.trans o12 (by simp))
  clear o12
  go_wp2_with (fail)
  refine (C5.out _ O12.out).mono ?_
  rintro r w13 ⟨rfl, o13⟩
  have O13 := Lib.hid (O12.out.trans o13 (by simp))
  clear o13
  go_wp2_with (fail)
  refine (C6.out _ O13.out).mono ?_
  rintro r w14 ⟨rfl, o14⟩
  have O14 := Lib.hid (O13.out.trans o14 (by simp))
  clear o14
  go_wp2_with (fail)
  go_ret
  exact ⟨rfl, HO6.out.trans O14.out (by simp)⟩
end Go.Proofs.YtfnacnlaphpflaaDoor
