/- A lane with more room. -/
import Derived.Test.YtlhmhpopppfpkaaTake
import Derived.Test.YtlhmhpopppfpkaaAll
import Derived.Test.YtlhmhpopppfpkaaRangeA
namespace Go.Proofs.Ytlhmhpopppfpkaa
open Go.RowKit Go.Kx Go.Maps
attribute [local go_sem] Oper.semAt_some
set_option maxRecDepth 100000

theorem Qu.keepC {w w' : World} {B b rb room : Nat} {xs : List Int} (h : Qu w b rb room xs) (k : KeepC B w w') : Qu w' b rb room xs := by
  obtain ⟨ra, len, first, cs, h1, h2, h3⟩ := h
  exact ⟨ra, len, first, cs, k.blk h1, fun hl => ⟨(h2 hl).1, k.blk (h2 hl).2⟩, h3⟩
theorem Qu.rlt {w : World} {b rb room : Nat} {xs : List Int} (h : Qu w b rb room xs) (hx : 0 < xs.length) : rb < w.heap.size := by
  obtain ⟨ra, len, first, cs, h1, h2, h3, h4⟩ := h
  have := h3.1
  exact (h2 (by omega)).2.lt
def growN (size room : Nat) : Nat := min (max 16 (2 * size)) room
set_option maxHeartbeats 4000000 in
theorem grown_gen {w : World} {q : Option Addr} {size room : Nat} {xs : List Int} (hseq : ∀ w' cb, Only [] w w' → Blk w' cb 59 #[.pointer q] → Seqs Try.prog 33 #[.pointer (some ⟨cb, 0, none⟩)] (pairs xs) [] w')
    (hx : xs.length ≤ size) (hs : size < room) (hr : room ≤ 65536) :
    Calls Try.prog 20 #[.agg #[.pointer q, .int .i64 size], .int .i64 room] w fun e w' => ∃ b' rb', e = .returned (.tuple #[lv b' (growN size room), .int .i64 0]) ∧ Qu w' b' rb' (growN size room) xs ∧ w.heap.size ≤ b' ∧ w.heap.size ≤ rb' ∧ rb' < w'.heap.size ∧ Only [] w w' := by
  obtain ⟨N, hN⟩ : ∃ N, growN size room = N := ⟨_, rfl⟩
  have hN1 : 1 ≤ N ∧ N ≤ 1048576 ∧ size < N := by unfold growN at hN; omega
  obtain ⟨M, hM⟩ : ∃ M, max 16 (2 * size) = M := ⟨_, rfl⟩
  have hA0 : max (16 : Int) (2 * (size : Int)) = (M : Int) := by omega
  have hA1 : (if (16 : Int) < 2 * (size : Int) then 2 * (size : Int) else 16) = (M : Int) := by split <;> omega
  have hA2 : (if 2 * (size : Int) < 16 then 16 else 2 * (size : Int)) = (M : Int) := by split <;> omega
  have hA3 : (if (16 : Int) ≤ 2 * (size : Int) then 2 * (size : Int) else 16) = (M : Int) := by split <;> omega
  have hA4 : (if 2 * (size : Int) ≤ 16 then 16 else 2 * (size : Int)) = (M : Int) := by split <;> omega
  have hNM : N = min M room := by rw [← hN]; unfold growN; rw [hM]
  have hB0 : min (M : Int) (room : Int) = (N : Int) := by omega
  have hB1 : (if (M : Int) < (room : Int) then (M : Int) else (room : Int)) = (N : Int) := by split <;> omega
  have hB2 : (if (room : Int) < (M : Int) then (room : Int) else (M : Int)) = (N : Int) := by split <;> omega
  have hB3 : (if (M : Int) ≤ (room : Int) then (M : Int) else (room : Int)) = (N : Int) := by split <;> omega
  have hB4 : (if (room : Int) ≤ (M : Int) then (room : Int) else (M : Int)) = (N : Int) := by split <;> omega
  have hB5 : (if room < M then (room : Int) else (M : Int)) = (N : Int) := by split <;> omega
  have hB6 : (if M < room then (M : Int) else (room : Int)) = (N : Int) := by split <;> omega
  have hB7 : (if room ≤ M then (room : Int) else (M : Int)) = (N : Int) := by split <;> omega
  have hB8 : (if M ≤ room then (M : Int) else (room : Int)) = (N : Int) := by split <;> omega
  clear hM hNM
  rw [hN]
  refine calls_marks Try.func20 rfl ?_
  simp only [Try.ntmps20, List.size_toArray, List.length_cons, List.length_nil, Nat.reduceAdd, Nat.reduceSub, Array.replicate_succ, Array.replicate_zero, List.push_toArray, List.append_toArray, List.nil_append, List.cons_append]
  have HS := Lib.hid hseq
  have HN := Lib.hid hN
  have HN1 := Lib.hid hN1
  clear hseq hN hN1
  go_wp2_with (fail)
  have ho0 : Only [] w (((w.alloc (.cells #[.pointer q, .int .i64 size] 61)).alloc (.cells #[.pointer none, .int .i64 0] 61)).alloc (.cells #[.int .i64 0] 25)) := (((Only.refl _ _).alloc _).alloc _).alloc _
  have hl0 : Blk (((w.alloc (.cells #[.pointer q, .int .i64 size] 61)).alloc (.cells #[.pointer none, .int .i64 0] 61)).alloc (.cells #[.int .i64 0] 25)) w.heap.size 61 #[.pointer q, .int .i64 size] := ((Blk.new w 61 _).alloc _).alloc _
  have hr0 : Blk (((w.alloc (.cells #[.pointer q, .int .i64 size] 61)).alloc (.cells #[.pointer none, .int .i64 0] 61)).alloc (.cells #[.int .i64 0] 25)) (w.heap.size + 1) 61 #[.pointer none, .int .i64 0] := by have h := (Blk.new (w.alloc (.cells #[.pointer q, .int .i64 size] 61)) 61 #[.pointer none, .int .i64 0]).alloc (.cells #[.int .i64 0] 25); simpa using h
  have he0 : Blk (((w.alloc (.cells #[.pointer q, .int .i64 size] 61)).alloc (.cells #[.pointer none, .int .i64 0] 61)).alloc (.cells #[.int .i64 0] 25)) (w.heap.size + 2) 25 #[.int .i64 0] := by have h := Blk.new ((w.alloc (.cells #[.pointer q, .int .i64 size] 61)).alloc (.cells #[.pointer none, .int .i64 0] 61)) 25 #[.int .i64 0]; simpa using h
  refine (new_ok N _ HN1.out.1 HN1.out.2.1).mono ?_
  generalize ((w.alloc (.cells #[.pointer q, .int .i64 size] 61)).alloc (.cells #[.pointer none, .int .i64 0] 61)).alloc (.cells #[.int .i64 0] 25) = w3 at ho0 hl0 hr0 he0
  rintro e w4 ⟨rfl, hq4, o4⟩
  obtain ⟨nb, hnb⟩ : ∃ nb, w3.heap.size = nb := ⟨_, rfl⟩
  rw [hnb] at hq4 ⊢
  have hnw : w.heap.size + 2 < nb := by have := he0.lt; omega
  have hq4l : nb < w4.heap.size := hq4.lt
  have o5 : Only [] w4 (w4.alloc (.cells #[.pointer (some ⟨nb, 0, none⟩)] 59)) := (Only.refl _ _).alloc _
  have HQ := Lib.hid (hq4.only o5 (by simp) (by simp))
  have HL := Lib.hid (o5.blk (o4.blk hl0 (by simp)) (by simp))
  have HR := Lib.hid (o5.blk (o4.blk hr0 (by simp)) (by simp))
  have HE := Lib.hid (o5.blk (o4.blk he0 (by simp)) (by simp))
  have HO := Lib.hid ((ho0.trans o4 (by simp)).trans o5 (by simp))
  have H7 := Lib.hid (Blk.new w4 59 #[.pointer (some ⟨nb, 0, none⟩)])
  obtain ⟨l0, l1, ll⟩ := HL.out.facts2
  clear o4 o5 hq4 hl0 hr0 he0 ho0 hnb hA0 hA1 hA2 hA3 hA4 hB0 hB1 hB2 hB3 hB4 hB5 hB6 hB7 hB8
  go_wp2_with (fail)
  obtain ⟨qb, hqb⟩ : ∃ qb, w4.heap.size = qb := ⟨_, rfl⟩
  generalize w4.alloc (.cells #[.pointer (some ⟨nb, 0, none⟩)] 59) = w5 at HQ HL HR HE HO H7 l0 l1 ll ⊢
  rw [hqb] at H7 hq4l ⊢
  refine (all_any _ q rfl _).mono ?_
  rintro e w6 ⟨rfl, rfl⟩
  have hc := Blk.new w5 59 #[.pointer q]
  have o6 : Only [] w5 (w5.alloc (.cells #[.pointer q] 59)) := (Only.refl _ _).alloc _
  have hsq := HS.out _ _ (HO.out.trans o6 (by simp)) hc
  go_wp2_with (fail)
  have hQ6 := HQ.out.only o6 (by simp) (by simp)
  have hR6 := o6.blk HR.out (by simp)
  have hE6 := o6.blk HE.out (by simp)
  have h76 := o6.blk H7.out (by simp)
  have hO6 := HO.out.trans o6 (by simp)
  have hz6 := o6.size
  have h7l := H7.out.lt
  obtain ⟨cb, hcb⟩ : ∃ cb, w5.heap.size = cb := ⟨_, rfl⟩
  generalize w5.alloc (.cells #[.pointer q] 59) = w6 at hQ6 hR6 hE6 h76 hO6 hsq hz6 ⊢
  rw [hcb] at hsq h7l ⊢
  clear HQ HL HR HE HO H7 l0 l1 ll hc o6 HS hqb
  refine' wp_rangeFunc_seqs (gf := 33) (lb := #[.pointer (some ⟨cb, 0, none⟩)]) (vs := pairs xs) (prot := []) rfl (enters Try.func33 (by kernel_rfl) rfl)
    hsq (by intro v hv; simp [pairs] at hv; obtain ⟨_, _, rfl⟩ := hv; rfl) [nb, nb] (by simp; omega) (by simp)
    (fun k S W => ∃ rb, S = [nb, rb] ∧ Qu W nb rb N (xs.take k) ∧ Blk W qb 59 #[.pointer (some ⟨nb, 0, none⟩)] ∧ Blk W (w.heap.size + 1) 61 #[.pointer none, .int .i64 0] ∧ Blk W (w.heap.size + 2) 25 #[.int .i64 0] ∧ Only [] w W ∧ w.heap.size + 2 < rb ∧ rb ≠ qb ∧ rb < W.heap.size)
    (fun _ _ => False) ?hI (fun _ _ _ h _ => h) ?h0 _ ?assign ?body ?done (fun _ _ _ _ h _ => h.elim)
  case assign =>
    intro l k v W K hv hK
    obtain rfl : #[.int .i64 (k : Int), .int .i64 (xs[k]?.getD 0)] = v := by
      unfold pairs at hv
      rw [List.getElem?_map] at hv
      cases hm : (List.range xs.length)[k]? with
      | none => rw [hm] at hv; cases hv
      | some i =>
        rw [hm] at hv
        have : i = k := by
          have := List.getElem?_eq_some_iff.1 hm
          obtain ⟨_, h⟩ := this
          rw [List.getElem_range] at h
          exact h.symm
        subst this
        exact Option.some.inj hv
    clear hv
    gi_wp2
    exact hK
  case hI =>
    rintro k S W1 W2 ⟨rb, rfl, h1, h2, h3, h4, h5, h6, h7, h8⟩ hk
    exact ⟨rb, rfl, h1.keepC hk, hk.blk h2, hk.blk h3, hk.blk h4, h5.keepC hk (by have := hO6.size; omega), h6, h7, Nat.lt_of_lt_of_le h8 hk.size⟩
  case h0 => exact ⟨nb, rfl, by rw [List.take_zero]; exact hQ6, h76, hR6, hE6, hO6, by omega, by omega, by omega⟩
  case body =>
    rintro l k vv S W hv ⟨rb, rfl, hq, hb7, hbr, hbe, hO, h6, h7, h8⟩
    have hkl : k < xs.length := by
      rcases Nat.lt_or_ge k xs.length with h | h
      · exact h
      · unfold pairs at hv
        rw [List.getElem?_eq_none (by simpa using h)] at hv
        cases hv
    have hxk : xs[k]?.getD 0 = xs[k] := by simp [hkl]
    have htk : xs.take (k + 1) = xs.take k ++ [xs[k]] := by rw [List.take_succ_eq_append_getElem hkl]
    have hlt : (xs.take k).length < N := by rw [List.length_take]; have := HN1.out; omega
    obtain ⟨p0, pl⟩ := hb7.facts1
    have HQ := Lib.hid hq
    have H7 := Lib.hid hb7
    have HR := Lib.hid hbr
    have HE := Lib.hid hbe
    have HO := Lib.hid hO
    have HTK := Lib.hid htk
    simp only [hxk]
    generalize xs[k] = x at HTK ⊢
    clear hv hq hb7 hbr hbe hO htk hxk
    gi_wp2
    refine ⟨trivial, CallsIn.inRound l (callsIn_wide.2 ((push_ok HQ.out hlt x).mono ?_))⟩
    rintro e w8 ⟨rfl, rb2, hrb2, q8, o8⟩
    have h78 := o8.blk H7.out (by simp; omega)
    have hR8 := o8.blk HR.out (by simp; omega)
    have hE8 := o8.blk HE.out (by simp; omega)
    have H7' := Lib.hid h78
    have HR' := Lib.hid hR8
    have HE' := Lib.hid hE8
    have HQ' := Lib.hid q8
    have HO' := Lib.hid o8
    have hs8 := o8.size
    clear h78 hR8 hE8 q8 o8
    gi_wp2
    refine ⟨⟨[nb, rb2], ⟨rb2, rfl, by rw [HTK.out]; exact HQ'.out, H7'.out, HR'.out, HE'.out, HO.out.trans HO'.out (fun y hy => .inr (by simp at hy; omega)), ?_, ?_, ?_⟩, fun b hb => ?_⟩, HO'.out⟩
    · rcases hrb2 with h | h <;> omega
    · rcases hrb2 with h | h <;> omega
    · exact HQ'.out.rlt (by simp)
    · simp at hb
      rcases hb with rfl | rfl
      · simp
      · rcases hrb2 with h | h
        · left; rw [h]; simp
        · exact .inr h
  case done =>
    rintro D S W hD ⟨rb, rfl, hq, hb7, hbr, hbe, hO, h6, h7, h8⟩ hK
    have e1 : (pairs xs).length = xs.length := by simp [pairs]
    rw [e1, List.take_length] at hq
    obtain ⟨p0, pl⟩ := hb7.facts1
    obtain ⟨r0, r1, rl⟩ := hbr.facts2
    obtain ⟨e0, el⟩ := hbe.facts1
    have fr0 := hbr.frozen 0
    have fr1 := hbr.frozen 1
    have fe := hbe.frozen 0
    have HQ := Lib.hid hq
    have HR := Lib.hid hbr
    have HE := Lib.hid hbe
    have HO := Lib.hid hO
    have HD := Lib.hid hK
    clear hq hb7 hbr hbe hO hK
    go_wp2_with (fail)
    have hr2 := (HR.out.set_ 0 (.pointer (some ⟨nb, 0, none⟩))).set_ 1 (.int .i64 N)
    have oR : Only [w.heap.size + 1] W ((W.setCell ⟨w.heap.size + 1, 0, none⟩ (.pointer (some ⟨nb, 0, none⟩))).setCell ⟨w.heap.size + 1, 1, none⟩ (.int .i64 N)) := ((Only.refl [w.heap.size + 1] W).setCell (.inl (by simp)) _).setCell (.inl (by simp)) _
    have he2 := oR.blk HE.out (by simp)
    have oE := only_setCell ((W.setCell ⟨w.heap.size + 1, 0, none⟩ (.pointer (some ⟨nb, 0, none⟩))).setCell ⟨w.heap.size + 1, 1, none⟩ (.int .i64 N)) ⟨w.heap.size + 1 + 1, 0, none⟩ (.int .i64 0)
    have hr3 := oE.blk hr2 (by simp)
    have he3 := he2.set_ 0 (.int .i64 0)
    have hq3 := (HQ.out.only oR (by simp; omega) (by simp; omega)).only oE (by simp; omega) (by simp; omega)
    have hO3 := (HO.out.trans oR (fun y hy => .inr (by simp at hy; omega))).trans oE (fun y hy => .inr (by simp at hy; omega))
    have hDl : D < W.heap.size := (Array.getElem?_eq_some_iff.1 HD.out).1
    have hK2 := (oR.block D hDl (by simp; omega)).trans HD.out
    have hK3 := (oE.block D (Nat.lt_of_lt_of_le hDl oR.size) (by simp; omega)).trans hK2
    refine ⟨by simp, .inl ⟨_, _, rfl, run_takeDeferred hK3, ?_⟩⟩
    have hk := KeepC.putObj (B := D) (o' := .deferred none) hK3 rfl (Nat.le_refl _)
    have hr4 := hk.blk hr3
    have he4 := hk.blk he3
    obtain ⟨x0, x1, _⟩ := Blk.facts2 (a := .pointer (some ⟨nb, 0, none⟩)) (b := .int .i64 N) hr4
    obtain ⟨y0, _⟩ := Blk.facts1 (a := .int .i64 0) he4
    refine ⟨.tuple #[lv nb N, .int .i64 0], by simp [results, Try.results20, go_sem, x0, x1, y0], nb, rb, rfl, hq3.keepC hk, by omega, by omega, ?_, hO3.keepC hk (by have := hO6.size; omega)⟩
    have h9 := hk.size
    have h10 := oE.size
    have h11 := oR.size
    omega
theorem grown_any {w : World} {b rb size room : Nat} {xs : List Int} (h : Qu w b rb size xs) (hs : size < room) (hr : room ≤ 65536) :
    Calls Try.prog 20 #[lv b size, .int .i64 room] w fun e w' => ∃ b' rb', e = .returned (.tuple #[lv b' (growN size room), .int .i64 0]) ∧ Qu w' b' rb' (growN size room) xs ∧ w.heap.size ≤ b' ∧ w.heap.size ≤ rb' ∧ rb' < w'.heap.size ∧ Only [] w w' :=
  grown_gen (q := some ⟨b, 0, none⟩) (fun w' cb o hc => all_seqs (h.only o (by simp) (by simp)) hc) h.len hs hr
theorem grown_nil {w : World} {room : Nat} (hs : 0 < room) (hr : room ≤ 65536) :
    Calls Try.prog 20 #[lz, .int .i64 room] w fun e w' => ∃ b' rb', e = .returned (.tuple #[lv b' (growN 0 room), .int .i64 0]) ∧ Qu w' b' rb' (growN 0 room) [] ∧ w.heap.size ≤ b' ∧ w.heap.size ≤ rb' ∧ rb' < w'.heap.size ∧ Only [] w w' :=
  grown_gen (q := none) (size := 0) (xs := []) (fun w' cb o hc => all_seqs_nil hc) (Nat.le_refl _) hs hr
end Go.Proofs.Ytlhmhpopppfpkaa
