/- Texts: the document's. -/
import Derived.Test.YtgpljjejfebhoaaDoorDec
namespace Go.Proofs.YtgpljjejfebhoaaDoor
open Go.RowKit Go.Kx Go.Val
set_option maxRecDepth 100000
theorem joinS_snoc : ∀ (l : List (List UInt8)) (t : List UInt8), joinS (l ++ [t]) = if l = [] then t else joinS l ++ 44 :: 32 :: t
  | [], t => rfl
  | [a], t => rfl
  | a :: b :: r, t => by
    have h := joinS_snoc (b :: r) t
    rw [if_neg (by simp)] at h ⊢
    show a ++ 44 :: 32 :: joinS (b :: r ++ [t]) = _
    rw [h]
    show _ = (a ++ 44 :: 32 :: joinS (b :: r)) ++ _
    simp
theorem join_take {ls : List (List UInt8)} {k : Nat} {t : List UInt8} (h : ls[k]? = some t) : joinS (ls.take (k + 1)) = if k = 0 then t else joinS (ls.take k) ++ 44 :: 32 :: t := by
  rw [List.take_add_one, h]
  show joinS (ls.take k ++ [t]) = _
  rw [joinS_snoc]
  have hk := (List.getElem?_eq_some_iff.1 h).1
  by_cases h0 : k = 0
  · subst h0
    simp
  · rw [if_neg h0, if_neg (fun e => by rcases List.take_eq_nil_iff.1 e with h | h; exact h0 h; rw [h] at hk; simp at hk)]
theorem join_len_take {B : Nat} (ls : List (List UInt8)) (k : Nat) (h : ∀ a ∈ ls, a.length ≤ B) (h4 : ls.length ≤ 4) : (joinS (ls.take k)).length ≤ 4 * (B + 2) := by
  have h1 := join_len (ls.take k) (fun a ha => h a (List.mem_of_mem_take ha))
  have h2 : (ls.take k).length ≤ 4 := by rw [List.length_take]; omega
  exact Nat.le_trans h1 (Nat.mul_le_mul_right _ h2)
theorem eg18 : ∀ args w, (callFunc 18 args).run Tryd.prog w = .ok (.enter 18 args) w := enters Tryd.func18 (by kernel_rfl) rfl
set_option maxHeartbeats 4000000 in
theorem rtextT : ∀ (e : Tx) (w : World), LiesT w e → ∀ r : Nat, r ≤ 3 → e.tr.ok r = true → Calls Tryd.prog 18 #[e.val] w fun x w' => x = .returned (strV e.tr.txt) ∧ Only [] w w' := by
  refine Tx.ind (fun e ih => ?_)
  intro w hL  r hr hok
  obtain ⟨k, A, cap, l⟩ := e
  have hi := hL.inv
  have q0 : Blk (w.alloc (.cells #[.int .i64 k, .slice A l.length cap] 26)) w.heap.size 26 #[.int .i64 k, .slice A l.length cap] := Blk.new w _ _
  have o0 : Only [] w (w.alloc (.cells #[.int .i64 k, .slice A l.length cap] 26)) := (Only.refl _ _).alloc _
  have HO := Lib.hid o0
  have HR := Lib.hid (hL.rowL)
  have HI := Lib.hid ih
  have HLX := Lib.hid (show ∀ x ∈ l, ∀ q, x.tr.ok q = true → x.tr.txt.length ≤ lenB q from fun x hx q hq => txtlenT x.tr q hq)
  have HQ := Lib.hid q0
  rw [Tx.tr_mk] at hok ⊢
  obtain ⟨b0, b1, bl⟩ := q0.facts2
  show Calls Tryd.prog 18 #[.agg #[.int .i64 k, .slice A l.length cap]] w _
  clear hL ih hi q0 o0 
  rcases okT_cases hok with ⟨rfl, _⟩ | ⟨rfl, _⟩ | ⟨rfl, _⟩ | ⟨rfl, h0, h1, h4, hs⟩
  · rw [Tt.txt0]
    clear hok
    go_enter Tryd.func18, Tryd.ntmps18
    go_wp2_with (fail)
    go_ret
    exact ⟨rfl, HO.out⟩
  · rw [Tt.txt1]
    clear hok
    go_enter Tryd.func18, Tryd.ntmps18
    go_wp2_with (fail)
    go_ret
    exact ⟨rfl, HO.out⟩
  · rw [Tt.txt2]
    clear hok
    go_enter Tryd.func18, Tryd.ntmps18
    go_wp2_with (fail)
    go_ret
    exact ⟨rfl, HO.out⟩
  · rw [Tt.txt3, List.map_map]
    rw [List.length_map] at h1 h4
    have HS := Lib.hid hs
    have HLS := Lib.hid (show ∀ a ∈ l, a.tr.txt.length ≤ 2000 from fun x hx => Nat.le_trans (HLX.out x hx (r - 1) (HS.out _ (List.mem_map.2 ⟨x, hx, rfl⟩))) (lenB_3 (by omega)))
    have HTK := Lib.hid (show ∀ k, (joinS ((l.map fun x => x.tr.txt).take k)).length ≤ 8008 from fun k => join_len_take (B := 2000) _ k (fun a ha => by
      obtain ⟨x, hx, rfl⟩ := List.mem_map.1 ha
      exact HLS.out x hx) (by rw [List.length_map]; exact h4))
    have HCM := Lib.hid (show (Tt.txt ∘ Tx.tr) = fun x => x.tr.txt from rfl)
    rw [HCM.out]
    obtain ⟨n9, hn9⟩ : ∃ n9, l.length = n9 := ⟨_, rfl⟩
    have HN := Lib.hid hn9
    rw [hn9] at h1 h4 HQ HO ⊢
    have HEND := Lib.hid (show tupS (l.map fun x => x.tr.txt) = 40 :: (joinS (l.map fun x => x.tr.txt) ++ (if n9 = 1 then [44, 41] else [41])) by unfold tupS; rw [List.length_map, hn9])
    have H14 := Lib.hid (And.intro h1 h4)
    have hb1 := HQ.out
    clear hs hok b0 b1 bl
    obtain ⟨b0, b1, bl⟩ := hb1.facts2
    clear hb1
    go_enter Tryd.func18, Tryd.ntmps18
    go_wp2_with (fail)
    clear b0 b1 bl h1 h4 hn9
    go_loopw [3, 4] (fun sv i wr => ∃ (k : Nat) (q : List UInt8), sv = .string ⟨(40 :: q).toArray⟩ ∧ i = .int .i64 k ∧ k ≤ n9 ∧ Hid (q = joinS ((l.map fun x => x.tr.txt).take k)) ∧ Hid (Only [] (w.alloc (.cells #[.int .i64 3, .slice A n9 cap] 26)) wr)) (fun _ i _ => n9 - (intOf i).toNat)
    case atStart => exact ⟨0, [], rfl, rfl, Nat.zero_le _, Lib.hid (by simp [joinS]), Lib.hid (Only.refl _ _)⟩
    case round =>
      obtain ⟨k, q, rfl, rfl, hk, HJ, HOr⟩ := hrel
      have hq : q.length ≤ 8008 := by rw [HJ.out]; exact HTK.out k
      obtain ⟨b0, b1, bl⟩ := (HOr.out.blk HQ.out (by simp)).facts2
      by_cases hlt : k < n9
      · obtain ⟨e, he⟩ : ∃ e, l[k]? = some e := ⟨_, List.getElem?_eq_getElem (by rw [HN.out]; exact hlt)⟩
        have hmem : e ∈ l := List.mem_of_getElem? he
        have hcall := HI.out e (by simpa [Tx.l] using hmem) wr ((HR.out.sub e hmem).keep (HO.out.trans HOr.out (by simp))) (r - 1) (by omega) (HS.out _ (List.mem_map.2 ⟨e, hmem, rfl⟩))
        have HLE := Lib.hid (HLS.out e hmem)
        have HST := Lib.hid (join_take (ls := l.map fun x => x.tr.txt) (k := k) (t := e.tr.txt) (by rw [List.getElem?_map, he]; rfl))
        have hrow := (HR.out.row k _ he).only (HO.out.trans HOr.out (by simp)) (by simp)
        obtain ⟨te, hte⟩ : ∃ te, e.tr.txt = te := ⟨_, rfl⟩
        rw [hte] at hcall HLE HST
        have hle := HLE.out
        obtain ⟨xk, xA, xcap, xl⟩ := e
        obtain ⟨bb, o, rfl, hbb, c0, c1⟩ := hrow.cells
        have HCA := Lib.hid (show Calls Tryd.prog 18 #[.agg #[.int .i64 xk, .slice xA xl.length xcap]] wr fun r w'' => r = .returned (strV te) ∧ Only [] wr w'' from hcall)
        have ik0 : (0 : Int) ≤ (k : Int) := by omega
        have ik1 : (k : Int) < (n9 : Int) := by omega
        have HQK := Lib.hid hq
        have hn4 : n9 ≤ 4 := H14.out.2
        clear he hmem hcall hte hrow
        by_cases hk0 : k = 0
        · have d0 : decide ((0 : Int) < (k : Int)) = false := decide_eq_false (by omega)
          have d0' : decide (0 < k) = false := decide_eq_false (by omega)
          have HK0 := Lib.hid hk0
          clear hk0
          go_wp2_with (fail)
          refine HCA.out.mono ?_
          rintro r w3 ⟨rfl, o3⟩
          have HO3 := Lib.hid (HOr.out.trans o3 (by simp))
          clear o3 c0 c1 b0 b1 bl
          unfold strV
          go_wp2_with (fail)
          go_roundw
          case rel => exact ⟨k + 1, q ++ te, by rw [str_app]; simp, by go_num, by omega, Lib.hid (by rw [HST.out, if_pos HK0.out, HJ.out, HK0.out]; simp [joinS]), HO3⟩
          case measure => simp [intOf]; omega
        · have d0 : decide ((0 : Int) < (k : Int)) = true := decide_eq_true (by omega)
          have d0' : decide (0 < k) = true := decide_eq_true (by omega)
          have d0'' : 0 < k := by omega
          go_wp2_with (fail)
          refine HCA.out.mono ?_
          rintro r w3 ⟨rfl, o3⟩
          have HO3 := Lib.hid (HOr.out.trans o3 (by simp))
          clear o3 c0 c1 b0 b1 bl
          unfold strV
          go_wp2_with (fail)
          go_roundw
          case rel => exact ⟨k + 1, q ++ 44 :: 32 :: te, by rw [str_app, str_app]; simp, by go_num, by omega, Lib.hid (by rw [HST.out, if_neg hk0, HJ.out]), HO3⟩
          case measure => simp [intOf]; omega
      · have hke : k = n9 := by omega
        have iz : ¬ (n9 : Int) < (n9 : Int) := by omega
        have HE := Lib.hid (show q = joinS (l.map fun x => x.tr.txt) by
          have h := HJ.out
          rw [hke, List.take_of_length_le (by rw [List.length_map, HN.out]; exact Nat.le_refl _)] at h
          exact h)
        rw [hke]
        clear hke hlt hk
        by_cases h1 : n9 = 1
        · have d1 : ((n9 : Int) == 1) = true := beq_iff_eq.2 (by omega)
          have H1 := Lib.hid h1
          clear h1
          go_wp2_with (fail)
          go_ret
          exact ⟨by rw [HEND.out, if_pos H1.out, ← HE.out, str_app, str_app]; unfold strV; simp, HO.out.trans HOr.out (by simp)⟩
        · have d1 : ((n9 : Int) == 1) = false := beq_eq_false_iff_ne.2 (by omega)
          go_wp2_with (fail)
          go_ret
          exact ⟨by rw [HEND.out, if_neg h1, ← HE.out, str_app]; unfold strV; simp, HO.out.trans HOr.out (by simp)⟩
theorem eg27 : ∀ args w, (callFunc 27 args).run Tryd.prog w = .ok (.enter 27 args) w := enters Tryd.func27 (by kernel_rfl) rfl
set_option maxHeartbeats 4000000 in
theorem rtextV : ∀ (e : Vx) (w : World), LiesV w e → ∀ r : Nat, r ≤ 3 → e.tr.ok r = true → Calls Tryd.prog 27 #[e.val] w fun x w' => x = .returned (strV e.tr.txt) ∧ Only [] w w' := by
  refine Vx.ind (fun e ih => ?_)
  intro w hL  r hr hok
  obtain ⟨k, n, s, A, cap, l⟩ := e
  have hi := hL.inv
  have q0 : Blk (w.alloc (.cells #[.int .i64 k, .int .i64 n, .string s, .slice A l.length cap] 34)) w.heap.size 34 #[.int .i64 k, .int .i64 n, .string s, .slice A l.length cap] := Blk.new w _ _
  have o0 : Only [] w (w.alloc (.cells #[.int .i64 k, .int .i64 n, .string s, .slice A l.length cap] 34)) := (Only.refl _ _).alloc _
  have HO := Lib.hid o0
  have HR := Lib.hid (hL.rowL)
  have HI := Lib.hid ih
  have HH := Lib.hid hi.1
  have HLX := Lib.hid (show ∀ x ∈ l, ∀ q, x.tr.ok q = true → x.tr.txt.length ≤ lenB q from fun x hx q hq => txtlenV x w (hi.2.2.2 x hx) q hq)
  have HQ := Lib.hid q0
  rw [Vx.tr_mk] at hok ⊢
  obtain ⟨b0, b1, b2, b3, bl⟩ := q0.facts4
  show Calls Tryd.prog 27 #[.agg #[.int .i64 k, .int .i64 n, .string s, .slice A l.length cap]] w _
  clear hL ih hi q0 o0 
  rcases ok_cases hok with ⟨rfl, -⟩ | ⟨rfl, hn, -⟩ | ⟨rfl, hn, -⟩ | ⟨rfl, -, -, h0, h1, h4, hs⟩
  · rw [Vt.txt0]
    have HC := Lib.hid (fun (W : World) => dec_any n HH.out.2.1 W)
    obtain ⟨t, ht⟩ : ∃ t, Lib.itoa n = t := ⟨_, rfl⟩
    rw [ht] at HC ⊢
    clear hok ht
    go_enter Tryd.func27, Tryd.ntmps27
    go_wp2_with (fail)
    refine (HC.out _).mono ?_
    rintro e w2 ⟨rfl, o2⟩
    have HO2 := Lib.hid (HO.out.trans o2 (by simp))
    clear o2 b0 b1 b2 b3 bl
    unfold strV
    go_wp2_with (fail)
    go_ret
    exact ⟨rfl, HO2.out⟩
  · rcases hn with rfl | rfl
    · rw [Vt.txtF]
      have e0 : ((0 : Int) == 1) = false := rfl
      clear hok
      go_enter Tryd.func27, Tryd.ntmps27
      go_wp2_with (fail)
      go_ret
      exact ⟨rfl, HO.out⟩
    · rw [Vt.txtT]
      clear hok
      go_enter Tryd.func27, Tryd.ntmps27
      go_wp2_with (fail)
      go_ret
      exact ⟨rfl, HO.out⟩
  · rw [Vt.txt2]
    have hs16 : s.size ≤ 16 := by
      have e : s.toList.length = s.size := by rw [ByteArray.toList_eq]; rfl
      unfold nameB at hn
      simp at hn
      omega
    have HE := Lib.hid (show strV (39 :: s.toList) = .string ((⟨#[39]⟩ : ByteArray) ++ s) by
      unfold strV
      congr 1
      rw [ByteArray.toList_eq]
      apply ByteArray.ext
      apply Array.ext'
      simp)
    rw [HE.out]
    clear hok hn
    go_enter Tryd.func27, Tryd.ntmps27
    go_wp2_with (fail)
    go_ret
    exact ⟨rfl, HO.out⟩
  · rw [Vt.txt3, List.map_map]
    rw [List.length_map] at h1 h4
    have HS := Lib.hid hs
    have HLS := Lib.hid (show ∀ a ∈ l, a.tr.txt.length ≤ 2000 from fun x hx => Nat.le_trans (HLX.out x hx (r - 1) (HS.out _ (List.mem_map.2 ⟨x, hx, rfl⟩))) (lenB_3 (by omega)))
    have HTK := Lib.hid (show ∀ k, (joinS ((l.map fun x => x.tr.txt).take k)).length ≤ 8008 from fun k => join_len_take (B := 2000) _ k (fun a ha => by
      obtain ⟨x, hx, rfl⟩ := List.mem_map.1 ha
      exact HLS.out x hx) (by rw [List.length_map]; exact h4))
    have HCM := Lib.hid (show (Vt.txt ∘ Vx.tr) = fun x => x.tr.txt from rfl)
    rw [HCM.out]
    obtain ⟨n9, hn9⟩ : ∃ n9, l.length = n9 := ⟨_, rfl⟩
    have HN := Lib.hid hn9
    rw [hn9] at h1 h4 HQ HO ⊢
    have HEND := Lib.hid (show tupS (l.map fun x => x.tr.txt) = 40 :: (joinS (l.map fun x => x.tr.txt) ++ (if n9 = 1 then [44, 41] else [41])) by unfold tupS; rw [List.length_map, hn9])
    have H14 := Lib.hid (And.intro h1 h4)
    have hb1 := HQ.out
    clear hs hok b0 b1 b2 b3 bl
    obtain ⟨b0, b1, b2, b3, bl⟩ := hb1.facts4
    clear hb1
    go_enter Tryd.func27, Tryd.ntmps27
    go_wp2_with (fail)
    clear b0 b1 b2 b3 bl h1 h4 hn9
    go_loopw [3, 4] (fun sv i wr => ∃ (k : Nat) (q : List UInt8), sv = .string ⟨(40 :: q).toArray⟩ ∧ i = .int .i64 k ∧ k ≤ n9 ∧ Hid (q = joinS ((l.map fun x => x.tr.txt).take k)) ∧ Hid (Only [] (w.alloc (.cells #[.int .i64 3, .int .i64 n, .string s, .slice A n9 cap] 34)) wr)) (fun _ i _ => n9 - (intOf i).toNat)
    case atStart => exact ⟨0, [], rfl, rfl, Nat.zero_le _, Lib.hid (by simp [joinS]), Lib.hid (Only.refl _ _)⟩
    case round =>
      obtain ⟨k, q, rfl, rfl, hk, HJ, HOr⟩ := hrel
      have hq : q.length ≤ 8008 := by rw [HJ.out]; exact HTK.out k
      obtain ⟨b0, b1, b2, b3, bl⟩ := (HOr.out.blk HQ.out (by simp)).facts4
      by_cases hlt : k < n9
      · obtain ⟨e, he⟩ : ∃ e, l[k]? = some e := ⟨_, List.getElem?_eq_getElem (by rw [HN.out]; exact hlt)⟩
        have hmem : e ∈ l := List.mem_of_getElem? he
        have hcall := HI.out e (by simpa [Vx.l] using hmem) wr ((HR.out.sub e hmem).keep (HO.out.trans HOr.out (by simp))) (r - 1) (by omega) (HS.out _ (List.mem_map.2 ⟨e, hmem, rfl⟩))
        have HLE := Lib.hid (HLS.out e hmem)
        have HST := Lib.hid (join_take (ls := l.map fun x => x.tr.txt) (k := k) (t := e.tr.txt) (by rw [List.getElem?_map, he]; rfl))
        have hrow := (HR.out.row k _ he).only (HO.out.trans HOr.out (by simp)) (by simp)
        obtain ⟨te, hte⟩ : ∃ te, e.tr.txt = te := ⟨_, rfl⟩
        rw [hte] at hcall HLE HST
        have hle := HLE.out
        obtain ⟨xk, xn, xs, xA, xcap, xl⟩ := e
        obtain ⟨bb, o, rfl, hbb, c0, c1, c2, c3⟩ := hrow.cells
        have HCA := Lib.hid (show Calls Tryd.prog 27 #[.agg #[.int .i64 xk, .int .i64 xn, .string xs, .slice xA xl.length xcap]] wr fun r w'' => r = .returned (strV te) ∧ Only [] wr w'' from hcall)
        have ik0 : (0 : Int) ≤ (k : Int) := by omega
        have ik1 : (k : Int) < (n9 : Int) := by omega
        have HQK := Lib.hid hq
        have hn4 : n9 ≤ 4 := H14.out.2
        clear he hmem hcall hte hrow
        by_cases hk0 : k = 0
        · have d0 : decide ((0 : Int) < (k : Int)) = false := decide_eq_false (by omega)
          have d0' : decide (0 < k) = false := decide_eq_false (by omega)
          have HK0 := Lib.hid hk0
          clear hk0
          go_wp2_with (fail)
          refine HCA.out.mono ?_
          rintro r w3 ⟨rfl, o3⟩
          have HO3 := Lib.hid (HOr.out.trans o3 (by simp))
          clear o3 c0 c1 c2 c3 b0 b1 b2 b3 bl
          unfold strV
          go_wp2_with (fail)
          go_roundw
          case rel => exact ⟨k + 1, q ++ te, by rw [str_app]; simp, by go_num, by omega, Lib.hid (by rw [HST.out, if_pos HK0.out, HJ.out, HK0.out]; simp [joinS]), HO3⟩
          case measure => simp [intOf]; omega
        · have d0 : decide ((0 : Int) < (k : Int)) = true := decide_eq_true (by omega)
          have d0' : decide (0 < k) = true := decide_eq_true (by omega)
          have d0'' : 0 < k := by omega
          go_wp2_with (fail)
          refine HCA.out.mono ?_
          rintro r w3 ⟨rfl, o3⟩
          have HO3 := Lib.hid (HOr.out.trans o3 (by simp))
          clear o3 c0 c1 c2 c3 b0 b1 b2 b3 bl
          unfold strV
          go_wp2_with (fail)
          go_roundw
          case rel => exact ⟨k + 1, q ++ 44 :: 32 :: te, by rw [str_app, str_app]; simp, by go_num, by omega, Lib.hid (by rw [HST.out, if_neg hk0, HJ.out]), HO3⟩
          case measure => simp [intOf]; omega
      · have hke : k = n9 := by omega
        have iz : ¬ (n9 : Int) < (n9 : Int) := by omega
        have HE := Lib.hid (show q = joinS (l.map fun x => x.tr.txt) by
          have h := HJ.out
          rw [hke, List.take_of_length_le (by rw [List.length_map, HN.out]; exact Nat.le_refl _)] at h
          exact h)
        rw [hke]
        clear hke hlt hk
        by_cases h1 : n9 = 1
        · have d1 : ((n9 : Int) == 1) = true := beq_iff_eq.2 (by omega)
          have H1 := Lib.hid h1
          clear h1
          go_wp2_with (fail)
          go_ret
          exact ⟨by rw [HEND.out, if_pos H1.out, ← HE.out, str_app, str_app]; unfold strV; simp, HO.out.trans HOr.out (by simp)⟩
        · have d1 : ((n9 : Int) == 1) = false := beq_eq_false_iff_ne.2 (by omega)
          go_wp2_with (fail)
          go_ret
          exact ⟨by rw [HEND.out, if_neg h1, ← HE.out, str_app]; unfold strV; simp, HO.out.trans HOr.out (by simp)⟩
end Go.Proofs.YtgpljjejfebhoaaDoor
