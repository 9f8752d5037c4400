/- Texts: the program's. -/
import Derived.Test.YtgpljjejfebhoaaDoorTuple
import Derived.Lib.AppendIntMem
namespace Go.Proofs.YtgpljjejfebhoaaDoor
open Go.RowKit Go.Kx Go.Val
set_option maxRecDepth 100000
theorem _root_.Go.Kx.Only.bel {w w' : World} (h : Only [] w w') : Below w.heap.size w w' := h.below (Nat.le_refl _) (by simp)
def Tab10 (w : World) : Prop := Lib.TabIs Tryd.prog w "internal/strconv.uint64pow10" .u64 Lib.pow10Tab
theorem Tab10.only {w w' : World} (h : Tab10 w) (ho : Only [] w w') : Tab10 w' := Lib.tabBelow_of_tabIs h w' (Only.bel ho)
theorem itoa_any (n : Int) (h : I64 n) {w : World} (ht : Tab10 w) : Calls Tryd.prog 56 #[.int .i64 n] w fun e w' => e = .returned (strV (Lib.itoa n)) ∧ Only [] w w' :=
  (Tryd.strconv_Itoa n h.1 h.2 w ht).mono fun e w' ⟨he, k, os, hw⟩ => by
    subst hw
    exact ⟨he, only_of_below (Lib.below_grow _ w (Nat.le_refl _) k os)⟩
theorem fmtbool_any (b : Bool) (w : World) : Calls Tryd.prog 57 #[.bool b] w fun e w' => e = .returned (strV (if b = true then truS else falS)) ∧ Only [] w w' :=
  (Tryd.strconv_FormatBool b w).mono fun e w' ⟨he, hw⟩ => by
    subst hw
    refine ⟨?_, Only.refl _ _⟩
    rw [he]
    cases b <;> rfl
/-! ### how long they may be -/
theorem itoa_len {n : Int} (h : I64 n) : (Lib.itoa n).length ≤ 21 := by
  have hd : ∀ u : Nat, u ≤ 9223372036854775808 → (Lib.decDigits u).length ≤ 20 := fun u hu => by
    rw [Lib.decDigits_length]; exact Lib.nDigits_le20 u (by omega)
  rcases itoa_form n with ⟨h1, e⟩ | ⟨h1, e⟩
  · rw [e]
    have := hd n.toNat (by unfold I64 at h; omega)
    omega
  · rw [e, List.length_cons]
    have := hd (-n).toNat (by unfold I64 at h; omega)
    omega
theorem join_len {B : Nat} : ∀ (l : List (List UInt8)), (∀ a ∈ l, a.length ≤ B) → (joinS l).length ≤ l.length * (B + 2)
  | [], _ => by simp [joinS]
  | [a], h => by have := h a (by simp); simp only [joinS, List.length_cons, List.length_nil]; omega
  | a :: b :: r, h => by
    have h1 := h a (by simp)
    have h2 := join_len (b :: r) (fun x hx => h x (List.mem_cons_of_mem _ hx))
    show (a ++ 44 :: 32 :: joinS (b :: r)).length ≤ _
    rw [List.length_append, List.length_cons, List.length_cons, List.length_cons (a := a), Nat.add_mul]
    omega
theorem tup_len {B : Nat} (l : List (List UInt8)) (h : ∀ a ∈ l, a.length ≤ B) : (tupS l).length ≤ l.length * (B + 2) + 3 := by
  have := join_len l h
  unfold tupS
  split <;> simp <;> omega
def lenB : Nat → Nat
  | 0 => 21
  | r + 1 => 4 * (lenB r + 2) + 3
theorem lenB_le : ∀ r, 21 ≤ lenB r
  | 0 => Nat.le_refl _
  | r + 1 => by have := lenB_le r; unfold lenB; omega
theorem lenB_3 {r : Nat} (h : r ≤ 3) : lenB r ≤ 2000 := by
  match r, h with
  | 0, _ => decide
  | 1, _ => decide
  | 2, _ => decide
  | 3, _ => decide
theorem txtlenV : ∀ (e : Vx) (w : World), LiesV w e → ∀ r, e.tr.ok r = true → e.tr.txt.length ≤ lenB r := by
  refine Vx.ind (fun e ih => ?_)
  intro w hL r hok
  obtain ⟨k, n, s, A, cap, l⟩ := e
  have hi := hL.inv
  rw [Vx.tr_mk] at hok ⊢
  have hr := lenB_le r
  rcases ok_cases hok with ⟨rfl, _⟩ | ⟨rfl, rfl | rfl, _⟩ | ⟨rfl, hn, _⟩ | ⟨rfl, _, _, h0, h1, h4, hs⟩
  · rw [Vt.txt0]
    have := itoa_len hi.1.2.1
    omega
  · rw [Vt.txtF]
    have : falS.length = 5 := rfl
    omega
  · rw [Vt.txtT]
    have : truS.length = 4 := rfl
    omega
  · rw [Vt.txt2, List.length_cons]
    have : s.toList.length ≤ 16 := by
      unfold nameB at hn
      simp at hn
      exact hn.1.2
    omega
  · rw [Vt.txt3]
    obtain ⟨r, rfl⟩ : ∃ q, r = q + 1 := ⟨r - 1, by omega⟩
    have := tup_len (B := lenB r) ((l.map Vx.tr).map Vt.txt) (fun a ha => by
      obtain ⟨t, ht, rfl⟩ := List.mem_map.1 ha
      obtain ⟨x, hx, rfl⟩ := List.mem_map.1 ht
      exact ih x (by simpa [Vx.l] using hx) w (hi.2.2.2 x hx) r (hs _ ht))
    rw [List.length_map] at this
    have h2 : (l.map Vx.tr).length * (lenB r + 2) ≤ 4 * (lenB r + 2) := Nat.mul_le_mul_right _ h4
    show _ ≤ 4 * (lenB r + 2) + 3
    omega
theorem okT_cases {k : Int} {l : List Tt} {r : Nat} (h : (Tt.mk k l).ok r = true) : (k = 0 ∧ l = []) ∨ (k = 1 ∧ l = []) ∨ (k = 2 ∧ l = []) ∨ (k = 3 ∧ 0 < r ∧ 1 ≤ l.length ∧ l.length ≤ 4 ∧ ∀ x ∈ l, x.ok (r - 1) = true) := by
  rw [Tt.ok_mk, Bool.and_eq_true] at h
  obtain ⟨h1, h2⟩ := h
  have h3 := List.all_eq_true.1 h2
  unfold okK at h1
  split at h1
  · rename_i hk
    simp at h1
    rcases hk with hk | hk | hk
    · exact .inl ⟨hk, h1⟩
    · exact .inr (.inl ⟨hk, h1⟩)
    · exact .inr (.inr (.inl ⟨hk, h1⟩))
  · split at h1
    · rename_i hk
      simp at h1
      exact .inr (.inr (.inr ⟨hk, h1.1.1, h1.1.2, h1.2, h3⟩))
    · cases h1
theorem Tt.txt0 (l : List Tt) : (Tt.mk 0 l).txt = [105, 110, 116] := by rw [Tt.txt_mk, if_pos rfl]
theorem Tt.txt1 (l : List Tt) : (Tt.mk 1 l).txt = [98, 111, 111, 108] := by rw [Tt.txt_mk, if_neg (by decide), if_pos rfl]
theorem Tt.txt2 (l : List Tt) : (Tt.mk 2 l).txt = [115, 121, 109] := by rw [Tt.txt_mk, if_neg (by decide), if_neg (by decide), if_pos rfl]
theorem Tt.txt3 (l : List Tt) : (Tt.mk 3 l).txt = tupS (l.map Tt.txt) := by rw [Tt.txt_mk, if_neg (by decide), if_neg (by decide), if_neg (by decide)]
theorem txtlenT : ∀ (e : Tt) (r : Nat), e.ok r = true → e.txt.length ≤ lenB r := by
  refine Tt.ind (fun e ih => ?_)
  intro r hok
  obtain ⟨k, l⟩ := e
  have hr := lenB_le r
  rcases okT_cases hok with ⟨rfl, _⟩ | ⟨rfl, _⟩ | ⟨rfl, _⟩ | ⟨rfl, h0, h1, h4, hs⟩
  · rw [Tt.txt0]; simp; omega
  · rw [Tt.txt1]; simp; omega
  · rw [Tt.txt2]; simp; omega
  · rw [Tt.txt3]
    obtain ⟨r, rfl⟩ : ∃ q, r = q + 1 := ⟨r - 1, by omega⟩
    have := tup_len (B := lenB r) (l.map Tt.txt) (fun a ha => by
      obtain ⟨t, ht, rfl⟩ := List.mem_map.1 ha
      exact ih t (by simpa [Tt.l] using ht) r (hs _ ht))
    rw [List.length_map] at this
    have h2 : l.length * (lenB r + 2) ≤ 4 * (lenB r + 2) := Nat.mul_le_mul_right _ h4
    show _ ≤ 4 * (lenB r + 2) + 3
    omega
theorem eg36 : ∀ args w, (callFunc 36 args).run Tryd.prog w = .ok (.enter 36 args) w := enters Tryd.func36 (by kernel_rfl) rfl
set_option maxHeartbeats 4000000 in
theorem textT : ∀ (e : Tx) (w : World), LiesT w e → ∀ r : Nat, r ≤ 3 → e.tr.ok r = true → Calls Tryd.prog 36 #[e.val] w fun x w' => x = .returned (strV e.tr.txt) ∧ Only [] w w' := by
  refine Tx.ind (fun e ih => ?_)
  intro w hL  r hr hok
  obtain ⟨k, A, cap, l⟩ := e
  have hi := hL.inv
  have q0 : Blk (w.alloc (.cells #[.int .i64 k, .slice A l.length cap] 26)) w.heap.size 26 #[.int .i64 k, .slice A l.length cap] := Blk.new w _ _
  have o0 : Only [] w (w.alloc (.cells #[.int .i64 k, .slice A l.length cap] 26)) := (Only.refl _ _).alloc _
  have HO := Lib.hid o0
  have HR := Lib.hid (hL.rowL.keep o0)
  have HI := Lib.hid ih
  have HH := Lib.hid hi.1
  have HLX := Lib.hid (show ∀ x ∈ l, ∀ q, x.tr.ok q = true → x.tr.txt.length ≤ lenB q from fun x hx q hq => txtlenT x.tr q hq)
  skip
  rw [Tx.tr_mk] at hok ⊢
  obtain ⟨b0, b1, bl⟩ := q0.facts2
  show Calls Tryd.prog 36 #[.agg #[.int .i64 k, .slice A l.length cap]] w _
  clear hL ih hi q0 o0 
  rcases okT_cases hok with ⟨rfl, _⟩ | ⟨rfl, _⟩ | ⟨rfl, _⟩ | ⟨rfl, h0, h1, h4, hs⟩
  · rw [Tt.txt0]
    clear hok
    go_enter Tryd.func36, Tryd.ntmps36
    go_wp2_with (fail)
    go_ret
    exact ⟨rfl, HO.out⟩
  · rw [Tt.txt1]
    clear hok
    go_enter Tryd.func36, Tryd.ntmps36
    go_wp2_with (fail)
    go_ret
    exact ⟨rfl, HO.out⟩
  · rw [Tt.txt2]
    clear hok
    go_enter Tryd.func36, Tryd.ntmps36
    go_wp2_with (fail)
    go_ret
    exact ⟨rfl, HO.out⟩
  · rw [Tt.txt3, List.map_map]
    rw [List.length_map] at h1 h4
    have HS := Lib.hid hs
    have HBL := Lib.hid (show (joinS (l.map fun x => x.tr.txt)).length ≤ 1000000 by
      have := join_len (B := 2000) (l.map fun x => x.tr.txt) (fun a ha => by
        obtain ⟨x, hx, rfl⟩ := List.mem_map.1 ha
        exact Nat.le_trans (HLX.out x hx (r - 1) (HS.out _ (List.mem_map.2 ⟨x, hx, rfl⟩))) (lenB_3 (by omega)))
      rw [List.length_map] at this
      have h2 : l.length * (2000 + 2) ≤ 4 * (2000 + 2) := Nat.mul_le_mul_right _ h4
      omega)
    have HE := Lib.hid (eachST 36 (fun x => x.tr.txt) eg36 (cap := cap) HR.out h1 (by omega) (fun a ha w' o hl => HI.out a (by simpa [Tx.l] using ha) w' hl  (r - 1) (by omega) (HS.out _ (List.mem_map.2 ⟨a, ha, rfl⟩))))
    have HCM := Lib.hid (show (Tt.txt ∘ Tx.tr) = fun x => x.tr.txt from rfl)
    rw [HCM.out]
    obtain ⟨res, hres⟩ : ∃ res, tupS (l.map fun x => x.tr.txt) = res := ⟨_, rfl⟩
    have HRES := Lib.hid hres
    rw [hres]
    clear hs hres hok
    go_enter Tryd.func36, Tryd.ntmps36
    go_wp2_with (fail)
    refine HE.out.mono ?_
    rintro e w2 ⟨b, rfl, hbw, hbk, o2⟩
    have HT := Lib.hid (tuple_any (ls := l.map fun x => x.tr.txt) (by rw [List.map_map]; exact hbk) (by rw [List.length_map]) h1 (by omega) HBL.out)
    rw [HRES.out] at HT
    have HO2 := Lib.hid (HO.out.trans o2 (by simp))
    clear hbk o2 b0 b1 bl hbw
    go_wp2_with (fail)
    refine HT.out.mono ?_
    rintro e w3 ⟨rfl, o3⟩
    have HO3 := Lib.hid (HO2.out.trans o3 (by simp))
    clear o3
    unfold strV
    go_wp2_with (fail)
    go_ret
    exact ⟨rfl, HO3.out⟩
/-- the text of any one: none, if it isn't right -/
def _root_.Go.Val.Tt.text (t : Tt) : List UInt8 := if t.ok 3 = true then t.txt else []
theorem totextT {e : Tx} {w : World} (hL : LiesT w e)  : Calls Tryd.prog 17 #[e.val] w fun x w' => x = .returned (strV e.tr.text) ∧ Only [] w w' := by
  have hc := fun w' (o : Only [] w w') => topT (hL.keep o)
  obtain ⟨bk, hbk⟩ : ∃ bk, e.tr.ok 3 = bk := ⟨_, rfl⟩
  have hd := fun w' (o : Only [] w w') (h : bk = true) => textT e w' (hL.keep o)  3 (by omega) (by rw [hbk]; exact h)
  obtain ⟨t, ht⟩ : ∃ t, e.tr.text = t := ⟨_, rfl⟩
  have HV := Lib.hid (show t = if bk = true then e.tr.txt else [] by rw [← ht]; unfold Tt.text; rw [hbk])
  rw [hbk] at hc
  rw [ht]
  clear hbk hL ht
  obtain ⟨tx, htx⟩ : ∃ tx, e.tr.txt = tx := ⟨_, rfl⟩
  rw [htx] at hd HV
  clear htx
  obtain ⟨k, A, cap, l⟩ := e
  have HC := Lib.hid (show ∀ w', Only [] w w' → Calls Tryd.prog 13 #[.agg #[.int .i64 k, .slice A l.length cap]] w' _ from hc)
  have HD := Lib.hid (show ∀ w', Only [] w w' → bk = true → Calls Tryd.prog 36 #[.agg #[.int .i64 k, .slice A l.length cap]] w' _ from hd)
  have q0 : Blk (w.alloc (.cells #[.int .i64 k, .slice A l.length cap] 26)) w.heap.size 26 #[.int .i64 k, .slice A l.length cap] := Blk.new w _ _
  have o0 : Only [] w (w.alloc (.cells #[.int .i64 k, .slice A l.length cap] 26)) := (Only.refl _ _).alloc _
  have HO := Lib.hid o0
  have HQ := Lib.hid q0
  obtain ⟨b0, b1, bl⟩ := q0.facts2
  clear hc hd o0 q0
  show Calls Tryd.prog 17 #[.agg #[.int .i64 k, .slice A l.length cap]] w _
  go_enter Tryd.func17, Tryd.ntmps17
  go_wp2_with (fail)
  refine (HC.out _ HO.out).mono ?_
  rintro e w2 ⟨rfl, o2⟩
  have HO2 := Lib.hid (HO.out.trans o2 (by simp))
  have HQ2 := Lib.hid (o2.blk HQ.out (by simp))
  clear o2 b0 b1 bl
  obtain ⟨b0, b1, bl⟩ := HQ2.out.facts2
  cases bk with
  | false =>
    have h := HV.out
    simp at h
    subst h
    clear HV
    go_wp2_with (fail)
    go_ret
    exact ⟨rfl, HO2.out⟩
  | true =>
    have HD2 := Lib.hid (HD.out _ HO2.out rfl)
    have h := HV.out
    simp at h
    subst h
    clear HV HD
    go_wp2_with (fail)
    refine HD2.out.mono ?_
    rintro e w3 ⟨rfl, o3⟩
    have HO3 := Lib.hid (HO2.out.trans o3 (by simp))
    clear o3 b0 b1 bl
    unfold strV
    go_wp2_with (fail)
    go_ret
    exact ⟨rfl, HO3.out⟩
theorem eg41 : ∀ args w, (callFunc 41 args).run Tryd.prog w = .ok (.enter 41 args) w := enters Tryd.func41 (by kernel_rfl) rfl
set_option maxHeartbeats 4000000 in
theorem textV : ∀ (e : Vx) (w : World), LiesV w e → Tab10 w → ∀ r : Nat, r ≤ 3 → e.tr.ok r = true → Calls Tryd.prog 41 #[e.val] w fun x w' => x = .returned (strV e.tr.txt) ∧ Only [] w w' := by
  refine Vx.ind (fun e ih => ?_)
  intro w hL hT r hr hok
  obtain ⟨k, n, s, A, cap, l⟩ := e
  have hi := hL.inv
  have q0 : Blk (w.alloc (.cells #[.int .i64 k, .int .i64 n, .string s, .slice A l.length cap] 34)) w.heap.size 34 #[.int .i64 k, .int .i64 n, .string s, .slice A l.length cap] := Blk.new w _ _
  have o0 : Only [] w (w.alloc (.cells #[.int .i64 k, .int .i64 n, .string s, .slice A l.length cap] 34)) := (Only.refl _ _).alloc _
  have HO := Lib.hid o0
  have HR := Lib.hid (hL.rowL.keep o0)
  have HI := Lib.hid ih
  have HH := Lib.hid hi.1
  have HLX := Lib.hid (show ∀ x ∈ l, ∀ q, x.tr.ok q = true → x.tr.txt.length ≤ lenB q from fun x hx q hq => txtlenV x w (hi.2.2.2 x hx) q hq)
  have HTB := Lib.hid hT
  have HTB2 := Lib.hid (hT.only o0)
  rw [Vx.tr_mk] at hok ⊢
  obtain ⟨b0, b1, b2, b3, bl⟩ := q0.facts4
  show Calls Tryd.prog 41 #[.agg #[.int .i64 k, .int .i64 n, .string s, .slice A l.length cap]] w _
  clear hL ih hi q0 o0 hT
  rcases ok_cases hok with ⟨rfl, -⟩ | ⟨rfl, hn, -⟩ | ⟨rfl, hn, -⟩ | ⟨rfl, -, -, h0, h1, h4, hs⟩
  · rw [Vt.txt0]
    have HC := Lib.hid (fun (W : World) (o : Only [] w W) => itoa_any n HH.out.2.1 (HTB.out.only o))
    obtain ⟨t, ht⟩ : ∃ t, Lib.itoa n = t := ⟨_, rfl⟩
    rw [ht] at HC ⊢
    clear hok ht
    go_enter Tryd.func41, Tryd.ntmps41
    go_wp2_with (fail)
    refine (HC.out _ HO.out).mono ?_
    rintro e w2 ⟨rfl, o2⟩
    have HO2 := Lib.hid (HO.out.trans o2 (by simp))
    clear o2 b0 b1 b2 b3 bl
    unfold strV
    go_wp2_with (fail)
    go_ret
    exact ⟨rfl, HO2.out⟩
  · rcases hn with rfl | rfl
    · rw [Vt.txtF]
      have HC := Lib.hid (fun (W : World) => fmtbool_any false W)
      have e0 : ((0 : Int) == 1) = false := rfl
      clear hok
      go_enter Tryd.func41, Tryd.ntmps41
      go_wp2_with (fail)
      refine (HC.out _).mono ?_
      rintro e w2 ⟨rfl, o2⟩
      have HO2 := Lib.hid (HO.out.trans o2 (by simp))
      clear o2 b0 b1 b2 b3 bl
      unfold strV
      go_wp2_with (fail)
      go_ret
      exact ⟨rfl, HO2.out⟩
    · rw [Vt.txtT]
      have HC := Lib.hid (fun (W : World) => fmtbool_any true W)
      clear hok
      go_enter Tryd.func41, Tryd.ntmps41
      go_wp2_with (fail)
      refine (HC.out _).mono ?_
      rintro e w2 ⟨rfl, o2⟩
      have HO2 := Lib.hid (HO.out.trans o2 (by simp))
      clear o2 b0 b1 b2 b3 bl
      unfold strV
      go_wp2_with (fail)
      go_ret
      exact ⟨rfl, HO2.out⟩
  · rw [Vt.txt2]
    have hs16 : s.size ≤ 16 := by
      have e : s.toList.length = s.size := by rw [ByteArray.toList_eq]; rfl
      unfold nameB at hn
      simp at hn
      omega
    have HE := Lib.hid (show strV (39 :: s.toList) = .string ((⟨#[39]⟩ : ByteArray) ++ s) by
      unfold strV
      congr 1
      rw [ByteArray.toList_eq]
      apply ByteArray.ext
      apply Array.ext'
      simp)
    rw [HE.out]
    clear hok hn
    go_enter Tryd.func41, Tryd.ntmps41
    go_wp2_with (fail)
    go_ret
    exact ⟨rfl, HO.out⟩
  · rw [Vt.txt3, List.map_map]
    rw [List.length_map] at h1 h4
    have HS := Lib.hid hs
    have HBL := Lib.hid (show (joinS (l.map fun x => x.tr.txt)).length ≤ 1000000 by
      have := join_len (B := 2000) (l.map fun x => x.tr.txt) (fun a ha => by
        obtain ⟨x, hx, rfl⟩ := List.mem_map.1 ha
        exact Nat.le_trans (HLX.out x hx (r - 1) (HS.out _ (List.mem_map.2 ⟨x, hx, rfl⟩))) (lenB_3 (by omega)))
      rw [List.length_map] at this
      have h2 : l.length * (2000 + 2) ≤ 4 * (2000 + 2) := Nat.mul_le_mul_right _ h4
      omega)
    have HE := Lib.hid (eachSV 41 (fun x => x.tr.txt) eg41 (cap := cap) HR.out h1 (by omega) (fun a ha w' o hl => HI.out a (by simpa [Vx.l] using ha) w' hl (HTB2.out.only o) (r - 1) (by omega) (HS.out _ (List.mem_map.2 ⟨a, ha, rfl⟩))))
    have HCM := Lib.hid (show (Vt.txt ∘ Vx.tr) = fun x => x.tr.txt from rfl)
    rw [HCM.out]
    obtain ⟨res, hres⟩ : ∃ res, tupS (l.map fun x => x.tr.txt) = res := ⟨_, rfl⟩
    have HRES := Lib.hid hres
    rw [hres]
    clear hs hres hok
    go_enter Tryd.func41, Tryd.ntmps41
    go_wp2_with (fail)
    refine HE.out.mono ?_
    rintro e w2 ⟨b, rfl, hbw, hbk, o2⟩
    have HT := Lib.hid (tuple_any (ls := l.map fun x => x.tr.txt) (by rw [List.map_map]; exact hbk) (by rw [List.length_map]) h1 (by omega) HBL.out)
    rw [HRES.out] at HT
    have HO2 := Lib.hid (HO.out.trans o2 (by simp))
    clear hbk o2 b0 b1 b2 b3 bl hbw
    go_wp2_with (fail)
    refine HT.out.mono ?_
    rintro e w3 ⟨rfl, o3⟩
    have HO3 := Lib.hid (HO2.out.trans o3 (by simp))
    clear o3
    unfold strV
    go_wp2_with (fail)
    go_ret
    exact ⟨rfl, HO3.out⟩
/-- the text of any one: none, if it isn't right -/
def _root_.Go.Val.Vt.text (t : Vt) : List UInt8 := if t.ok 3 = true then t.txt else []
theorem totextV {e : Vx} {w : World} (hL : LiesV w e) (hT : Tab10 w) : Calls Tryd.prog 25 #[e.val] w fun x w' => x = .returned (strV e.tr.text) ∧ Only [] w w' := by
  have hc := fun w' (o : Only [] w w') => topV (hL.keep o)
  obtain ⟨bk, hbk⟩ : ∃ bk, e.tr.ok 3 = bk := ⟨_, rfl⟩
  have hd := fun w' (o : Only [] w w') (h : bk = true) => textV e w' (hL.keep o) (hT.only o) 3 (by omega) (by rw [hbk]; exact h)
  obtain ⟨t, ht⟩ : ∃ t, e.tr.text = t := ⟨_, rfl⟩
  have HV := Lib.hid (show t = if bk = true then e.tr.txt else [] by rw [← ht]; unfold Vt.text; rw [hbk])
  rw [hbk] at hc
  rw [ht]
  clear hbk hL ht
  obtain ⟨tx, htx⟩ : ∃ tx, e.tr.txt = tx := ⟨_, rfl⟩
  rw [htx] at hd HV
  clear htx
  obtain ⟨k, n, s, A, cap, l⟩ := e
  have HC := Lib.hid (show ∀ w', Only [] w w' → Calls Tryd.prog 21 #[.agg #[.int .i64 k, .int .i64 n, .string s, .slice A l.length cap]] w' _ from hc)
  have HD := Lib.hid (show ∀ w', Only [] w w' → bk = true → Calls Tryd.prog 41 #[.agg #[.int .i64 k, .int .i64 n, .string s, .slice A l.length cap]] w' _ from hd)
  have q0 : Blk (w.alloc (.cells #[.int .i64 k, .int .i64 n, .string s, .slice A l.length cap] 34)) w.heap.size 34 #[.int .i64 k, .int .i64 n, .string s, .slice A l.length cap] := Blk.new w _ _
  have o0 : Only [] w (w.alloc (.cells #[.int .i64 k, .int .i64 n, .string s, .slice A l.length cap] 34)) := (Only.refl _ _).alloc _
  have HO := Lib.hid o0
  have HQ := Lib.hid q0
  obtain ⟨b0, b1, b2, b3, bl⟩ := q0.facts4
  clear hc hd o0 q0
  show Calls Tryd.prog 25 #[.agg #[.int .i64 k, .int .i64 n, .string s, .slice A l.length cap]] w _
  go_enter Tryd.func25, Tryd.ntmps25
  go_wp2_with (fail)
  refine (HC.out _ HO.out).mono ?_
  rintro e w2 ⟨rfl, o2⟩
  have HO2 := Lib.hid (HO.out.trans o2 (by simp))
  have HQ2 := Lib.hid (o2.blk HQ.out (by simp))
  clear o2 b0 b1 b2 b3 bl
  obtain ⟨b0, b1, b2, b3, bl⟩ := HQ2.out.facts4
  cases bk with
  | false =>
    have h := HV.out
    simp at h
    subst h
    clear HV
    go_wp2_with (fail)
    go_ret
    exact ⟨rfl, HO2.out⟩
  | true =>
    have HD2 := Lib.hid (HD.out _ HO2.out rfl)
    have h := HV.out
    simp at h
    subst h
    clear HV HD
    go_wp2_with (fail)
    refine HD2.out.mono ?_
    rintro e w3 ⟨rfl, o3⟩
    have HO3 := Lib.hid (HO2.out.trans o3 (by simp))
    clear o3 b0 b1 b2 b3 bl
    unfold strV
    go_wp2_with (fail)
    go_ret
    exact ⟨rfl, HO3.out⟩
end Go.Proofs.YtgpljjejfebhoaaDoor
