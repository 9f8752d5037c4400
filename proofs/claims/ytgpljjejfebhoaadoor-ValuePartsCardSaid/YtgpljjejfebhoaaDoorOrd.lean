/- How two values stand to each other: the program's. -/
import Derived.Test.YtgpljjejfebhoaaDoorSame
import Derived.Test.YtgpljjejfebhoaaDoorShelf
namespace Go.Proofs.YtgpljjejfebhoaaDoor
open Go.RowKit Go.Kx Go.Val
set_option maxRecDepth 100000
theorem cmpB_eq : ∀ s t : List UInt8, Lib.compareBytes s t = cmpS s t
  | [], [] => rfl
  | [], _ :: _ => rfl
  | _ :: _, [] => rfl
  | a :: s, b :: t => by
    have h := cmpB_eq s t
    have e : cmpS (a :: s) (b :: t) = orI (cmpC a b) (cmpS s t) := rfl
    rw [e, Lib.compareBytes, h]
    unfold orI cmpC cmpZ
    by_cases h1 : a < b
    · have h2 : (a.toNat : Int) < (b.toNat : Int) := by have := UInt8.lt_iff_toNat_lt.1 h1; omega
      rw [if_pos h1, if_pos h2, if_neg (by decide)]
    · have h2 : ¬ (a.toNat : Int) < (b.toNat : Int) := fun h => h1 (UInt8.lt_iff_toNat_lt.2 (by omega))
      rw [if_neg h1, if_neg h2]
      by_cases h3 : b < a
      · have h4 : (b.toNat : Int) < (a.toNat : Int) := by have := UInt8.lt_iff_toNat_lt.1 h3; omega
        rw [if_pos h3, if_pos h4, if_neg (by decide)]
      · have h4 : ¬ (b.toNat : Int) < (a.toNat : Int) := fun h => h3 (UInt8.lt_iff_toNat_lt.2 (by omega))
        rw [if_neg h3, if_neg h4, if_pos rfl]
theorem cmpI_eq (x y : Int) : Lib.compareInt x y = cmpZ x y := rfl
theorem cmpint_any (x y : Int) (w : World) : Calls Tryd.prog 60 #[.int .i64 x, .int .i64 y] w fun e w' => e = .returned (.int .i64 (cmpZ x y)) ∧ Only [] w w' :=
  (Tryd.cmp_Compare_int x y w).mono (by rintro e w' ⟨rfl, rfl⟩; exact ⟨rfl, Only.refl _ _⟩)
theorem cmpstr_any (s t : ByteArray) (w : World) : Calls Tryd.prog 61 #[.string s, .string t] w fun e w' => e = .returned (.int .i64 (cmpS s.toList t.toList)) ∧ Only [] w w' :=
  (Tryd.strings_Compare s t w).mono (by rintro e w' ⟨rfl, rfl⟩; exact ⟨by rw [cmpB_eq, ByteArray.toList_eq, ByteArray.toList_eq], Only.refl _ _⟩)
section
variable {α : Type}
def ordP (c : α → α → Int) : List α → List α → Int
  | [], [] => 0
  | [], _ :: _ => -1
  | _ :: _, [] => 1
  | a :: us, b :: vs => orI (c a b) (ordP c us vs)
theorem ord_map {β : Type} {c : β → β → Int} {f : α → β} : ∀ (us vs : List α), ordF ((us.map f).map c) (vs.map f) = ordP (fun a b => c (f a) (f b)) us vs
  | [], [] => rfl
  | [], _ :: _ => rfl
  | _ :: _, [] => rfl
  | a :: us, b :: vs => by
    simp only [List.map_cons]
    show orI _ (ordF ((us.map f).map c) (vs.map f)) = orI _ (ordP _ us vs)
    rw [ord_map us vs]
theorem ordP_at {c : α → α → Int} {us vs : List α} {k : Nat} {a b : α} (ha : us[k]? = some a) (hb : vs[k]? = some b) : ordP c (us.drop k) (vs.drop k) = orI (c a b) (ordP c (us.drop (k + 1)) (vs.drop (k + 1))) := by
  have h1 := (List.getElem?_eq_some_iff.1 ha).1
  have h2 := (List.getElem?_eq_some_iff.1 hb).1
  rw [List.drop_eq_getElem_cons h1, List.drop_eq_getElem_cons h2]
  rw [List.getElem?_eq_getElem h1] at ha
  rw [List.getElem?_eq_getElem h2] at hb
  rw [Option.some.inj ha, Option.some.inj hb]
  rfl
theorem ordP_end {c : α → α → Int} {us vs : List α} {k : Nat} (h : k = min us.length vs.length) : ordP c (us.drop k) (vs.drop k) = cmpZ us.length vs.length := by
  unfold cmpZ
  rcases Nat.lt_trichotomy us.length vs.length with h1 | h1 | h1
  · have e : us.drop k = [] := List.drop_of_length_le (by omega)
    have e2 : vs.drop k = vs[k]'(by omega) :: vs.drop (k + 1) := List.drop_eq_getElem_cons (by omega)
    rw [e, e2, if_pos (by omega)]
    rfl
  · have e : us.drop k = [] := List.drop_of_length_le (by omega)
    have e2 : vs.drop k = [] := List.drop_of_length_le (by omega)
    rw [e, e2, if_neg (by omega), if_neg (by omega)]
    rfl
  · have e : vs.drop k = [] := List.drop_of_length_le (by omega)
    have e2 : us.drop k = us[k]'(by omega) :: us.drop (k + 1) := List.drop_eq_getElem_cons (by omega)
    rw [e, e2, if_neg (by omega), if_pos (by omega)]
    rfl
end
def orL : List Int → Int
  | [] => 0
  | a :: r => orI a (orL r)
set_option maxHeartbeats 2000000 in
theorem or_any {w : World} {b n c : Nat} {L : List Int} (hrow : ∀ (j : Nat) x, L[j]? = some x → w.cell? ⟨b, j, none⟩ = some (.int .i64 x)) (hb : b < w.heap.size) (hn : L.length = n) (hn4 : n ≤ 4) :
    Calls Tryd.prog 59 #[.slice (some ⟨b, 0, none⟩) n c] w fun e w' => e = .returned (.int .i64 (orL L)) ∧ Only [] w w' := by
  have HR := Lib.hid hrow
  have HN := Lib.hid hn
  clear hrow hn
  go_enter Tryd.func59, Tryd.ntmps59
  go_wp2_with (fail)
  go_loopw [8] (fun i wr => ∃ k : Nat, i = .int .i64 k ∧ k ≤ n ∧ Hid (orL L = orL (L.drop k)) ∧ Hid (wr = w)) (fun i _ => n - (intOf i).toNat)
  case atStart => exact ⟨0, rfl, Nat.zero_le _, Lib.hid rfl, Lib.hid rfl⟩
  case round =>
    obtain ⟨k, rfl, hk, HE, HW⟩ := hrel
    obtain rfl := HW.out
    clear HW
    by_cases hlt : k < n
    · obtain ⟨x, hx⟩ : ∃ e, L[k]? = some e := ⟨_, List.getElem?_eq_getElem (by rw [HN.out]; exact hlt)⟩
      have c0 := HR.out k x hx
      have HS := Lib.hid (show orL (L.drop k) = orI x (orL (L.drop (k + 1))) by
        have h1 := (List.getElem?_eq_some_iff.1 hx).1
        rw [List.drop_eq_getElem_cons h1]
        rw [List.getElem?_eq_getElem h1] at hx
        rw [Option.some.inj hx]
        rfl)
      clear hx
      by_cases h0 : x = 0
      · subst h0
        go_wp2_with (fail)
        go_roundw
        case rel => exact ⟨k + 1, by go_num, by omega, Lib.hid (by rw [HE.out, HS.out]; rfl), by first | exact Lib.hid rfl | exact Lib.hid trivial⟩
        case measure => simp [intOf]; omega
      · have e0 : (x != 0) = true := by simpa using h0
        have HX := Lib.hid h0
        clear h0
        go_wp2_with (fail)
        go_ret
        exact ⟨by rw [HE.out, HS.out]; unfold orI; rw [if_neg HX.out]; rfl, Only.refl _ _⟩
    · have hke : k = n := by omega
      have iz : ¬ (n : Int) < (n : Int) := by omega
      have HZ := Lib.hid (show orL L = 0 by rw [HE.out, hke, List.drop_of_length_le (by rw [HN.out]; exact Nat.le_refl _)]; rfl)
      rw [hke]
      clear hke hlt hk
      go_wp2_with (fail)
      go_ret
      exact ⟨by rw [HZ.out]; rfl, Only.refl _ _⟩
set_option maxHeartbeats 4000000 in
theorem ordlist (f : Nat) (p : Vx → Vx → Int) (eg : ∀ args w, (callFunc f args).run Tryd.prog w = .ok (.enter f args) w) {A B : Option Addr} {ca cb : Nat} {us vs : List Vx} {w : World} (hA : RowLV w A us) (hB : RowLV w B vs)
    (hf : ∀ a ∈ us, ∀ b w', LiesV w' a → LiesV w' b → Calls Tryd.prog f #[a.val, b.val] w' fun r w'' => r = .returned (.int .i64 (p a b)) ∧ Only [] w' w'') :
    Calls Tryd.prog 62 #[.slice A us.length ca, .slice B vs.length cb, .func (.func f) #[] #[]] w fun r w' => r = .returned (.int .i64 (ordP p us vs)) ∧ Only [] w w' := by
  have HA := Lib.hid hA
  have HB := Lib.hid hB
  have HF := Lib.hid hf
  obtain ⟨na, hna⟩ : ∃ na, us.length = na := ⟨_, rfl⟩
  obtain ⟨nb, hnb⟩ : ∃ nb, vs.length = nb := ⟨_, rfl⟩
  have HLA := Lib.hid hna
  have HLB := Lib.hid hnb
  have hlA := hA.len
  have hlB := hB.len
  rw [hna] at hlA ⊢
  rw [hnb] at hlB ⊢
  obtain ⟨m, hm⟩ : ∃ m, min na nb = m := ⟨_, rfl⟩
  have HM := Lib.hid hm
  have hmi : ((min (na : Int) (nb : Int)) : Int) = (m : Int) := by omega
  have hm1 : m ≤ na := by omega
  have hm2 : m ≤ nb := by omega
  clear hA hB hf hna hnb
  go_enter Tryd.func62, Tryd.ntmps62
  go_wp2_with (fail)
  go_loopw [14] (fun i wr => ∃ k : Nat, i = .int .i64 k ∧ k ≤ m ∧ Hid (ordP p us vs = ordP p (us.drop k) (vs.drop k)) ∧ Hid (Only [] w wr)) (fun i _ => m - (intOf i).toNat)
  case atStart => exact ⟨0, rfl, Nat.zero_le _, Lib.hid rfl, Lib.hid (Only.refl _ _)⟩
  case round =>
    obtain ⟨wq, rfl⟩ : ∃ wq : World, wq = wr := ⟨_, rfl⟩
    obtain ⟨k, rfl, hk, HE, HOr⟩ := hrel
    by_cases hlt : k < m
    · obtain ⟨x, hx⟩ : ∃ e, us[k]? = some e := ⟨_, List.getElem?_eq_getElem (by rw [HLA.out]; omega)⟩
      obtain ⟨y, hy⟩ : ∃ e, vs[k]? = some e := ⟨_, List.getElem?_eq_getElem (by rw [HLB.out]; omega)⟩
      have hmx : x ∈ us := List.mem_of_getElem? hx
      have HLx := Lib.hid ((HA.out.sub x hmx).keep HOr.out)
      have HLy := Lib.hid ((HB.out.sub y (List.mem_of_getElem? hy)).keep HOr.out)
      have hcall := HF.out x hmx y
      have HS := Lib.hid (ordP_at (c := p) hx hy)
      have hrx := (HA.out.row k _ hx).only HOr.out (by simp)
      have hry := (HB.out.row k _ hy).only HOr.out (by simp)
      obtain ⟨pe, hpe⟩ : ∃ pe, p x y = pe := ⟨_, rfl⟩
      rw [hpe] at hcall HS
      obtain ⟨xk, xn, xs, xA, xcap, xl⟩ := x
      obtain ⟨yk, yn, ys, yA, ycap, yl⟩ := y
      obtain ⟨ba, oa, rfl, hba, c0, c1, c2, c3⟩ := hrx.cells
      obtain ⟨bb, ob, rfl, hbb, d0, d1, d2, d3⟩ := hry.cells
      have HC := Lib.hid (And.intro hba (And.intro c0 (And.intro c1 (And.intro c2 c3))))
      have HD := Lib.hid (And.intro hbb (And.intro d0 (And.intro d1 (And.intro d2 d3))))
      have HCA := Lib.hid (show ∀ w', Only [] wq w' → Calls Tryd.prog f #[.agg #[.int .i64 xk, .int .i64 xn, .string xs, .slice xA xl.length xcap], .agg #[.int .i64 yk, .int .i64 yn, .string ys, .slice yA yl.length ycap]] w' fun r w'' => r = .returned (.int .i64 pe) ∧ Only [] w' w'' from fun w' o => hcall w' (HLx.out.keep o) (HLy.out.keep o))
      have hki : (0 : Int) ≤ (k : Int) := by omega
      have hki2 : (k : Int) < (na : Int) := by omega
      have hki3 : (k : Int) < (nb : Int) := by omega
      have hki4 : (k : Int) < (m : Int) := by omega
      clear hx hy hmx hcall hrx hry hpe c0 c1 c2 c3 d0 d1 d2 d3
      go_wp2_with (fail)
      refine (wpIn_wide (n := 9)).1 ?_
      refine wpIn_region_relR 10 (Only []) (fr := ?frg) (tl := ?tlg) (fun iq v wv => match iq with
        | 0 => v = .func (.func f) #[] #[]
        | 1 => v = .slice (some ⟨ba, oa, none⟩) na ca
        | 2 => v = .int .i64 (k : Nat)
        | 3 => v = .pointer (some ⟨ba, oa + k * 4, none⟩)
        | 4 => v = .agg #[.int .i64 xk, .int .i64 xn, .string xs, .slice xA xl.length xcap]
        | 5 => v = .slice (some ⟨bb, ob, none⟩) nb cb
        | 6 => v = .int .i64 (k : Nat)
        | 7 => v = .pointer (some ⟨bb, ob + k * 4, none⟩)
        | 8 => v = .agg #[.int .i64 yk, .int .i64 yn, .string ys, .slice yA yl.length ycap]
        | 9 => v = .int .i64 pe
        | _ => True) (.inl rfl) (by kernel_rfl) (by kernel_rfl) (by kernel_rfl) (by kernel_rfl) (by kernel_rfl) (by kernel_rfl) (by decide) ?htlg ?hfrg (Only.refl _ _) (fun _ _ _ h k => h.trans k (fun _ hx => .inl hx)) ?stabg ?stepsg ?doneg
      case htlg => simp only [List.drop_succ_cons, List.drop_zero]; rfl
      case hfrg => intro vals; simp only [putAll, dstAt, Act.put, List.getElem?_toArray, List.getElem?_cons_zero, List.getElem?_cons_succ, Option.bind_some, List.setIfInBounds_toArray, List.set_cons_zero, List.set_cons_succ]; rfl
      case stabg =>
        intro i v wa wb h
        try dsimp only
        split <;> first | exact id
      case stepsg =>
        refine ⟨?_, ?_, ?_, ?_, ?_, ?_, ?_, ?_, ?_, ?_, trivial⟩
        · intro vals wr hR hp K hK
          dsimp only at hK ⊢
          clear hp
          unfold RunsOp
          go_simp
          exact hK.out _ _ ⟨_, rfl, Only.refl _ _, rfl⟩
        · intro vals wr hR hp K hK
          dsimp only at hK ⊢
          clear hp
          unfold RunsOp
          go_simp
          exact hK.out _ _ ⟨_, rfl, Only.refl _ _, rfl⟩
        · intro vals wr hR hp K hK
          dsimp only at hK ⊢
          clear hp
          unfold RunsOp
          go_simp
          exact hK.out _ _ ⟨_, rfl, Only.refl _ _, rfl⟩
        · intro vals wr hR hp K hK
          dsimp only at hK ⊢
          obtain ⟨p1, p2, -⟩ := hp
          replace p1 := p1 rfl
          replace p2 := p2 rfl
          dsimp only at p1 p2
          rw [p1, p2] at hK ⊢
          clear p1 p2
          unfold RunsOp
          go_simp
          exact hK.out _ _ ⟨_, rfl, Only.refl _ _, rfl⟩
        · intro vals wr hR hp K hK
          dsimp only at hK ⊢
          obtain ⟨p3, -⟩ := hp
          replace p3 := p3 rfl
          dsimp only at p3
          rw [p3] at hK ⊢
          clear p3
          unfold RunsOp
          have q0 := (hR.cell (p := ⟨ba, oa + k * 4, none⟩) HC.out.1 (by simp)).trans HC.out.2.1
          have q1 := (hR.cell (p := ⟨ba, oa + k * 4 + 1, none⟩) HC.out.1 (by simp)).trans HC.out.2.2.1
          have q2 := (hR.cell (p := ⟨ba, oa + k * 4 + 2, none⟩) HC.out.1 (by simp)).trans HC.out.2.2.2.1
          have q3 := (hR.cell (p := ⟨ba, oa + k * 4 + 3, none⟩) HC.out.1 (by simp)).trans HC.out.2.2.2.2
          go_simp
          exact hK.out _ _ ⟨_, rfl, Only.refl _ _, rfl⟩
        · intro vals wr hR hp K hK
          dsimp only at hK ⊢
          clear hp
          unfold RunsOp
          go_simp
          exact hK.out _ _ ⟨_, rfl, Only.refl _ _, rfl⟩
        · intro vals wr hR hp K hK
          dsimp only at hK ⊢
          clear hp
          unfold RunsOp
          go_simp
          exact hK.out _ _ ⟨_, rfl, Only.refl _ _, rfl⟩
        · intro vals wr hR hp K hK
          dsimp only at hK ⊢
          obtain ⟨p5, p6, -⟩ := hp
          replace p5 := p5 rfl
          replace p6 := p6 rfl
          dsimp only at p5 p6
          rw [p5, p6] at hK ⊢
          clear p5 p6
          unfold RunsOp
          go_simp
          exact hK.out _ _ ⟨_, rfl, Only.refl _ _, rfl⟩
        · intro vals wr hR hp K hK
          dsimp only at hK ⊢
          obtain ⟨p7, -⟩ := hp
          replace p7 := p7 rfl
          dsimp only at p7
          rw [p7] at hK ⊢
          clear p7
          unfold RunsOp
          have q0 := (hR.cell (p := ⟨bb, ob + k * 4, none⟩) HD.out.1 (by simp)).trans HD.out.2.1
          have q1 := (hR.cell (p := ⟨bb, ob + k * 4 + 1, none⟩) HD.out.1 (by simp)).trans HD.out.2.2.1
          have q2 := (hR.cell (p := ⟨bb, ob + k * 4 + 2, none⟩) HD.out.1 (by simp)).trans HD.out.2.2.2.1
          have q3 := (hR.cell (p := ⟨bb, ob + k * 4 + 3, none⟩) HD.out.1 (by simp)).trans HD.out.2.2.2.2
          go_simp
          exact hK.out _ _ ⟨_, rfl, Only.refl _ _, rfl⟩
        · intro vals wr hR hp K hK
          dsimp only at hK ⊢
          obtain ⟨p0, p4, p8, -⟩ := hp
          replace p0 := p0 rfl
          replace p4 := p4 rfl
          replace p8 := p8 rfl
          dsimp only at p0 p4 p8
          rw [p0, p4, p8] at hK ⊢
          clear p0 p4 p8
          unfold RunsOp
          go_simp
          refine (HCA.out _ ((Only.refl [] wq).drew.trans hR (by simp))).mono ?_
          rintro e' w2 ⟨rfl, o2⟩
          exact hK.out _ _ ⟨_, rfl, o2, rfl⟩
      case doneg =>
        intro vals wd hR hF
        have f0 : vals 0 = .func (.func f) #[] #[] := hF 0 (by decide)
        have f1 : vals 1 = .slice (some ⟨ba, oa, none⟩) na ca := hF 1 (by decide)
        have f2 : vals 2 = .int .i64 (k : Nat) := hF 2 (by decide)
        have f3 : vals 3 = .pointer (some ⟨ba, oa + k * 4, none⟩) := hF 3 (by decide)
        have f4 : vals 4 = .agg #[.int .i64 xk, .int .i64 xn, .string xs, .slice xA xl.length xcap] := hF 4 (by decide)
        have f5 : vals 5 = .slice (some ⟨bb, ob, none⟩) nb cb := hF 5 (by decide)
        have f6 : vals 6 = .int .i64 (k : Nat) := hF 6 (by decide)
        have f7 : vals 7 = .pointer (some ⟨bb, ob + k * 4, none⟩) := hF 7 (by decide)
        have f8 : vals 8 = .agg #[.int .i64 yk, .int .i64 yn, .string ys, .slice yA yl.length ycap] := hF 8 (by decide)
        have f9 : (vals 9) = .int .i64 pe := hF 9 (by decide)
        rw [f0, f1, f2, f3, f4, f5, f6, f7, f8]
        clear f0 f1 f2 f3 f4 f5 f6 f7 f8
        rw [f9]
        clear f9
        have HO5 := Lib.hid (HOr.out.trans ((Only.refl [] wq).drew.trans hR (by simp)) (by simp))
        clear hR hF
        by_cases hp0 : pe = 0
        · subst hp0
          gi_wp2_with (fail)
          go_wp2_with (fail)
          go_roundw
          case rel => exact ⟨k + 1, by go_num, by omega, Lib.hid (by rw [HE.out, HS.out]; rfl), HO5⟩
          case measure => simp [intOf]; omega
        · have e0 : (pe != 0) = true := by simpa using hp0
          have HP0 := Lib.hid hp0
          clear hp0
          gi_wp2_with (fail)
          go_wp2_with (fail)
          go_ret
          exact ⟨by rw [HE.out, HS.out]; unfold orI; rw [if_neg HP0.out]; rfl, HO5.out⟩
    · have hke : k = m := by omega
      have iz : ¬ (m : Int) < (m : Int) := by omega
      have HZ := Lib.hid (show ordP p us vs = cmpZ na nb by rw [HE.out, hke, ordP_end (by rw [HLA.out, HLB.out, HM.out]), HLA.out, HLB.out])
      rw [hke]
      clear hke hlt hk hm hmi
      go_wp2_with (fail)
      refine (cmpint_any (na : Int) (nb : Int) _).mono ?_
      rintro e w2 ⟨rfl, o2⟩
      have HO2 := Lib.hid (HOr.out.trans o2 (by simp))
      clear o2
      go_wp2_with (fail)
      go_ret
      exact ⟨by rw [HZ.out]; rfl, HO2.out⟩
theorem eg47 : ∀ args w, (callFunc 47 args).run Tryd.prog w = .ok (.enter 47 args) w := enters Tryd.func47 (by kernel_rfl) rfl
set_option maxHeartbeats 4000000 in
theorem order_any : ∀ (a b : Vx) (w : World), LiesV w a → LiesV w b →
    Calls Tryd.prog 47 #[a.val, b.val] w fun r w' => r = .returned (.int .i64 (a.tr.cmp b.tr)) ∧ Only [] w w' := by
  refine Vx.ind (fun a ih => ?_)
  intro b w hLa hLb
  obtain ⟨k, n, s, A, cap, l⟩ := a
  obtain ⟨k2, n2, s2, A2, cap2, l2⟩ := b
  have HE := Lib.hid (show (Vx.mk k n s A cap l).tr.cmp (Vx.mk k2 n2 s2 A2 cap2 l2).tr = orI (cmpZ k k2) (orI (cmpZ n n2) (orI (cmpS s.toList s2.toList) (ordP (fun a b : Vx => a.tr.cmp b.tr) l l2))) by
    rw [Vx.tr_mk, Vx.tr_mk, Vt.cmp_mk, ord_map])
  have hbx := Blk.new w 34 #[.int .i64 k, .int .i64 n, .string s, .slice A l.length cap]
  have o0 : Only [] w (w.alloc (.cells #[.int .i64 k, .int .i64 n, .string s, .slice A l.length cap] 34)) := (Only.refl _ _).alloc _
  have hs1 : (w.alloc (.cells #[.int .i64 k, .int .i64 n, .string s, .slice A l.length cap] 34)).heap.size = w.heap.size + 1 := by simp
  have hby := Blk.new (w.alloc (.cells #[.int .i64 k, .int .i64 n, .string s, .slice A l.length cap] 34)) 34 #[.int .i64 k2, .int .i64 n2, .string s2, .slice A2 l2.length cap2]
  rw [hs1] at hby
  have o1 : Only [] (w.alloc (.cells #[.int .i64 k, .int .i64 n, .string s, .slice A l.length cap] 34)) ((w.alloc (.cells #[.int .i64 k, .int .i64 n, .string s, .slice A l.length cap] 34)).alloc (.cells #[.int .i64 k2, .int .i64 n2, .string s2, .slice A2 l2.length cap2] 34)) := (Only.refl _ _).alloc _
  have HBX := Lib.hid (o1.blk hbx (by simp))
  have HBY := Lib.hid hby
  obtain ⟨b0, b1, b2, b3, bl⟩ := HBX.out.facts4
  obtain ⟨d0, d1, d2, d3, dl⟩ := hby.facts4
  have HO := Lib.hid (o0.trans o1 (by simp))
  have HC := Lib.hid (fun (W : World) (o : Only [] w W) => ordlist 47 (fun a b : Vx => a.tr.cmp b.tr) eg47 (ca := cap) (cb := cap2) (hLa.rowL.keep o) (hLb.rowL.keep o) (fun a ha b w' h1 h2 => ih a (by simpa [Vx.l] using ha) b w' h1 h2))
  show Calls Tryd.prog 47 #[.agg #[.int .i64 k, .int .i64 n, .string s, .slice A l.length cap], .agg #[.int .i64 k2, .int .i64 n2, .string s2, .slice A2 l2.length cap2]] w _
  rw [HE.out]
  generalize ordP (fun a b : Vx => a.tr.cmp b.tr) l l2 = c3 at HC HE ⊢
  generalize hc0 : cmpZ k k2 = c0 at *
  generalize hc1 : cmpZ n n2 = c1 at *
  generalize hc2 : cmpS s.toList s2.toList = c2 at *
  have HC0 := Lib.hid hc0
  have HC1 := Lib.hid hc1
  have HC2 := Lib.hid hc2
  have HRES := Lib.hid (show orL [c0, c1, c2, c3] = orI c0 (orI c1 (orI c2 c3)) by
    show orI c0 (orI c1 (orI c2 (orI c3 0))) = _
    have : orI c3 0 = c3 := by unfold orI; split <;> omega
    rw [this])
  clear hLa hLb ih hbx hby o0 o1 hc0 hc1 hc2
  go_enter Tryd.func47, Tryd.ntmps47
  go_wp2_with (fail)
  generalize (w.alloc (.cells #[.int .i64 k, .int .i64 n, .string s, .slice A l.length cap] 34)).alloc (.cells #[.int .i64 k2, .int .i64 n2, .string s2, .slice A2 l2.length cap2] 34) = w1 at *
  clear b0 b1 b2 b3 bl d0 d1 d2 d3 dl
  refine (wpIn_wide (n := 9)).1 ?_
  refine wpIn_region_relR 22 (Only []) (fr := ?frg) (tl := ?tlg) (fun iq v wv => match iq with
    | 0 => v = .pointer (some ⟨w.heap.size, 0, none⟩)
    | 1 => v = .int .i64 k
    | 2 => v = .pointer (some ⟨w.heap.size + 1, 0, none⟩)
    | 3 => v = .int .i64 k2
    | 4 => v = .int .i64 c0
    | 5 => v = .pointer (some ⟨w.heap.size, 1, none⟩)
    | 6 => v = .int .i64 n
    | 7 => v = .pointer (some ⟨w.heap.size + 1, 1, none⟩)
    | 8 => v = .int .i64 n2
    | 9 => v = .int .i64 c1
    | 10 => v = .pointer (some ⟨w.heap.size, 2, none⟩)
    | 11 => v = .string s
    | 12 => v = .pointer (some ⟨w.heap.size + 1, 2, none⟩)
    | 13 => v = .string s2
    | 14 => v = .int .i64 c2
    | 15 => v = .pointer (some ⟨w.heap.size, 3, none⟩)
    | 16 => v = .slice A l.length cap
    | 17 => v = .pointer (some ⟨w.heap.size + 1, 3, none⟩)
    | 18 => v = .slice A2 l2.length cap2
    | 19 => v = .int .i64 c3
    | 20 => ∃ b, v = .slice (some ⟨b, 0, none⟩) 4 4 ∧ Blk wv b 3 #[.int .i64 c0, .int .i64 c1, .int .i64 c2, .int .i64 c3]
    | 21 => v = .int .i64 (orL [c0, c1, c2, c3])
    | _ => True) (.inl rfl) (by kernel_rfl) (by kernel_rfl) (by kernel_rfl) (by kernel_rfl) (by kernel_rfl) (by kernel_rfl) (by decide) ?htlg ?hfrg (Only.refl _ _) (fun _ _ _ h k => h.trans k (fun _ hx => .inl hx)) ?stabg ?stepsg ?doneg
  case htlg => simp only [List.drop_succ_cons, List.drop_zero]; rfl
  case hfrg => intro vals; simp only [putAll, dstAt, Act.put, List.getElem?_toArray, List.getElem?_cons_zero, List.getElem?_cons_succ, Option.bind_some, List.setIfInBounds_toArray, List.set_cons_zero, List.set_cons_succ]; rfl
  case stabg =>
    intro i v wa wb h
    try dsimp only
    split <;> first | exact id | (rintro ⟨b, h1, h2⟩; exact ⟨b, h1, h.blk h2 (by simp)⟩)
  case stepsg =>
    refine ⟨?_, ?_, ?_, ?_, ?_, ?_, ?_, ?_, ?_, ?_, ?_, ?_, ?_, ?_, ?_, ?_, ?_, ?_, ?_, ?_, ?_, ?_, trivial⟩
    · intro vals wr hR hp K hK
      dsimp only at hK ⊢
      clear hp
      unfold RunsOp
      go_simp
      exact hK.out _ _ ⟨_, rfl, Only.refl _ _, rfl⟩
    · intro vals wr hR hp K hK
      dsimp only at hK ⊢
      obtain ⟨p0, -⟩ := hp
      replace p0 := p0 rfl
      dsimp only at p0
      rw [p0] at hK ⊢
      clear p0
      unfold RunsOp
      have tg := (hR.blk (Blk.drew HBX.out) (by simp)).facts4
      obtain ⟨z0, z1, z2, z3, zl⟩ := tg
      go_simp
      exact hK.out _ _ ⟨_, rfl, Only.refl _ _, rfl⟩
    · intro vals wr hR hp K hK
      dsimp only at hK ⊢
      clear hp
      unfold RunsOp
      go_simp
      exact hK.out _ _ ⟨_, rfl, Only.refl _ _, rfl⟩
    · intro vals wr hR hp K hK
      dsimp only at hK ⊢
      obtain ⟨p2, -⟩ := hp
      replace p2 := p2 rfl
      dsimp only at p2
      rw [p2] at hK ⊢
      clear p2
      unfold RunsOp
      have tg := (hR.blk (Blk.drew HBY.out) (by simp)).facts4
      obtain ⟨z0, z1, z2, z3, zl⟩ := tg
      go_simp
      exact hK.out _ _ ⟨_, rfl, Only.refl _ _, rfl⟩
    · intro vals wr hR hp K hK
      dsimp only at hK ⊢
      obtain ⟨p1, p3, -⟩ := hp
      replace p1 := p1 rfl
      replace p3 := p3 rfl
      dsimp only at p1 p3
      rw [p1, p3] at hK ⊢
      clear p1 p3
      unfold RunsOp
      have C := cmpint_any k k2 wr
      rw [HC0.out] at C
      go_simp
      refine C.mono ?_
      rintro e' w2 ⟨rfl, o2⟩
      exact hK.out _ _ ⟨_, rfl, o2, rfl⟩
    · intro vals wr hR hp K hK
      dsimp only at hK ⊢
      clear hp
      unfold RunsOp
      go_simp
      exact hK.out _ _ ⟨_, rfl, Only.refl _ _, rfl⟩
    · intro vals wr hR hp K hK
      dsimp only at hK ⊢
      obtain ⟨p5, -⟩ := hp
      replace p5 := p5 rfl
      dsimp only at p5
      rw [p5] at hK ⊢
      clear p5
      unfold RunsOp
      have tg := (hR.blk (Blk.drew HBX.out) (by simp)).facts4
      obtain ⟨z0, z1, z2, z3, zl⟩ := tg
      go_simp
      exact hK.out _ _ ⟨_, rfl, Only.refl _ _, rfl⟩
    · intro vals wr hR hp K hK
      dsimp only at hK ⊢
      clear hp
      unfold RunsOp
      go_simp
      exact hK.out _ _ ⟨_, rfl, Only.refl _ _, rfl⟩
    · intro vals wr hR hp K hK
      dsimp only at hK ⊢
      obtain ⟨p7, -⟩ := hp
      replace p7 := p7 rfl
      dsimp only at p7
      rw [p7] at hK ⊢
      clear p7
      unfold RunsOp
      have tg := (hR.blk (Blk.drew HBY.out) (by simp)).facts4
      obtain ⟨z0, z1, z2, z3, zl⟩ := tg
      go_simp
      exact hK.out _ _ ⟨_, rfl, Only.refl _ _, rfl⟩
    · intro vals wr hR hp K hK
      dsimp only at hK ⊢
      obtain ⟨p6, p8, -, -⟩ := hp
      replace p6 := p6 rfl
      replace p8 := p8 rfl
      dsimp only at p6 p8
      rw [p6, p8] at hK ⊢
      clear p6 p8
      unfold RunsOp
      have C := cmpint_any n n2 wr
      rw [HC1.out] at C
      go_simp
      refine C.mono ?_
      rintro e' w2 ⟨rfl, o2⟩
      exact hK.out _ _ ⟨_, rfl, o2, rfl⟩
    · intro vals wr hR hp K hK
      dsimp only at hK ⊢
      clear hp
      unfold RunsOp
      go_simp
      exact hK.out _ _ ⟨_, rfl, Only.refl _ _, rfl⟩
    · intro vals wr hR hp K hK
      dsimp only at hK ⊢
      obtain ⟨p10, -⟩ := hp
      replace p10 := p10 rfl
      dsimp only at p10
      rw [p10] at hK ⊢
      clear p10
      unfold RunsOp
      have tg := (hR.blk (Blk.drew HBX.out) (by simp)).facts4
      obtain ⟨z0, z1, z2, z3, zl⟩ := tg
      go_simp
      exact hK.out _ _ ⟨_, rfl, Only.refl _ _, rfl⟩
    · intro vals wr hR hp K hK
      dsimp only at hK ⊢
      clear hp
      unfold RunsOp
      go_simp
      exact hK.out _ _ ⟨_, rfl, Only.refl _ _, rfl⟩
    · intro vals wr hR hp K hK
      dsimp only at hK ⊢
      obtain ⟨p12, -⟩ := hp
      replace p12 := p12 rfl
      dsimp only at p12
      rw [p12] at hK ⊢
      clear p12
      unfold RunsOp
      have tg := (hR.blk (Blk.drew HBY.out) (by simp)).facts4
      obtain ⟨z0, z1, z2, z3, zl⟩ := tg
      go_simp
      exact hK.out _ _ ⟨_, rfl, Only.refl _ _, rfl⟩
    · intro vals wr hR hp K hK
      dsimp only at hK ⊢
      obtain ⟨p11, p13, -, -⟩ := hp
      replace p11 := p11 rfl
      replace p13 := p13 rfl
      dsimp only at p11 p13
      rw [p11, p13] at hK ⊢
      clear p11 p13
      unfold RunsOp
      have C := cmpstr_any s s2 wr
      rw [HC2.out] at C
      go_simp
      refine C.mono ?_
      rintro e' w2 ⟨rfl, o2⟩
      exact hK.out _ _ ⟨_, rfl, o2, rfl⟩
    · intro vals wr hR hp K hK
      dsimp only at hK ⊢
      clear hp
      unfold RunsOp
      go_simp
      exact hK.out _ _ ⟨_, rfl, Only.refl _ _, rfl⟩
    · intro vals wr hR hp K hK
      dsimp only at hK ⊢
      obtain ⟨p15, -⟩ := hp
      replace p15 := p15 rfl
      dsimp only at p15
      rw [p15] at hK ⊢
      clear p15
      unfold RunsOp
      have tg := (hR.blk (Blk.drew HBX.out) (by simp)).facts4
      obtain ⟨z0, z1, z2, z3, zl⟩ := tg
      go_simp
      exact hK.out _ _ ⟨_, rfl, Only.refl _ _, rfl⟩
    · intro vals wr hR hp K hK
      dsimp only at hK ⊢
      clear hp
      unfold RunsOp
      go_simp
      exact hK.out _ _ ⟨_, rfl, Only.refl _ _, rfl⟩
    · intro vals wr hR hp K hK
      dsimp only at hK ⊢
      obtain ⟨p17, -⟩ := hp
      replace p17 := p17 rfl
      dsimp only at p17
      rw [p17] at hK ⊢
      clear p17
      unfold RunsOp
      have tg := (hR.blk (Blk.drew HBY.out) (by simp)).facts4
      obtain ⟨z0, z1, z2, z3, zl⟩ := tg
      go_simp
      exact hK.out _ _ ⟨_, rfl, Only.refl _ _, rfl⟩
    · intro vals wr hR hp K hK
      dsimp only at hK ⊢
      obtain ⟨p16, p18, -, -⟩ := hp
      replace p16 := p16 rfl
      replace p18 := p18 rfl
      dsimp only at p16 p18
      rw [p16, p18] at hK ⊢
      clear p16 p18
      unfold RunsOp
      go_simp
      refine (HC.out _ (HO.out.trans ((Only.refl [] w1).drew.trans hR (by simp)) (by simp))).mono ?_
      rintro e' w2 ⟨rfl, o2⟩
      exact hK.out _ _ ⟨_, rfl, o2, rfl⟩
    · intro vals wr hR hp K hK
      dsimp only at hK ⊢
      obtain ⟨p4, p9, p14, p19, -⟩ := hp
      replace p4 := p4 rfl
      replace p9 := p9 rfl
      replace p14 := p14 rfl
      replace p19 := p19 rfl
      dsimp only at p4 p9 p14 p19
      rw [p4, p9, p14, p19] at hK ⊢
      clear p4 p9 p14 p19
      unfold RunsOp
      have tz := Blk.new wr 3 #[.int .i64 c0, .int .i64 c1, .int .i64 c2, .int .i64 c3]
      go_simp
      exact hK.out _ _ ⟨_, rfl, (Only.refl [] wr).alloc _, _, rfl, tz⟩
    · intro vals wr hR hp K hK
      dsimp only at hK ⊢
      obtain ⟨p20, -, -⟩ := hp
      replace p20 := p20 rfl
      dsimp only at p20
      obtain ⟨b20, p20, hb20⟩ := p20
      rw [p20] at hK ⊢
      clear p20
      unfold RunsOp
      have tb := hb20.facts4
      go_simp
      refine (or_any (L := [c0, c1, c2, c3]) (b := b20) (n := 4) (c := 4) (fun j x hj => by
        match j, hj with
        | 0, hj => cases hj; exact tb.1
        | 1, hj => cases hj; exact tb.2.1
        | 2, hj => cases hj; exact tb.2.2.1
        | 3, hj => cases hj; exact tb.2.2.2.1) tb.2.2.2.2 rfl (by omega)).mono ?_
      rintro e' w2 ⟨rfl, o2⟩
      exact hK.out _ _ ⟨_, rfl, o2, rfl⟩
  case doneg =>
    intro vals wd hR hF
    have f0 : vals 0 = .pointer (some ⟨w.heap.size, 0, none⟩) := hF 0 (by decide)
    have f1 : vals 1 = .int .i64 k := hF 1 (by decide)
    have f2 : vals 2 = .pointer (some ⟨w.heap.size + 1, 0, none⟩) := hF 2 (by decide)
    have f3 : vals 3 = .int .i64 k2 := hF 3 (by decide)
    have f4 : (vals 4) = .int .i64 c0 := hF 4 (by decide)
    have f5 : vals 5 = .pointer (some ⟨w.heap.size, 1, none⟩) := hF 5 (by decide)
    have f6 : vals 6 = .int .i64 n := hF 6 (by decide)
    have f7 : vals 7 = .pointer (some ⟨w.heap.size + 1, 1, none⟩) := hF 7 (by decide)
    have f8 : vals 8 = .int .i64 n2 := hF 8 (by decide)
    have f9 : (vals 9) = .int .i64 c1 := hF 9 (by decide)
    have f10 : vals 10 = .pointer (some ⟨w.heap.size, 2, none⟩) := hF 10 (by decide)
    have f11 : vals 11 = .string s := hF 11 (by decide)
    have f12 : vals 12 = .pointer (some ⟨w.heap.size + 1, 2, none⟩) := hF 12 (by decide)
    have f13 : vals 13 = .string s2 := hF 13 (by decide)
    have f14 : (vals 14) = .int .i64 c2 := hF 14 (by decide)
    have f15 : vals 15 = .pointer (some ⟨w.heap.size, 3, none⟩) := hF 15 (by decide)
    have f16 : vals 16 = .slice A l.length cap := hF 16 (by decide)
    have f17 : vals 17 = .pointer (some ⟨w.heap.size + 1, 3, none⟩) := hF 17 (by decide)
    have f18 : vals 18 = .slice A2 l2.length cap2 := hF 18 (by decide)
    have f19 : (vals 19) = .int .i64 c3 := hF 19 (by decide)
    have f20 : ∃ b, (vals 20) = .slice (some ⟨b, 0, none⟩) 4 4 ∧ Blk wd b 3 #[.int .i64 c0, .int .i64 c1, .int .i64 c2, .int .i64 c3] := hF 20 (by decide)
    have f21 : (vals 21) = .int .i64 (orL [c0, c1, c2, c3]) := hF 21 (by decide)
    rw [f0, f1, f2, f3, f5, f6, f7, f8, f10, f11, f12, f13, f15, f16, f17, f18]
    clear f0 f1 f2 f3 f5 f6 f7 f8 f10 f11 f12 f13 f15 f16 f17 f18
    rw [f4, f9, f14, f19, f21]
    clear f4 f9 f14 f19 f21
    have HO5 := Lib.hid (HO.out.trans ((Only.refl [] w1).drew.trans hR (by simp)) (by simp))
    obtain ⟨bs, f20, -⟩ := f20
    rw [f20]
    clear f20 hR hF
    gi_wp2_with (fail)
    go_wp2_with (fail)
    go_ret
    exact ⟨by rw [HRES.out]; rfl, HO5.out⟩
def rcmp (a b : Vt) : Int := if a.ok 3 = true ∧ b.ok 3 = true then a.cmp b else 0
set_option maxHeartbeats 4000000 in
theorem cmp_any (a b : Vx) (w : World) (hLa : LiesV w a) (hLb : LiesV w b) :
    Calls Tryd.prog 31 #[a.val, b.val] w fun r w' => r = .returned (.int .i64 (rcmp a.tr b.tr)) ∧ Only [] w w' := by
  have HT1 := Lib.hid (fun (W : World) (o : Only [] w W) => topV (hLa.keep o))
  have HT2 := Lib.hid (fun (W : World) (o : Only [] w W) => topV (hLb.keep o))
  have HOR := Lib.hid (fun (W : World) (o : Only [] w W) => order_any a b W (hLa.keep o) (hLb.keep o))
  obtain ⟨z, hz⟩ : ∃ z, a.tr.cmp b.tr = z := ⟨_, rfl⟩
  obtain ⟨pa, hpa⟩ : ∃ p, a.tr.ok 3 = p := ⟨_, rfl⟩
  obtain ⟨pb, hpb⟩ : ∃ p, b.tr.ok 3 = p := ⟨_, rfl⟩
  obtain ⟨q, hq⟩ : ∃ q, rcmp a.tr b.tr = q := ⟨_, rfl⟩
  have HV := Lib.hid (show q = if pa = true ∧ pb = true then z else 0 by rw [← hq]; unfold rcmp; rw [hpa, hpb, hz])
  rw [hq]
  rw [hpa] at HT1
  rw [hpb] at HT2
  rw [hz] at HOR
  clear hz hpa hpb hLa hLb hq
  obtain ⟨k, n, s, A, cap, l⟩ := a
  obtain ⟨k2, n2, s2, A2, cap2, l2⟩ := b
  have hbx := Blk.new w 34 #[.int .i64 k, .int .i64 n, .string s, .slice A l.length cap]
  have o0 : Only [] w (w.alloc (.cells #[.int .i64 k, .int .i64 n, .string s, .slice A l.length cap] 34)) := (Only.refl _ _).alloc _
  have hs1 : (w.alloc (.cells #[.int .i64 k, .int .i64 n, .string s, .slice A l.length cap] 34)).heap.size = w.heap.size + 1 := by simp
  have hby := Blk.new (w.alloc (.cells #[.int .i64 k, .int .i64 n, .string s, .slice A l.length cap] 34)) 34 #[.int .i64 k2, .int .i64 n2, .string s2, .slice A2 l2.length cap2]
  rw [hs1] at hby
  have o1 : Only [] (w.alloc (.cells #[.int .i64 k, .int .i64 n, .string s, .slice A l.length cap] 34)) ((w.alloc (.cells #[.int .i64 k, .int .i64 n, .string s, .slice A l.length cap] 34)).alloc (.cells #[.int .i64 k2, .int .i64 n2, .string s2, .slice A2 l2.length cap2] 34)) := (Only.refl _ _).alloc _
  have HBX := Lib.hid (o1.blk hbx (by simp))
  have HBY := Lib.hid hby
  have HO := Lib.hid (o0.trans o1 (by simp))
  have H1 := Lib.hid (show ∀ W, Only [] w W → Calls Tryd.prog 21 #[.agg #[.int .i64 k, .int .i64 n, .string s, .slice A l.length cap]] W _ from HT1.out)
  have H2 := Lib.hid (show ∀ W, Only [] w W → Calls Tryd.prog 21 #[.agg #[.int .i64 k2, .int .i64 n2, .string s2, .slice A2 l2.length cap2]] W _ from HT2.out)
  have H3 := Lib.hid (show ∀ W, Only [] w W → Calls Tryd.prog 47 #[.agg #[.int .i64 k, .int .i64 n, .string s, .slice A l.length cap], .agg #[.int .i64 k2, .int .i64 n2, .string s2, .slice A2 l2.length cap2]] W _ from HOR.out)
  obtain ⟨b0, b1, b2, b3, bl⟩ := HBX.out.facts4
  obtain ⟨d0, d1, d2, d3, dl⟩ := HBY.out.facts4
  clear hbx hby o0 o1 hs1 HT1 HT2 HOR
  show Calls Tryd.prog 31 #[.agg #[.int .i64 k, .int .i64 n, .string s, .slice A l.length cap], .agg #[.int .i64 k2, .int .i64 n2, .string s2, .slice A2 l2.length cap2]] w _
  go_enter Tryd.func31, Tryd.ntmps31
  go_wp2_with (fail)
  refine (H1.out _ HO.out).mono ?_
  rintro e w2 ⟨rfl, o2⟩
  have HO2 := Lib.hid (HO.out.trans o2 (by simp))
  have HBX2 := Lib.hid (o2.blk HBX.out (by simp))
  have HBY2 := Lib.hid (o2.blk HBY.out (by simp))
  clear o2 b0 b1 b2 b3 bl d0 d1 d2 d3 dl HBX HBY
  obtain ⟨b0, b1, b2, b3, bl⟩ := HBX2.out.facts4
  obtain ⟨d0, d1, d2, d3, dl⟩ := HBY2.out.facts4
  cases pa with
  | false =>
    go_wp2_with (fail)
    go_ret
    exact ⟨by have h := HV.out; simp at h; rw [h]; rfl, HO2.out⟩
  | true =>
    go_wp2_with (fail)
    refine (H2.out _ HO2.out).mono ?_
    rintro e w3 ⟨rfl, o3⟩
    have HO3 := Lib.hid (HO2.out.trans o3 (by simp))
    have HBX3 := Lib.hid (o3.blk HBX2.out (by simp))
    have HBY3 := Lib.hid (o3.blk HBY2.out (by simp))
    clear o3 b0 b1 b2 b3 bl d0 d1 d2 d3 dl HBX2 HBY2
    obtain ⟨b0, b1, b2, b3, bl⟩ := HBX3.out.facts4
    obtain ⟨d0, d1, d2, d3, dl⟩ := HBY3.out.facts4
    cases pb with
    | false =>
      go_wp2_with (fail)
      go_ret
      exact ⟨by have h := HV.out; simp at h; rw [h]; rfl, HO3.out⟩
    | true =>
      go_wp2_with (fail)
      refine (H3.out _ HO3.out).mono ?_
      rintro e w4 ⟨rfl, o4⟩
      have HO4 := Lib.hid (HO3.out.trans o4 (by simp))
      clear o4 b0 b1 b2 b3 bl d0 d1 d2 d3 dl
      go_wp2_with (fail)
      go_ret
      exact ⟨by have h := HV.out; simp at h; rw [h]; rfl, HO4.out⟩
end Go.Proofs.YtgpljjejfebhoaaDoor
