/- Right, TypeRight: the program's and the document's. -/
import Derived.Test.YtfnacnlaphpflaaDoorTTree
namespace Go.Proofs.YtfnacnlaphpflaaDoor
open Go.RowKit Go.Kx Go.Val
set_option maxRecDepth 100000
theorem okTx (k : Int) (A : Option Addr) (cap : Nat) (l : List Tx) (r : Nat) : (Tx.mk k A cap l).tr.ok r = (okK k l.length r && l.all fun x => x.tr.ok (r - 1)) := by
  rw [Tx.tr_mk, Tt.ok_mk, List.length_map, List.all_map]
  rfl
def itemsB {α : Type} (p : α → Bool) (l : List α) : Bool := decide (1 ≤ l.length) && decide (l.length ≤ 4) && l.all p
set_option maxHeartbeats 4000000 in
theorem itemsT (f : Nat) (lb : Array Value) (p : Tx → Bool) (eg : ∀ args w, (callFunc f args).run Tryd.prog w = .ok (.enter f args) w) {A : Option Addr} {cap : Nat} {l : List Tx} {w : World} (hR : RowLT w A l)
    (hf : ∀ a ∈ l, ∀ w', Only [] w w' → LiesT w' a → Calls Tryd.prog f (#[a.val] ++ lb) w' fun r w'' => r = .returned (.bool (p a)) ∧ Only [] w' w'') :
    Calls Tryd.prog 104 #[.slice A l.length cap, .func (.func f) #[] lb] w fun r w' => r = .returned (.bool (itemsB p l)) ∧ Only [] w w' := by
  have hlen := hR.len
  by_cases h1 : 1 ≤ l.length
  · by_cases h4 : l.length ≤ 4
    · have HI := Lib.hid (show itemsB p l = l.all p by unfold itemsB; rw [decide_eq_true h1, decide_eq_true h4]; rfl)
      have d1 : decide ((l.length : Int) < 1) = false := decide_eq_false (by omega)
      have d2 : decide ((4 : Int) < (l.length : Int)) = false := decide_eq_false (by omega)
      have d3 : ¬ l.length = 0 := by omega
      have HR := Lib.hid hR
      have HF := Lib.hid hf
      clear hR hf
      go_enter Tryd.func104, Tryd.ntmps104
      go_wp2_with (fail)
      go_loopw [17] (fun i wr => ∃ k : Nat, i = .int .i64 k ∧ k ≤ l.length ∧ Hid ((l.take k).all p = true) ∧ Hid (Only [] w wr)) (fun i _ => l.length - (intOf i).toNat)
      case atStart => exact ⟨0, rfl, Nat.zero_le _, Lib.hid (by simp), Lib.hid (Only.refl _ _)⟩
      case round =>
        obtain ⟨k, rfl, hk, HP, HOr⟩ := hrel
        by_cases hlt : k < l.length
        · obtain ⟨e, he⟩ : ∃ e, l[k]? = some e := ⟨_, List.getElem?_eq_getElem hlt⟩
          have hmem : e ∈ l := List.mem_of_getElem? he
          have HLe := Lib.hid ((HR.out.sub e hmem).keep HOr.out)
          have hcall := HF.out e hmem
          have HTK := Lib.hid (show (l.take (k + 1)).all p = ((l.take k).all p && p e) from by rw [List.take_add_one, he, List.all_append]; simp)
          have HBAD := Lib.hid (show p e = false → l.all p = false from fun h => by rw [List.all_eq_false]; exact ⟨e, hmem, by rw [h]; decide⟩)
          obtain ⟨xk, xA, xcap, xl⟩ := e
          obtain ⟨b, o, rfl, hb, c0, c1⟩ := ((HR.out.row k _ he).only HOr.out (by simp)).cells
          obtain ⟨pe, hpe⟩ : ∃ pe, p (.mk xk xA xcap xl) = pe := ⟨_, rfl⟩
          rw [hpe] at hcall HTK HBAD
          have HCA := Lib.hid (show ∀ w', Only [] w w' → LiesT w' (.mk xk xA xcap xl) → Calls Tryd.prog f (#[.agg #[.int .i64 xk, .slice xA xl.length xcap]] ++ lb) w' fun r w'' => r = .returned (.bool pe) ∧ Only [] w' w'' from hcall)
          have oA : Only [] wr (wr.alloc (.cells #[.int .i64 xk, .slice xA xl.length xcap] 93)) := (Only.refl _ _).alloc _
          have HOA := Lib.hid oA
          clear he hmem hcall hpe oA
          go_wp2_with (fail)
          refine (HCA.out _ (HOr.out.trans HOA.out (by simp)) (HLe.out.keep HOA.out)).mono ?_
          rintro r w3 ⟨rfl, o3⟩
          have HO3 := Lib.hid ((HOr.out.trans HOA.out (by simp)).trans o3 (by simp))
          clear o3 c0 c1
          cases pe with
          | true =>
            go_wp2_with (fail)
            go_roundw
            case rel => exact ⟨k + 1, by go_num, by omega, Lib.hid (by rw [HTK.out, HP.out]; rfl), HO3⟩
            case measure => simp [intOf]; omega
          | false =>
            go_wp2_with (fail)
            go_ret
            exact ⟨by rw [HI.out, show l.all p = false from HBAD.out (by first | rfl | trivial)]; rfl, HO3.out⟩
        · obtain rfl : k = l.length := by omega
          go_wp2_with (fail)
          go_ret
          exact ⟨by have := HP.out; rw [List.take_length] at this; rw [HI.out, this]; rfl, HOr.out⟩
    · have HI := Lib.hid (show itemsB p l = false by unfold itemsB; rw [decide_eq_false h4]; simp)
      have d1 : decide ((l.length : Int) < 1) = false := decide_eq_false (by omega)
      have d2 : decide ((4 : Int) < (l.length : Int)) = true := decide_eq_true (by omega)
      have d3 : ¬ l.length = 0 := by omega
      have d4 : 4 < l.length := by omega
      clear hR hf
      go_enter Tryd.func104, Tryd.ntmps104
      go_wp2_with (fail)
      go_ret
      exact ⟨by rw [HI.out]; rfl, Only.refl _ _⟩
  · have h0 : l.length = 0 := by omega
    have HI := Lib.hid (show itemsB p l = false by unfold itemsB; rw [decide_eq_false h1]; rfl)
    clear hR hf
    rw [h0]
    go_enter Tryd.func104, Tryd.ntmps104
    go_wp2_with (fail)
    go_ret
    exact ⟨by rw [HI.out]; rfl, Only.refl _ _⟩
theorem eg50 : ∀ args w, (callFunc 105 args).run Tryd.prog w = .ok (.enter 105 args) w := enters Tryd.func105 (by kernel_rfl) rfl
theorem cloT {e : Tx} {w : World} {rb r : Nat} (hr : 1 ≤ r) (hr3 : r ≤ 3) (hb : Blk w rb 3 #[.int .i64 r]) (hc : ∀ w', Only [] w w' → Calls Tryd.prog 100 #[e.val, .int .i64 (r - 1 : Nat)] w' fun x w'' => x = .returned (.bool (e.tr.ok (r - 1))) ∧ Only [] w' w'') :
    Calls Tryd.prog 105 #[e.val, .pointer (some ⟨rb, 0, none⟩)] w fun x w' => x = .returned (.bool (e.tr.ok (r - 1))) ∧ Only [] w w' := by
  obtain ⟨k, A, cap, l⟩ := e
  obtain ⟨bk, hbk⟩ : ∃ bk, (Tx.mk k A cap l).tr.ok (r - 1) = bk := ⟨_, rfl⟩
  rw [hbk] at hc ⊢
  rw [show ((r - 1 : Nat) : Int) = (r : Int) - 1 by omega] at hc
  have HC := Lib.hid (show ∀ w', Only [] w w' → Calls Tryd.prog 100 #[.agg #[.int .i64 k, .slice A l.length cap], .int .i64 ((r : Int) - 1)] w' _ from hc)
  obtain ⟨r0, rl⟩ := hb.facts1
  have o0 : Only [] w (w.alloc (.cells #[.int .i64 k, .slice A l.length cap] 93)) := (Only.refl _ _).alloc _
  have HO := Lib.hid o0
  have r1 : (1 : Int) ≤ (r : Int) := by omega
  have r3 : (r : Int) ≤ 3 := by omega
  clear hc hb hbk o0
  show Calls Tryd.prog 105 #[.agg #[.int .i64 k, .slice A l.length cap], .pointer (some ⟨rb, 0, none⟩)] w _
  go_enter Tryd.func105, Tryd.ntmps105
  go_wp2_with (fail)
  refine (HC.out _ HO.out).mono ?_
  rintro e w2 ⟨rfl, o2⟩
  have HO2 := Lib.hid (HO.out.trans o2 (by simp))
  clear o2 r0 rl
  go_wp2_with (fail)
  go_ret
  exact ⟨rfl, HO2.out⟩
set_option maxHeartbeats 4000000 in
theorem rightT : ∀ (e : Tx) (w : World), LiesT w e → ∀ r : Nat, r ≤ 3 → Calls Tryd.prog 100 #[e.val, .int .i64 (r : Nat)] w fun x w' => x = .returned (.bool (e.tr.ok r)) ∧ Only [] w w' := by
  refine Tx.ind (fun e ih => ?_)
  intro w hL r hr
  obtain ⟨k, A, cap, l⟩ := e
  have HH := Lib.hid hL.inv.1
  have HLN := Lib.hid hL.inv.2.1
  have HOKX := Lib.hid (okTx k A cap l r)
  have q0 : Blk ((w.alloc (.cells #[.int .i64 k, .slice A l.length cap] 93)).alloc (.cells #[.int .i64 (r : Nat)] 3)) w.heap.size 93 #[.int .i64 k, .slice A l.length cap] := (Blk.new w _ _).alloc _
  have q1 : Blk ((w.alloc (.cells #[.int .i64 k, .slice A l.length cap] 93)).alloc (.cells #[.int .i64 (r : Nat)] 3)) (w.heap.size + 1) 3 #[.int .i64 (r : Nat)] := by
    have h := Blk.new (w.alloc (.cells #[.int .i64 k, .slice A l.length cap] 93)) 3 #[.int .i64 (r : Nat)]
    rw [World.size_alloc] at h
    exact h
  have o0 : Only [] w ((w.alloc (.cells #[.int .i64 k, .slice A l.length cap] 93)).alloc (.cells #[.int .i64 (r : Nat)] 3)) := ((Only.refl _ _).alloc _).alloc _
  have HO := Lib.hid o0
  have HR := Lib.hid (hL.rowL.keep o0)
  have HQ1 := Lib.hid q1
  have HI := Lib.hid ih
  show Calls Tryd.prog 100 #[.agg #[.int .i64 k, .slice A l.length cap], .int .i64 (r : Nat)] w _
  clear hL ih q0 q1 o0
  by_cases h012 : k = 0 ∨ k = 1 ∨ k = 2
  · have HE := Lib.hid (show (okK k l.length r && l.all fun x => x.tr.ok (r - 1)) = (l.length == 0) by
      unfold okK
      rw [if_pos h012]
      by_cases h0 : l.length = 0
      · rw [List.length_eq_zero_iff.1 h0]; rfl
      · rw [beq_eq_false_iff_ne.2 h0]; rfl)
    have HLB := Lib.hid (show ((l.length : Int) == 0) = (l.length == 0) by
      by_cases h0 : l.length = 0
      · rw [h0]; rfl
      · rw [beq_eq_false_iff_ne.2 h0]; exact beq_eq_false_iff_ne.2 (by omega))
    rcases h012 with rfl | rfl | rfl
    all_goals
      go_enter Tryd.func100, Tryd.ntmps100
      go_wp2_with (fail)
      go_ret
      exact ⟨by rw [HOKX.out, HE.out]; first | rfl | (rw [← HLB.out]; rfl), HO.out⟩
  · by_cases h3 : k = 3
    · subst h3
      by_cases hr0 : r = 0
      · subst hr0
        have HE := Lib.hid (show (okK 3 l.length 0 && l.all fun x => x.tr.ok (0 - 1)) = false by simp [okK])
        go_enter Tryd.func100, Tryd.ntmps100
        go_wp2_with (fail)
        go_ret
        exact ⟨by rw [HOKX.out, HE.out]; rfl, HO.out⟩
      · have hr1 : (0 : Int) < (r : Int) := by omega
        have hr2 : 0 < r := by omega
        have HE := Lib.hid (show (okK 3 l.length r && l.all fun x => x.tr.ok (r - 1)) = itemsB (fun x => x.tr.ok (r - 1)) l by
          unfold itemsB
          simp [okK, hr2])
        go_enter Tryd.func100, Tryd.ntmps100
        go_wp2_with (fail)
        refine (itemsT 105 #[.pointer (some ⟨w.heap.size + 1, 0, none⟩)] (fun x => x.tr.ok (r - 1)) eg50 HR.out (fun a ha w' o hl => cloT (by omega) hr (o.blk HQ1.out (by simp)) (fun w'' o2 => HI.out a (by simpa [Tx.l] using ha) w'' (hl.keep o2) (r - 1) (by omega)))).mono ?_
        rintro e w2 ⟨rfl, o2⟩
        have HO2 := Lib.hid (HO.out.trans o2 (by simp))
        clear o2
        go_wp2_with (fail)
        go_ret
        exact ⟨by rw [HOKX.out, HE.out]; rfl, HO2.out⟩
    · have e0 : (k == 0) = false := beq_eq_false_iff_ne.2 (by omega)
      have e1 : (k == 1) = false := beq_eq_false_iff_ne.2 (by omega)
      have e2 : (k == 2) = false := beq_eq_false_iff_ne.2 (by omega)
      have e3 : (k == 3) = false := beq_eq_false_iff_ne.2 (by omega)
      have HE := Lib.hid (show (okK k l.length r && l.all fun x => x.tr.ok (r - 1)) = false by unfold okK; rw [if_neg h012, if_neg h3]; rfl)
      clear h012
      go_enter Tryd.func100, Tryd.ntmps100
      go_wp2_with (fail)
      go_ret
      exact ⟨by rw [HOKX.out, HE.out]; rfl, HO.out⟩
theorem topT {e : Tx} {w : World} (hL : LiesT w e) : Calls Tryd.prog 86 #[e.val] w fun x w' => x = .returned (.bool (e.tr.ok 3)) ∧ Only [] w w' := by
  have hc := fun w' (o : Only [] w w') => rightT e w' (hL.keep o) 3 (by omega)
  obtain ⟨bk, hbk⟩ : ∃ bk, e.tr.ok 3 = bk := ⟨_, rfl⟩
  rw [hbk] at hc ⊢
  clear hbk hL
  obtain ⟨k, A, cap, l⟩ := e
  have HC := Lib.hid (show ∀ w', Only [] w w' → Calls Tryd.prog 100 #[.agg #[.int .i64 k, .slice A l.length cap], .int .i64 3] w' _ from hc)
  have o0 : Only [] w (w.alloc (.cells #[.int .i64 k, .slice A l.length cap] 93)) := (Only.refl _ _).alloc _
  have HO := Lib.hid o0
  clear hc o0
  show Calls Tryd.prog 86 #[.agg #[.int .i64 k, .slice A l.length cap]] w _
  go_enter Tryd.func86, Tryd.ntmps86
  go_wp2_with (fail)
  refine (HC.out _ HO.out).mono ?_
  rintro e w2 ⟨rfl, o2⟩
  have HO2 := Lib.hid (HO.out.trans o2 (by simp))
  clear o2
  go_wp2_with (fail)
  go_ret
  exact ⟨rfl, HO2.out⟩
end Go.Proofs.YtfnacnlaphpflaaDoor
