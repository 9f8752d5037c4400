/- Values and types made anew: each, Copy, TypeOf. -/
import Derived.Test.YtgpljjejfebhoaaDoorMade
namespace Go.Proofs.YtgpljjejfebhoaaDoor
open Go.RowKit Go.Kx Go.Val
set_option maxRecDepth 100000
theorem eg23 : ∀ args w, (callFunc 23 args).run Tryd.prog w = .ok (.enter 23 args) w := enters Tryd.func23 (by kernel_rfl) rfl
theorem eg40 : ∀ args w, (callFunc 40 args).run Tryd.prog w = .ok (.enter 40 args) w := enters Tryd.func40 (by kernel_rfl) rfl
/-- of a size that can be copied -/
def Vx.sm : Vx → Bool
  | .mk _ _ _ _ _ l => decide (l.length ≤ 1048576) && (l.map Vx.sm).all id
theorem sm_mk {k n : Int} {s : ByteArray} {A : Option Addr} {cap : Nat} {l : List Vx} (h : (Vx.mk k n s A cap l).sm = true) : l.length ≤ 1048576 ∧ ∀ a ∈ l, a.sm = true := by
  rw [Vx.sm] at h
  simp only [Bool.and_eq_true, decide_eq_true_eq, List.all_eq_true, List.mem_map, id] at h
  exact ⟨h.1, fun a ha => h.2 _ ⟨a, ha, rfl⟩⟩
theorem sm_of {k n : Int} {s : ByteArray} {A : Option Addr} {cap : Nat} {l : List Vx} (h1 : l.length ≤ 1048576) (h2 : ∀ a ∈ l, a.sm = true) : (Vx.mk k n s A cap l).sm = true := by
  rw [Vx.sm]
  simp only [Bool.and_eq_true, decide_eq_true_eq, List.all_eq_true, List.mem_map, id]
  exact ⟨h1, fun x ⟨a, ha, e⟩ => e ▸ h2 a ha⟩
set_option maxHeartbeats 4000000 in
theorem copyV : ∀ (e : Vx) (w : World), LiesV w e → e.sm = true → Calls Tryd.prog 23 #[e.val] w fun r w' => ∃ e', r = .returned (Vx.val e') ∧ CpV w.heap.size w' e.tr e' ∧ Only [] w w' := by
  refine Vx.ind (fun e ih => ?_)
  intro w hL hs
  obtain ⟨k, n, s, A, cap, l⟩ := e
  have hi := hL.inv
  obtain ⟨hlen, hsm⟩ := sm_mk hs
  have o0 : Only [] w ((w.alloc (.cells #[.int .i64 k, .int .i64 n, .string s, .slice A l.length cap] 34)).alloc (.cells #[.int .i64 0, .int .i64 0, .string ⟨#[]⟩, .slice none 0 0] 34)) := ((Only.refl _ _).alloc _).alloc _
  have q0 : Blk ((w.alloc (.cells #[.int .i64 k, .int .i64 n, .string s, .slice A l.length cap] 34)).alloc (.cells #[.int .i64 0, .int .i64 0, .string ⟨#[]⟩, .slice none 0 0] 34)) w.heap.size 34 #[.int .i64 k, .int .i64 n, .string s, .slice A l.length cap] := (Blk.new w _ _).alloc _
  have q1 : Blk ((w.alloc (.cells #[.int .i64 k, .int .i64 n, .string s, .slice A l.length cap] 34)).alloc (.cells #[.int .i64 0, .int .i64 0, .string ⟨#[]⟩, .slice none 0 0] 34)) (w.heap.size + 1) 34 #[.int .i64 0, .int .i64 0, .string ⟨#[]⟩, .slice none 0 0] := by
    have := Blk.new (w.alloc (.cells #[.int .i64 k, .int .i64 n, .string s, .slice A l.length cap] 34)) 34 #[.int .i64 0, .int .i64 0, .string ⟨#[]⟩, .slice none 0 0]
    rw [World.size_alloc] at this
    exact this
  obtain ⟨b0, b1, b2, b3, bl⟩ := q0.facts4
  have HE := Lib.hid (fun W (o : Only [] _ W) => eachV 23 (fun x => x.tr) eg23 (cap := cap) ((hL.rowL.keep o0).keep o) hlen (fun a ha w' o hl => ih a (by simpa [Vx.l] using ha) w' hl (hsm a ha)))
  have HO := Lib.hid o0
  have HQ0 := Lib.hid q0
  have HQ1 := Lib.hid q1
  have HH := Lib.hid hi.1
  have HT := Lib.hid (Vx.tr_mk k n s A cap l)
  clear hL ih hi q0 q1 o0 hs hlen hsm
  show Calls Tryd.prog 23 #[.agg #[.int .i64 k, .int .i64 n, .string s, .slice A l.length cap]] w _
  go_enter Tryd.func23, Tryd.ntmps23
  go_wp2_with (fail)
  refine (HE.out _ (Only.refl _ _)).mono ?_
  rintro r w5 ⟨A', cap', es, rfl, hm, o5⟩
  have HM := Lib.hid (hm.low (B' := w.heap.size + 2) (by simp))
  have HO5 := Lib.hid (HO.out.trans o5 (by simp))
  clear hm b0 b1 b2 b3 bl
  have HQ5 := Lib.hid (o5.blk HQ0.out (by simp))
  have HR5 := Lib.hid (o5.blk HQ1.out (by simp))
  obtain ⟨b0, b1, b2, b3, bl⟩ := HQ5.out.facts4
  obtain ⟨r0, r1, r2, r3, rl⟩ := HR5.out.facts4
  have f3 := HQ5.out.frozen 3
  have g0 := HR5.out.frozen 0
  have g1 := HR5.out.frozen 1
  have g2 := HR5.out.frozen 2
  have g3 := HR5.out.frozen 3
  clear o5
  go_wp2_with (fail)
  have hb5 := ((((HR5.out.far (p := ⟨w.heap.size, 3, none⟩) (by simp) (.slice A' es.length cap')).set_ 0 (.int .i64 k)).set_ 1 (.int .i64 n)).set_ 2 (.string s)).set_ 3 (.slice A' es.length cap')
  obtain ⟨e0, e1, e2, e3, -⟩ := Blk.facts4 (a := .int .i64 k) (b := .int .i64 n) (c := .string s) (d := .slice A' es.length cap') hb5
  refine bodyPost_ret (v := .agg #[.int .i64 k, .int .i64 n, .string s, .slice A' es.length cap']) (by simp [results, Tryd.results23, go_sem, e0, e1, e2, e3]) rfl ?_
  clear e0 e1 e2 e3 hb5
  have o7 : Only [w.heap.size, w.heap.size + 1] w5 _ := (((((Only.refl _ w5).setCell (p := ⟨w.heap.size, 3, none⟩) (.inl (by simp)) (.slice A' es.length cap')).setCell (p := ⟨w.heap.size + 1, 0, none⟩) (.inl (by simp)) (.int .i64 k)).setCell (p := ⟨w.heap.size + 1, 1, none⟩) (.inl (by simp)) (.int .i64 n)).setCell (p := ⟨w.heap.size + 1, 2, none⟩) (.inl (by simp)) (.string s)).setCell (p := ⟨w.heap.size + 1, 3, none⟩) (.inl (by simp)) (.slice A' es.length cap')
  refine ⟨.mk k n s A' cap' es, rfl, ?_, HO5.out.trans o7 (fun b hb => .inr (by simp at hb; omega))⟩
  rw [HT.out]
  exact ((HM.out.only o7 (by simp)).cp (fk := k) (fn := n) (fs := s) HH.out cap').low (by omega)

theorem typeofV : ∀ (e : Vx) (w : World), LiesV w e → e.sm = true → Calls Tryd.prog 40 #[e.val] w fun r w' => ∃ e', r = .returned (Tx.val e') ∧ CpT w.heap.size w' e.tr.ty e' ∧ Only [] w w' := by
  refine Vx.ind (fun e ih => ?_)
  intro w hL hs
  obtain ⟨k, n, s, A, cap, l⟩ := e
  have hi := hL.inv
  obtain ⟨hlen, hsm⟩ := sm_mk hs
  have o0 : Only [] w ((w.alloc (.cells #[.int .i64 k, .int .i64 n, .string s, .slice A l.length cap] 34)).alloc (.cells #[.int .i64 0, .slice none 0 0] 26)) := ((Only.refl _ _).alloc _).alloc _
  have q0 : Blk ((w.alloc (.cells #[.int .i64 k, .int .i64 n, .string s, .slice A l.length cap] 34)).alloc (.cells #[.int .i64 0, .slice none 0 0] 26)) w.heap.size 34 #[.int .i64 k, .int .i64 n, .string s, .slice A l.length cap] := (Blk.new w _ _).alloc _
  have q1 : Blk ((w.alloc (.cells #[.int .i64 k, .int .i64 n, .string s, .slice A l.length cap] 34)).alloc (.cells #[.int .i64 0, .slice none 0 0] 26)) (w.heap.size + 1) 26 #[.int .i64 0, .slice none 0 0] := by
    have := Blk.new (w.alloc (.cells #[.int .i64 k, .int .i64 n, .string s, .slice A l.length cap] 34)) 26 #[.int .i64 0, .slice none 0 0]
    rw [World.size_alloc] at this
    exact this
  obtain ⟨b0, b1, b2, b3, bl⟩ := q0.facts4
  have HE := Lib.hid (fun W (o : Only [] _ W) => eachT 40 (fun x => x.tr.ty) eg40 (cap := cap) ((hL.rowL.keep o0).keep o) hlen (fun a ha w' o hl => ih a (by simpa [Vx.l] using ha) w' hl (hsm a ha)))
  have HO := Lib.hid o0
  have HQ0 := Lib.hid q0
  have HQ1 := Lib.hid q1
  have HH := Lib.hid hi.1
  have HT := Lib.hid (show (Vx.mk k n s A cap l).tr.ty = .mk k (l.map fun x => x.tr.ty) by rw [Vx.tr_mk, Vt.ty_mk, List.map_map]; rfl)
  clear hL ih hi q0 q1 o0 hs hlen hsm
  show Calls Tryd.prog 40 #[.agg #[.int .i64 k, .int .i64 n, .string s, .slice A l.length cap]] w _
  go_enter Tryd.func40, Tryd.ntmps40
  go_wp2_with (fail)
  go_region_held3 (fun w' => w'.cell? ⟨w.heap.size, 0, none⟩ = some (.int .i64 k) ∧ w'.cell? ⟨w.heap.size, 3, none⟩ = some (.slice A l.length cap)) (first | (go_keep; done) | (refine ⟨?_, ?_⟩ <;> (go_simp; done))) (first | (go_at_call 55; refine (HE.out _ (by first | exact (Only.refl [] _).drew | exact (Only.refl [] _).drewN _)).mono ?_; rintro r w5 ⟨A', cap', es, rfl, hm, o5⟩; have o6 := (show Only [] _ w5 from (by first | exact ((Only.refl [] _).drew.trans o5 (by simp)) | exact (((Only.refl [] _).drewN _).trans o5 (by simp)))); obtain ⟨b0, b1, b2, b3, bl⟩ := (o6.blk HQ0.out (by simp)).facts4; obtain ⟨r0, r1, rl⟩ := (o6.blk HQ1.out (by simp)).facts2; have g0 := (o6.blk HQ1.out (by simp)).frozen 0; have g1 := (o6.blk HQ1.out (by simp)).frozen 1; have HR5 := Lib.hid (o6.blk HQ1.out (by simp)); have HM := Lib.hid (hm.low (B' := w.heap.size + 2) (by simp)); have HO5 := Lib.hid (HO.out.trans o6 (by simp)); clear o5 o6 hm))
  go_wp2_with (fail)
  have hb5 := (HR5.out.set_ 0 (.int .i64 k)).set_ 1 (.slice A' es.length cap')
  obtain ⟨e0, e1, -⟩ := Blk.facts2 (a := .int .i64 k) (b := .slice A' es.length cap') hb5
  refine bodyPost_ret (v := .agg #[.int .i64 k, .slice A' es.length cap']) (by simp [results, Tryd.results40, go_sem, e0, e1]) rfl ?_
  clear e0 e1 hb5
  have o7 : Only [w.heap.size + 1] w5 _ := ((Only.refl _ w5).setCell (p := ⟨w.heap.size + 1, 0, none⟩) (.inl (by simp)) (.int .i64 k)).setCell (p := ⟨w.heap.size + 1, 1, none⟩) (.inl (by simp)) (.slice A' es.length cap')
  refine ⟨.mk k A' cap' es, rfl, ?_, HO5.out.trans o7 (fun b hb => .inr (by simp at hb; omega))⟩
  rw [HT.out]
  exact ((HM.out.only o7 (by simp)).cp (fk := k) HH.out.1 cap').low (by omega)
/-- the type of any value: none's, if it isn't right -/
def _root_.Go.Val.Vt.typ (v : Vt) : Tt := if v.ok 3 = true then v.ty else .mk 0 []
set_option maxHeartbeats 4000000 in
theorem totypeV {e : Vx} {w : World} (hL : LiesV w e) (hs : e.sm = true) : Calls Tryd.prog 24 #[e.val] w fun r w' => ∃ e', r = .returned (Tx.val e') ∧ CpT w.heap.size w' e.tr.typ e' ∧ Only [] w w' := by
  have hc := fun w' (o : Only [] w w') => topV (hL.keep o)
  obtain ⟨bk, hbk⟩ : ∃ bk, e.tr.ok 3 = bk := ⟨_, rfl⟩
  have hd : ∀ w', Only [] w w' → Calls Tryd.prog 40 #[e.val] w' fun r w'' => ∃ yk yA ycap yl, r = .returned (.agg #[.int .i64 yk, .slice yA (List.length yl) ycap]) ∧ CpT w'.heap.size w'' e.tr.ty (.mk yk yA ycap yl) ∧ Only [] w' w'' := fun w' o => (typeofV e w' (hL.keep o) hs).mono fun r w'' ⟨e', h1, h2, h3⟩ => by
    obtain ⟨yk, yA, ycap, yl⟩ := e'
    exact ⟨yk, yA, ycap, yl, h1, h2, h3⟩
  obtain ⟨t, ht⟩ : ∃ t, e.tr.typ = t := ⟨_, rfl⟩
  have HV := Lib.hid (show t = if bk = true then e.tr.ty else .mk 0 [] by rw [← ht]; unfold Vt.typ; rw [hbk])
  rw [hbk] at hc
  rw [ht]
  clear hbk hL ht hs
  obtain ⟨ty, hty⟩ : ∃ ty, e.tr.ty = ty := ⟨_, rfl⟩
  rw [hty] at hd HV
  clear hty
  obtain ⟨k, n, s, A, cap, l⟩ := e
  have HC := Lib.hid (show ∀ w', Only [] w w' → Calls Tryd.prog 21 #[.agg #[.int .i64 k, .int .i64 n, .string s, .slice A l.length cap]] w' _ from hc)
  have HD := Lib.hid (show ∀ w', Only [] w w' → Calls Tryd.prog 40 #[.agg #[.int .i64 k, .int .i64 n, .string s, .slice A l.length cap]] w' _ from hd)
  have q0 : Blk ((w.alloc (.cells #[.int .i64 k, .int .i64 n, .string s, .slice A l.length cap] 34)).alloc (.cells #[.int .i64 0, .slice none 0 0] 26)) w.heap.size 34 #[.int .i64 k, .int .i64 n, .string s, .slice A l.length cap] := (Blk.new w _ _).alloc _
  have q1 : Blk ((w.alloc (.cells #[.int .i64 k, .int .i64 n, .string s, .slice A l.length cap] 34)).alloc (.cells #[.int .i64 0, .slice none 0 0] 26)) (w.heap.size + 1) 26 #[.int .i64 0, .slice none 0 0] := by
    have := Blk.new (w.alloc (.cells #[.int .i64 k, .int .i64 n, .string s, .slice A l.length cap] 34)) 26 #[.int .i64 0, .slice none 0 0]
    rw [World.size_alloc] at this
    exact this
  have o0 : Only [] w ((w.alloc (.cells #[.int .i64 k, .int .i64 n, .string s, .slice A l.length cap] 34)).alloc (.cells #[.int .i64 0, .slice none 0 0] 26)) := ((Only.refl _ _).alloc _).alloc _
  have HO := Lib.hid o0
  have HQ := Lib.hid q0
  have HQ1 := Lib.hid q1
  obtain ⟨b0, b1, b2, b3, bl⟩ := q0.facts4
  clear hc hd o0 q0 q1
  show Calls Tryd.prog 24 #[.agg #[.int .i64 k, .int .i64 n, .string s, .slice A l.length cap]] w _
  go_enter Tryd.func24, Tryd.ntmps24
  go_wp2_with (fail)
  refine (HC.out _ HO.out).mono ?_
  rintro e w2 ⟨rfl, o2⟩
  have HO2 := Lib.hid (HO.out.trans o2 (by simp))
  have HQ2 := Lib.hid (o2.blk HQ.out (by simp))
  have HR2 := Lib.hid (o2.blk HQ1.out (by simp))
  clear o2 b0 b1 b2 b3 bl
  obtain ⟨b0, b1, b2, b3, bl⟩ := HQ2.out.facts4
  cases bk with
  | false =>
    have h := HV.out
    simp at h
    subst h
    clear HV
    obtain ⟨r0, r1, rl⟩ := HR2.out.facts2
    have g0 := HR2.out.frozen 0
    have g1 := HR2.out.frozen 1
    go_wp2_with (fail)
    have hb5 := (HR2.out.set_ 0 (.int .i64 0)).set_ 1 (.slice none 0 0)
    obtain ⟨e0, e1, -⟩ := Blk.facts2 (a := .int .i64 0) (b := .slice none 0 0) hb5
    refine bodyPost_ret (v := .agg #[.int .i64 0, .slice none 0 0]) (by simp [results, Tryd.results24, go_sem, e0, e1]) rfl ?_
    have o7 : Only [w.heap.size + 1] w2 _ := ((Only.refl _ w2).setCell (p := ⟨w.heap.size + 1, 0, none⟩) (.inl (by simp)) (.int .i64 0)).setCell (p := ⟨w.heap.size + 1, 1, none⟩) (.inl (by simp)) (.slice none 0 0)
    exact ⟨.mk 0 none 0 [], rfl, ⟨by rw [Tx.tr_mk]; rfl, .mk ⟨by omega, by omega⟩ (by simp) (fun i e h => by simp at h) (fun e h => by simp at h), by simp [Tx.blks], by simp [Tx.blks]⟩, HO2.out.trans o7 (fun b hb => .inr (by simp at hb; omega))⟩
  | true =>
    have HD2 := Lib.hid (HD.out _ HO2.out)
    have h := HV.out
    simp at h
    subst h
    clear HV HD
    go_wp2_with (fail)
    refine HD2.out.mono ?_
    rintro e w3 ⟨yk, yA, ycap, yl, rfl, hcp, o3⟩
    have HO3 := Lib.hid (HO2.out.trans o3 (by simp))
    have HCP := Lib.hid (hcp.low (B' := w.heap.size + 2) (by have := HO2.out.size; have := HR2.out.lt; omega))
    have HR3 := Lib.hid (o3.blk HR2.out (by simp))
    clear o3 hcp b0 b1 b2 b3 bl
    obtain ⟨r0, r1, rl⟩ := HR3.out.facts2
    have g0 := HR3.out.frozen 0
    have g1 := HR3.out.frozen 1
    go_wp2_with (fail)
    have hb5 := (HR3.out.set_ 0 (.int .i64 yk)).set_ 1 (.slice yA yl.length ycap)
    obtain ⟨e0, e1, -⟩ := Blk.facts2 (a := .int .i64 yk) (b := .slice yA yl.length ycap) hb5
    refine bodyPost_ret (v := .agg #[.int .i64 yk, .slice yA yl.length ycap]) (by simp [results, Tryd.results24, go_sem, e0, e1]) rfl ?_
    have o7 : Only [w.heap.size + 1] w3 _ := ((Only.refl _ w3).setCell (p := ⟨w.heap.size + 1, 0, none⟩) (.inl (by simp)) (.int .i64 yk)).setCell (p := ⟨w.heap.size + 1, 1, none⟩) (.inl (by simp)) (.slice yA yl.length ycap)
    exact ⟨.mk yk yA ycap yl, rfl, (HCP.out.only o7 (by simp)).low (by omega), HO3.out.trans o7 (fun b hb => .inr (by simp at hb; omega))⟩

end Go.Proofs.YtgpljjejfebhoaaDoor
