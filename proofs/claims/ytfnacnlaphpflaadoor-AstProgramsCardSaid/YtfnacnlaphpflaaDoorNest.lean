/- How deep an expression is. -/
import Derived.Test.YtfnacnlaphpflaaDoorTree
namespace Go.Proofs.YtfnacnlaphpflaaDoor
open Go.RowKit Go.Kx
set_option maxRecDepth 100000

theorem _root_.Go.Kx.Blk.facts5 {w : World} {g : Nat} {t : TypeId} {a b c d e : Value} (h : Blk w g t #[a, b, c, d, e]) : w.cell? ⟨g, 0, none⟩ = some a ∧ w.cell? ⟨g, 1, none⟩ = some b ∧ w.cell? ⟨g, 2, none⟩ = some c ∧ w.cell? ⟨g, 3, none⟩ = some d ∧ w.cell? ⟨g, 4, none⟩ = some e ∧ g < w.heap.size :=
  ⟨h.cell 0, h.cell 1, h.cell 2, h.cell 3, h.cell 4, h.lt⟩
theorem RowAt.cells {w : World} {A : Option Addr} {i : Nat} {op n : Int} {nm sb : ByteArray} {B : Option Addr} {cap : Nat} {args : List Ex} (h : RowAt w A i (.mk op n nm sb B cap args)) :
    ∃ b o, A = some ⟨b, o, none⟩ ∧ b < w.heap.size ∧ w.cell? ⟨b, o + i * 5, none⟩ = some (.int .i64 op) ∧ w.cell? ⟨b, o + i * 5 + 1, none⟩ = some (.int .i64 n) ∧ w.cell? ⟨b, o + i * 5 + 2, none⟩ = some (.string nm) ∧ w.cell? ⟨b, o + i * 5 + 3, none⟩ = some (.string sb) ∧ w.cell? ⟨b, o + i * 5 + 4, none⟩ = some (.slice B args.length cap) := by
  obtain ⟨b, o, hA, hb, hc⟩ := h
  exact ⟨b, o, hA, hb, hc 0 _ rfl, hc 1 _ rfl, hc 2 _ rfl, hc 3 _ rfl, hc 4 _ rfl⟩
def mx (l : List Nat) : Nat := l.foldr max 0
theorem mx_nil : mx [] = 0 := rfl
theorem mx_cons (a : Nat) (l : List Nat) : mx (a :: l) = max a (mx l) := rfl
theorem mx_snoc (l : List Nat) (a : Nat) : mx (l ++ [a]) = max (mx l) a := by
  induction l with
  | nil => simp [mx]
  | cons b l ih => rw [List.cons_append, mx_cons, mx_cons, ih]; omega
theorem mx_le {l : List Nat} {a : Nat} (h : a ∈ l) : a ≤ mx l := by
  induction l with
  | nil => cases h
  | cons b l ih =>
    rw [mx_cons]
    rcases List.mem_cons.1 h with rfl | h
    · omega
    · have := ih h; omega
theorem mx_bound {l : List Nat} {m : Nat} (h : ∀ a ∈ l, a ≤ m) : mx l ≤ m := by
  induction l with
  | nil => exact Nat.zero_le _
  | cons b l ih => rw [mx_cons]; have := h b (by simp); have := ih (fun a ha => h a (by simp [ha])); omega
def Tr.depth : Tr → Nat
  | .mk _ _ _ _ args => 1 + mx (args.map Tr.depth)
def Ex.ds (l : List Ex) : List Nat := l.map fun e => e.tr.depth
theorem depth_mk (op n : Int) (nm sb : ByteArray) (A : Option Addr) (cap : Nat) (args : List Ex) : (Ex.mk op n nm sb A cap args).tr.depth = 1 + mx (Ex.ds args) := by
  rw [Ex.tr, Tr.depth, List.map_map]
  rfl
theorem depth_pos (t : Tr) : 1 ≤ t.depth := by cases t; rw [Tr.depth]; omega
theorem ds_at {l : List Ex} {k : Nat} {e : Ex} (h : l[k]? = some e) : Ex.ds (l.take (k + 1)) = Ex.ds (l.take k) ++ [e.tr.depth] := by
  unfold Ex.ds
  rw [List.take_add_one, h, List.map_append]
  rfl
theorem Lies.inv {w : World} {op n : Int} {nm sb : ByteArray} {A : Option Addr} {cap : Nat} {args : List Ex} (h : Lies w (.mk op n nm sb A cap args)) :
    (I64 op ∧ I64 n) ∧ (nm.size ≤ 9223372036854775807 ∧ sb.size ≤ 9223372036854775807) ∧ args.length ≤ 9223372036854775807 ∧ (∀ i e, args[i]? = some e → RowAt w A i e) ∧ ∀ e, e ∈ args → Lies w e := by
  cases h with
  | mk h1 h2 h3 h4 h5 h6 h7 => exact ⟨⟨h1, h2⟩, ⟨h3, h4⟩, h5, h6, h7⟩
set_option maxHeartbeats 4000000 in
theorem nest_any : ∀ (e : Ex) (w : World), Lies w e → ∀ most : Nat, most ≤ 1000 →
    Calls Tryd.prog 38 #[e.val, .int .i64 most] w fun r w' => r = .returned (.int .i64 (min e.tr.depth (most + 1) : Nat)) ∧ Only [] w w' := by
  refine Ex.ind (fun e ih => ?_)
  intro w hL most hm
  obtain ⟨op, n, nm, sb, A, cap, args⟩ := e
  obtain ⟨-, -, hlen, hrow, hsub⟩ := hL.inv
  have hdep := depth_mk op n nm sb A cap args
  rw [hdep]
  show Calls Tryd.prog 38 #[.agg #[.int .i64 op, .int .i64 n, .string nm, .string sb, .slice A args.length cap], .int .i64 most] w _
  have hbx := Blk.new w 24 #[.int .i64 op, .int .i64 n, .string nm, .string sb, .slice A args.length cap]
  have o0 : Only [] w (w.alloc (.cells #[.int .i64 op, .int .i64 n, .string nm, .string sb, .slice A args.length cap] 24)) := (Only.refl _ _).alloc _
  obtain ⟨b0, b1, b2, b3, b4, bl⟩ := hbx.facts5
  have HL := Lib.hid hL
  have HR := Lib.hid hrow
  have HS := Lib.hid hsub
  have HI := Lib.hid ih
  have HB := Lib.hid hbx
  have HO := Lib.hid o0
  clear hL hrow hsub ih hdep hbx o0
  by_cases h0 : most = 0
  · have d0 : decide ((most : Int) ≤ 0) = true := by simp; omega
    have d1 : decide (most = 0) = true := by simpa using h0
    have HE := Lib.hid (show (min (1 + mx (Ex.ds args)) (most + 1) : Nat) = most + 1 from by omega)
    clear h0
    go_enter Tryd.func38, Tryd.ntmps38
    go_wp2_with (fail)
    go_ret
    exact ⟨by rw [HE.out]; rfl, HO.out⟩
  · have d0 : decide ((most : Int) ≤ 0) = false := by simp; omega
    have d1 : decide (most = 0) = false := by simpa using h0
    have HM := Lib.hid (show 1 ≤ most from by omega)
    have hmi : (1 : Int) ≤ (most : Int) := by omega
    clear h0
    go_enter Tryd.func38, Tryd.ntmps38
    go_wp2_with (fail)
    generalize w.alloc (.cells #[.int .i64 op, .int .i64 n, .string nm, .string sb, .slice A args.length cap] 24) = w1 at *
    go_loopw [5, 15] (fun u i wr => ∃ k : Nat, i = .int .i64 k ∧ k ≤ args.length ∧ u = .int .i64 ((1 + mx (Ex.ds (args.take k)) : Nat) : Int) ∧ (∀ d ∈ Ex.ds (args.take k), d + 1 ≤ most) ∧ Only [] w wr) (fun _ i _ => args.length - (intOf i).toNat)
    case atStart => exact ⟨0, rfl, Nat.zero_le _, rfl, by simp [Ex.ds], HO.out⟩
    case round =>
      clear b0 b1 b2 b3 b4 bl
      obtain ⟨k, rfl, hk, rfl, hd, hO⟩ := hrel
      have HOr := Lib.hid hO
      have HD := Lib.hid hd
      clear hO hd
      by_cases hlt : k < args.length
      · obtain ⟨e, he⟩ : ∃ e, args[k]? = some e := ⟨_, List.getElem?_eq_getElem hlt⟩
        have hmem : e ∈ args := List.mem_of_getElem? he
        have HDS := Lib.hid (ds_at he)
        have HLe := Lib.hid ((HS.out e hmem).keep HOr.out)
        have hcall := HI.out e (by simpa [Ex.args] using hmem)
        obtain ⟨xop, xn, xnm, xsb, xA, xcap, xargs⟩ := e
        obtain ⟨b, o, rfl, hb, c0, c1, c2, c3, c4⟩ := ((HR.out k _ he).only HOr.out (by simp)).cells
        have HDB := Lib.hid (show 1 + mx (Ex.ds (args.take k)) ≤ most from by
          have := mx_bound (l := Ex.ds (args.take k)) (m := most - 1) (fun a ha => by have := HD.out a ha; omega)
          have := HM.out
          omega)
        have hdkl : (Ex.mk xop xn xnm xsb xA xcap xargs).tr.depth ∈ Ex.ds args := List.mem_map.2 ⟨_, hmem, rfl⟩
        generalize hdk : (Ex.mk xop xn xnm xsb xA xcap xargs).tr.depth = dk at HDS hcall hdkl
        have HCA := Lib.hid (show ∀ w', Lies w' (.mk xop xn xnm xsb xA xcap xargs) → Calls Tryd.prog 38 #[.agg #[.int .i64 xop, .int .i64 xn, .string xnm, .string xsb, .slice xA xargs.length xcap], .int .i64 ((most : Int) - 1)] w' fun r w'' => r = .returned (.int .i64 (min dk most : Nat)) ∧ Only [] w' w'' from fun w' h => by
          have := hcall w' h (most - 1) (by omega)
          rw [show ((most - 1 : Nat) : Int) = (most : Int) - 1 by have := HM.out; omega, show most - 1 + 1 = most by have := HM.out; omega] at this
          exact this)
        have HDL := Lib.hid (mx_le hdkl)
        have oA : Only [] wr (wr.alloc (.cells #[.int .i64 xop, .int .i64 xn, .string xnm, .string xsb, .slice xA xargs.length xcap] 24)) := (Only.refl _ _).alloc _
        have HOA := Lib.hid oA
        have hb1 : 1 + mx (Ex.ds (args.take k)) ≤ 1000 := by have := HDB.out; omega
        obtain ⟨x, hx⟩ : ∃ x : Nat, min dk most = x := ⟨_, rfl⟩
        have hxm : x ≤ 1000 := by omega
        rw [hx] at HCA
        have HX := Lib.hid hx
        clear he hmem hcall hdk oA hdkl hx
        obtain ⟨nk, hnk⟩ : ∃ nk : Nat, 1 + mx (Ex.ds (args.take k)) = nk := ⟨_, rfl⟩
        rw [hnk] at HDB hb1 ⊢
        have HNK := Lib.hid hnk
        clear hnk
        go_wp2_with (fail)
        refine (HCA.out _ (HLe.out.keep HOA.out)).mono ?_
        rintro r w3 ⟨rfl, o3⟩
        have HO3 := Lib.hid ((HOr.out.trans HOA.out (by simp)).trans o3 (by simp))
        clear o3 c0 c1 c2 c3 c4
        have hx0 : (0 : Int) ≤ (x : Int) := by omega
        have hx1 : (x : Int) ≤ 1000 := by omega
        have hn0 : (0 : Int) ≤ (nk : Int) := by omega
        have hn1 : (nk : Int) ≤ 1000 := by omega
        by_cases hbig : most ≤ dk
        · have hxe : x = most := by have := HX.out; omega
          have HXE := Lib.hid hxe
          have HBIG := Lib.hid hbig
          have hgt : (nk : Int) < 1 + (x : Int) := by have := HDB.out; omega
          have hgt2 : (most : Int) < 1 + (x : Int) := by omega
          have hle2 : (nk : Int) ≤ 1 + (x : Int) := by omega
          clear hxe hbig
          go_wp2_with (fail)
          go_ret
          refine ⟨?_, HO3.out⟩
          have := HXE.out
          have := HBIG.out
          have := HDL.out
          have e : (1 + (x : Int)) = ((min (1 + mx (Ex.ds args)) (most + 1) : Nat) : Int) := by omega
          exact congrArg (fun z => Ending.returned (Value.int .i64 z)) e
        · have hxe : x = dk := by have := HX.out; omega
          have HXE := Lib.hid hxe
          have HSM := Lib.hid (show dk + 1 ≤ most from by omega)
          have hle : ¬ (most : Int) < 1 + (x : Int) := by omega
          have hle3 : ¬ (most : Int) < (nk : Int) := by have := HDB.out; omega
          have hnew : ∀ d ∈ Ex.ds (args.take (k + 1)), d + 1 ≤ most := by
            rw [HDS.out]
            intro d hd
            rcases List.mem_append.1 hd with hd | hd
            · exact HD.out d hd
            · simp at hd; rw [hd]; exact HSM.out
          have HNEW := Lib.hid hnew
          have hmax : 1 + mx (Ex.ds (args.take (k + 1))) = max nk (1 + dk) := by rw [HDS.out, mx_snoc, ← HNK.out]; omega
          have HMAX := Lib.hid hmax
          clear hxe hbig hnew hmax
          by_cases hgt : (nk : Int) < 1 + (x : Int)
          · have hle2 : (nk : Int) ≤ 1 + (x : Int) := by omega
            have HG := Lib.hid hgt
            go_wp2_with (fail)
            go_roundw
            case rel => exact ⟨k + 1, by go_num, by omega, congrArg (fun z => Value.int .i64 z) (by rw [HMAX.out]; have := HXE.out; omega), HNEW.out, HO3.out⟩
            case measure => simp [intOf]; omega
          · have hle2 : 1 + (x : Int) ≤ (nk : Int) := by omega
            go_wp2_with (fail)
            go_roundw
            case rel => exact ⟨k + 1, by go_num, by omega, congrArg (fun z => Value.int .i64 z) (by rw [HMAX.out]; have := HXE.out; omega), HNEW.out, HO3.out⟩
            case measure => simp [intOf]; omega
      · obtain rfl : k = args.length := by omega
        have HDB := Lib.hid (show 1 + mx (Ex.ds args) ≤ most from by
          have := mx_bound (l := Ex.ds args) (m := most - 1) (fun a ha => by have := HD.out a (by rw [List.take_length]; exact ha); omega)
          have := HM.out
          omega)
        rw [List.take_length]
        go_wp2_with (fail)
        go_ret
        exact ⟨congrArg (fun z => Ending.returned (Value.int .i64 z)) (by have := HDB.out; omega), HOr.out⟩
/-- the program's Nest -/
theorem pnest_any {e : Ex} {w : World} (hL : Lies w e) : Calls Tryd.prog 19 #[e.val] w fun r w' => r = .returned (.int .i64 (min e.tr.depth 1001 : Nat)) ∧ Only [] w w' := by
  obtain ⟨op, n, nm, sb, A, cap, args⟩ := e
  have hbx := Blk.new w 24 #[.int .i64 op, .int .i64 n, .string nm, .string sb, .slice A args.length cap]
  have o0 : Only [] w (w.alloc (.cells #[.int .i64 op, .int .i64 n, .string nm, .string sb, .slice A args.length cap] 24)) := (Only.refl _ _).alloc _
  obtain ⟨b0, b1, b2, b3, b4, bl⟩ := hbx.facts5
  have HC := Lib.hid (nest_any _ _ (hL.keep o0) 1000 (by omega))
  have HO := Lib.hid o0
  clear hL hbx o0
  show Calls Tryd.prog 19 #[.agg #[.int .i64 op, .int .i64 n, .string nm, .string sb, .slice A args.length cap]] w _
  go_enter Tryd.func19, Tryd.ntmps19
  go_wp2_with (fail)
  refine HC.out.mono ?_
  rintro r w3 ⟨rfl, o3⟩
  have HO3 := Lib.hid (HO.out.trans o3 (by simp))
  clear o3
  go_wp2_with (fail)
  go_ret
  exact ⟨rfl, HO3.out⟩
/-- the document's count -/
def rn (room d : Nat) : Nat := if room < d then 1001 else d
theorem rn_le {room d : Nat} (h : room ≤ 1000) : rn room d ≤ 1001 := by unfold rn; split <;> omega
theorem rn_all {room : Nat} (h1 : 1 ≤ room) (h2 : room ≤ 1000) (l : List Nat) : (if 1001 ≤ mx (l.map (rn (room - 1))) then 1001 else mx (l.map (rn (room - 1))) + 1) = rn room (1 + mx l) := by
  by_cases hc : ∃ d ∈ l, room - 1 < d
  · obtain ⟨d, hd, hlt⟩ := hc
    have a1 : rn (room - 1) d ≤ mx (l.map (rn (room - 1))) := mx_le (List.mem_map.2 ⟨d, hd, rfl⟩)
    have a2 := mx_le hd
    have e1 : rn (room - 1) d = 1001 := by unfold rn; rw [if_pos hlt]
    rw [e1] at a1
    rw [if_pos a1]
    unfold rn
    rw [if_pos (by omega)]
  · have hall : ∀ d ∈ l, d ≤ room - 1 := fun d hd => by
      rcases Nat.lt_or_ge (room - 1) d with h | h
      · exact (hc ⟨d, hd, h⟩).elim
      · exact h
    have e : l.map (rn (room - 1)) = l := by
      conv => rhs; rw [← List.map_id l]
      refine List.map_congr_left fun d hd => ?_
      have := hall d hd
      unfold rn
      rw [if_neg (by omega)]
      rfl
    rw [e]
    have := mx_bound hall
    rw [if_neg (by omega)]
    unfold rn
    rw [if_neg (by omega)]
    omega
set_option maxHeartbeats 4000000 in
theorem rnest_any : ∀ (e : Ex) (w : World), Lies w e → ∀ room : Nat, room ≤ 1000 →
    Calls Tryd.prog 41 #[e.val, .int .i64 room] w fun r w' => r = .returned (.int .i64 (rn room e.tr.depth : Nat)) ∧ Only [] w w' := by
  refine Ex.ind (fun e ih => ?_)
  intro w hL room hm
  obtain ⟨op, n, nm, sb, A, cap, args⟩ := e
  obtain ⟨-, -, hlen, hrow, hsub⟩ := hL.inv
  have hdep := depth_mk op n nm sb A cap args
  rw [hdep]
  show Calls Tryd.prog 41 #[.agg #[.int .i64 op, .int .i64 n, .string nm, .string sb, .slice A args.length cap], .int .i64 room] w _
  have hbx := Blk.new w 24 #[.int .i64 op, .int .i64 n, .string nm, .string sb, .slice A args.length cap]
  have o0 : Only [] w (w.alloc (.cells #[.int .i64 op, .int .i64 n, .string nm, .string sb, .slice A args.length cap] 24)) := (Only.refl _ _).alloc _
  obtain ⟨b0, b1, b2, b3, b4, bl⟩ := hbx.facts5
  have HL := Lib.hid hL
  have HR := Lib.hid hrow
  have HS := Lib.hid hsub
  have HI := Lib.hid ih
  have HB := Lib.hid hbx
  have HO := Lib.hid o0
  clear hL hrow hsub ih hdep hbx o0
  by_cases h0 : room = 0
  · have d0 : ((room : Int) == 0) = true := by simp; omega
    have d1 : (room == 0) = true := by simpa using h0
    have HE := Lib.hid (show rn room (1 + mx (Ex.ds args)) = 1001 from by unfold rn; rw [if_pos (by omega)])
    clear h0
    go_enter Tryd.func41, Tryd.ntmps41
    go_wp2_with (fail)
    go_ret
    exact ⟨by rw [HE.out]; rfl, HO.out⟩
  · have d0 : ((room : Int) == 0) = false := by rw [beq_eq_false_iff_ne]; omega
    have d1 : (room == 0) = false := by simpa using h0
    have HM := Lib.hid (show 1 ≤ room from by omega)
    have hmi : (1 : Int) ≤ (room : Int) := by omega
    clear h0
    go_enter Tryd.func41, Tryd.ntmps41
    go_wp2_with (fail)
    generalize hW1 : w.alloc (.cells #[.int .i64 op, .int .i64 n, .string nm, .string sb, .slice A args.length cap] 24) = w1 at *
    obtain ⟨eb, heb⟩ : ∃ eb, w.heap.size = eb := ⟨_, rfl⟩
    rw [heb] at HB
    have hebw : w.heap.size ≤ eb := by omega
    rw [heb] at b0 b1 b2 b3 b4 bl ⊢
    clear hW1 heb
    go_loopw [5, 6] (fun u i wr => ∃ k : Nat, i = .int .i64 k ∧ k ≤ args.length ∧ u = .int .i64 ((mx ((Ex.ds (args.take k)).map (rn (room - 1))) : Nat) : Int) ∧ Only [] w1 wr) (fun _ i _ => args.length - (intOf i).toNat)
    case atStart => exact ⟨0, rfl, Nat.zero_le _, rfl, Only.refl _ _⟩
    case round =>
      clear b0 b1 b2 b3 b4 bl
      obtain ⟨k, rfl, hk, rfl, hO⟩ := hrel
      obtain ⟨b0, b1, b2, b3, b4, bl⟩ := (hO.blk HB.out (by simp)).facts5
      have HOr := Lib.hid (HO.out.trans hO (by simp))
      have HOk := Lib.hid hO
      clear hO
      have hnb := mx_bound (l := (Ex.ds (args.take k)).map (rn (room - 1))) (m := 1001) (fun a ha => by obtain ⟨d, _, rfl⟩ := List.mem_map.1 ha; exact rn_le (by omega))
      by_cases hlt : k < args.length
      · obtain ⟨e, he⟩ : ∃ e, args[k]? = some e := ⟨_, List.getElem?_eq_getElem hlt⟩
        have hmem : e ∈ args := List.mem_of_getElem? he
        have HDS := Lib.hid (ds_at he)
        have HLe := Lib.hid ((HS.out e hmem).keep HOr.out)
        have hcall := HI.out e (by simpa [Ex.args] using hmem)
        obtain ⟨xop, xn, xnm, xsb, xA, xcap, xargs⟩ := e
        obtain ⟨b, o, rfl, hb, c0, c1, c2, c3, c4⟩ := ((HR.out k _ he).only HOr.out (by simp)).cells
        generalize hdk : (Ex.mk xop xn xnm xsb xA xcap xargs).tr.depth = dk at HDS hcall
        have HCA := Lib.hid (show ∀ w', Lies w' (.mk xop xn xnm xsb xA xcap xargs) → Calls Tryd.prog 41 #[.agg #[.int .i64 xop, .int .i64 xn, .string xnm, .string xsb, .slice xA xargs.length xcap], .int .i64 ((room : Int) - 1)] w' fun r w'' => r = .returned (.int .i64 (rn (room - 1) dk : Nat)) ∧ Only [] w' w'' from fun w' h => by
          have := hcall w' h (room - 1) (by omega)
          rw [show ((room - 1 : Nat) : Int) = (room : Int) - 1 by have := HM.out; omega] at this
          exact this)
        obtain ⟨x, hx⟩ : ∃ x : Nat, rn (room - 1) dk = x := ⟨_, rfl⟩
        have hxm : x ≤ 1001 := by rw [← hx]; exact rn_le (by omega)
        rw [hx] at HCA
        have hnew : mx ((Ex.ds (args.take (k + 1))).map (rn (room - 1))) = max (mx ((Ex.ds (args.take k)).map (rn (room - 1)))) x := by
          rw [HDS.out, List.map_append, List.map_cons, List.map_nil, mx_snoc, hx]
        obtain ⟨nk, hnk⟩ : ∃ nk : Nat, mx ((Ex.ds (args.take k)).map (rn (room - 1))) = nk := ⟨_, rfl⟩
        rw [hnk] at hnb hnew ⊢
        have HNEW := Lib.hid hnew
        have iz1 : (k : Int) < (args.length : Int) := by omega
        clear he hmem hcall hdk hx hnk hnew
        go_wp2_with (fail)
        refine (HCA.out _ HLe.out).mono ?_
        rintro r w3 ⟨rfl, o3⟩
        have HO3 := Lib.hid (HOk.out.trans o3 (by simp))
        clear o3 c0 c1 c2 c3 c4 b0 b1 b2 b3 b4 bl
        by_cases hgt : nk < x
        · have hg1 : (nk : Int) < (x : Int) := by omega
          have HG := Lib.hid hgt
          clear hgt
          have hg2 : decide (nk < x) = true := by simp; omega
          go_wp2_with (fail)
          go_roundw
          case rel => exact ⟨k + 1, by go_num, by omega, congrArg (fun z : Nat => Value.int .i64 z) (by rw [HNEW.out]; have := HG.out; omega), HO3.out⟩
          case measure => simp [intOf]; omega
        · have hg1 : ¬ (nk : Int) < (x : Int) := by omega
          have HG := Lib.hid hgt
          have hg2 : decide (nk < x) = false := by simp; omega
          clear hgt
          go_wp2_with (fail)
          go_roundw
          case rel => exact ⟨k + 1, by go_num, by omega, congrArg (fun z : Nat => Value.int .i64 z) (by rw [HNEW.out]; have := HG.out; omega), HO3.out⟩
          case measure => simp [intOf]; omega
      · obtain rfl : k = args.length := by omega
        rw [List.take_length] at hnb ⊢
        have hall := rn_all HM.out hm (Ex.ds args)
        obtain ⟨nk, hnk⟩ : ∃ nk : Nat, mx ((Ex.ds args).map (rn (room - 1))) = nk := ⟨_, rfl⟩
        rw [hnk] at hnb hall ⊢
        have HALL := Lib.hid hall
        clear hall hnk
        by_cases hbig : 1001 ≤ nk
        · have e1 : (1001 : Int) ≤ (nk : Int) := by omega
          have e2 : decide ((1001 : Int) ≤ (nk : Int)) = true := by simpa using e1
          have HB2 := Lib.hid hbig
          clear hbig
          go_wp2_with (fail)
          go_ret
          exact ⟨by rw [← HALL.out, if_pos HB2.out]; rfl, HOr.out⟩
        · have e1 : ¬ (1001 : Int) ≤ (nk : Int) := by omega
          have e2 : decide ((1001 : Int) ≤ (nk : Int)) = false := by simpa using e1
          have HB2 := Lib.hid hbig
          clear hbig
          go_wp2_with (fail)
          go_ret
          exact ⟨by rw [← HALL.out, if_neg HB2.out]; rfl, HOr.out⟩
theorem refnest_any {e : Ex} {w : World} (hL : Lies w e) : Calls Tryd.prog 23 #[e.val] w fun r w' => r = .returned (.int .i64 (min e.tr.depth 1001 : Nat)) ∧ Only [] w w' := by
  have hmin : rn 1000 e.tr.depth = min e.tr.depth 1001 := by unfold rn; split <;> omega
  rw [← hmin]
  obtain ⟨op, n, nm, sb, A, cap, args⟩ := e
  have hbx := Blk.new w 24 #[.int .i64 op, .int .i64 n, .string nm, .string sb, .slice A args.length cap]
  have o0 : Only [] w (w.alloc (.cells #[.int .i64 op, .int .i64 n, .string nm, .string sb, .slice A args.length cap] 24)) := (Only.refl _ _).alloc _
  obtain ⟨b0, b1, b2, b3, b4, bl⟩ := hbx.facts5
  have HC := Lib.hid (rnest_any _ _ (hL.keep o0) 1000 (by omega))
  have HO := Lib.hid o0
  clear hL hbx o0 hmin
  show Calls Tryd.prog 23 #[.agg #[.int .i64 op, .int .i64 n, .string nm, .string sb, .slice A args.length cap]] w _
  go_enter Tryd.func23, Tryd.ntmps23
  go_wp2_with (fail)
  refine HC.out.mono ?_
  rintro r w3 ⟨rfl, o3⟩
  have HO3 := Lib.hid (HO.out.trans o3 (by simp))
  clear o3
  go_wp2_with (fail)
  go_ret
  exact ⟨rfl, HO3.out⟩
end Go.Proofs.YtfnacnlaphpflaaDoor
