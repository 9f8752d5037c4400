/- AstNests. -/
import Derived.Test.YtfnacnlaphpflaaDoorSame
namespace Go.Proofs.YtfnacnlaphpflaaDoor
open Go.RowKit Go.Kx
set_option maxRecDepth 100000

theorem fold_small {deep : Nat} : ∀ (l : List Tr) (r : Int), (∀ a ∈ l, ∀ r', 0 ≤ r' → 0 ≤ a.room (deep - 1) r' → a.depth ≤ deep - 1 ∧ (a.all.length : Int) + a.room (deep - 1) r' = r') → 0 ≤ (l.map Tr.room).foldl (rmStep deep) r →
    (∀ a ∈ l, a.depth ≤ deep - 1 ∧ ∃ r', 0 ≤ r' ∧ 0 ≤ a.room (deep - 1) r') ∧ (((l.map Tr.all).flatten.length : Nat) : Int) + (l.map Tr.room).foldl (rmStep deep) r = r
  | [], r, _, h => ⟨fun a ha => by simp at ha, by simp⟩
  | a :: l, r, ih, h => by
    simp only [List.map_cons, List.foldl_cons, List.flatten_cons, List.length_append] at h ⊢
    have hr : 0 ≤ r := by
      refine Classical.byContradiction fun hn => ?_
      have e : rmStep deep r a.room = r := by unfold rmStep; rw [if_neg hn]
      rw [e, foldl_neg deep _ r (by omega)] at h
      exact hn h
    have e : rmStep deep r a.room = a.room (deep - 1) r := by unfold rmStep; rw [if_pos hr]
    rw [e] at h ⊢
    have h1 : 0 ≤ a.room (deep - 1) r := by
      refine Classical.byContradiction fun hn => ?_
      rw [foldl_neg deep _ _ (by omega)] at h
      exact hn h
    have ha := ih a (by simp) r hr h1
    have hl := fold_small l _ (fun b hb => ih b (by simp [hb])) h
    refine ⟨fun b hb => ?_, ?_⟩
    · rcases List.mem_cons.1 hb with rfl | hb
      · exact ⟨ha.1, r, hr, h1⟩
      · exact hl.1 b hb
    · have := hl.2
      have := ha.2
      omega
theorem room_small : ∀ (t : Tr) (deep : Nat) (room : Int), 0 ≤ t.room deep room → t.depth ≤ deep ∧ (t.all.length : Int) + t.room deep room = room := by
  refine Tr.ind (fun t ih => ?_)
  intro deep room h
  obtain ⟨op, n, nm, sb, args⟩ := t
  have e : (Tr.mk op n nm sb args).room deep room = if deep = 0 ∨ room < 1 ∨ 20 < args.length ∨ 100 < nm.size ∨ 100 < sb.size then -1 else (args.map Tr.room).foldl (rmStep deep) (room - 1) := by rw [Tr.room]
  rw [e] at h ⊢
  split at h
  · omega
  · rename_i hc
    rw [if_neg hc]
    have hf := fold_small args (room - 1) (fun a ha r' _ h2 => ih a (by simpa [Tr.args] using ha) (deep - 1) r' h2) h
    refine ⟨?_, ?_⟩
    · rw [Tr.depth]
      have := mx_bound (l := args.map Tr.depth) (m := deep - 1) (fun x hx => by
        obtain ⟨a, ha, rfl⟩ := List.mem_map.1 hx
        exact (hf.1 a ha).1)
      omega
    · rw [Tr.all, List.length_cons]
      have := hf.2
      omega
theorem room_sm : ∀ (e : Ex) (deep : Nat) (room : Int), 0 ≤ e.tr.room deep room → e.sm = true := by
  refine Ex.ind (fun e ih => ?_)
  intro deep room h
  obtain ⟨op, n, nm, sb, A, cap, args⟩ := e
  rw [Ex.tr] at h
  have e : (Tr.mk op n nm sb (args.map Ex.tr)).room deep room = if deep = 0 ∨ room < 1 ∨ 20 < (args.map Ex.tr).length ∨ 100 < nm.size ∨ 100 < sb.size then -1 else ((args.map Ex.tr).map Tr.room).foldl (rmStep deep) (room - 1) := by rw [Tr.room]
  rw [e] at h
  split at h
  · omega
  · rename_i hc
    rw [List.length_map] at hc
    have hf := fold_small (args.map Ex.tr) (room - 1) (fun a _ r' _ h2 => room_small a (deep - 1) r' h2) h
    rw [Ex.sm]
    simp only [Bool.and_eq_true, decide_eq_true_eq, List.all_eq_true, List.mem_map, id]
    refine ⟨by omega, ?_⟩
    rintro x ⟨a, ha, rfl⟩
    obtain ⟨_, r', _, h2⟩ := hf.1 a.tr (List.mem_map.2 ⟨a, ha, rfl⟩)
    exact ih a (by simpa [Ex.args] using ha) _ _ h2
theorem ok_sub {op n : Int} {nm sb : ByteArray} {A : Option Addr} {cap : Nat} {args : List Ex} {a : Ex} (h : (Ex.mk op n nm sb A cap args).tr.ok = true) (ha : a ∈ args) : a.tr.ok = true := by
  unfold Tr.ok at *
  rw [depth_mk, right_mk] at h
  simp only [Bool.and_eq_true, decide_eq_true_eq, List.all_eq_true] at h ⊢
  have := mx_le (l := Ex.ds args) (a := a.tr.depth) (List.mem_map.2 ⟨a, ha, rfl⟩)
  exact ⟨by omega, h.2.2 a ha⟩
set_option maxHeartbeats 4000000 in
theorem nests_any {e : Ex} {w : World} (hL : Lies w e) (hW : WordsIs w) : Calls Tryd.prog 5 #[e.val] w fun r w' => r = .returned (.bool true) ∧ Only [] w w' := by
  have HL := Lib.hid hL
  have HW := Lib.hid hW
  have hrg := room_range e.tr 40 600 (by omega)
  have C1 := Lib.hid (fun W (o : Only [] w W) => awake_any (hW.keep o))
  have C2 := Lib.hid (fun W (o : Only [] w W) => expr_any e W (hL.keep o) 40 600 (by omega) (by omega) (by omega))
  have C3 := Lib.hid (fun W (o : Only [] w W) => pnest_any (hL.keep o))
  have C4 := Lib.hid (fun W (o : Only [] w W) => pright_any (hL.keep o) (hW.keep o))
  have C5 := Lib.hid (fun W (o : Only [] w W) => same_any e e W (hL.keep o) (hL.keep o))
  have HSM := Lib.hid (room_small e.tr 40 600)
  rw [same_refl] at C5
  obtain ⟨z, hz⟩ : ∃ z, e.tr.room 40 600 = z := ⟨_, rfl⟩
  rw [hz] at C2 HSM hrg
  obtain ⟨dp, hdp⟩ : ∃ dp, e.tr.depth = dp := ⟨_, rfl⟩
  rw [hdp] at C3 HSM
  obtain ⟨ok, hok⟩ : ∃ ok, e.tr.ok = ok := ⟨_, rfl⟩
  rw [hok] at C4
  clear hL hW hz
  obtain ⟨op, n, nm, sb, A, cap, args⟩ := e
  have HDP := Lib.hid ((depth_mk op n nm sb A cap args).symm.trans hdp)
  have HOK := Lib.hid (fun (h : ok = true) a (ha : a ∈ args) => ok_sub (op := op) (n := n) (nm := nm) (sb := sb) (A := A) (cap := cap) (hok.trans h) ha)
  have HOK2 := Lib.hid (show ok = true → dp ≤ 20 from fun h => by
    have := hok.trans h
    unfold Tr.ok at this
    rw [hdp] at this
    simp only [Bool.and_eq_true, decide_eq_true_eq] at this
    exact this.1)
  clear hdp hok
  obtain ⟨-, -, hlen, hrow, hsub⟩ := HL.out.inv
  have HR := Lib.hid hrow
  have HS := Lib.hid hsub
  clear hrow hsub
  have hbx := Blk.new w 24 #[.int .i64 op, .int .i64 n, .string nm, .string sb, .slice A args.length cap]
  have o0 : Only [] w (w.alloc (.cells #[.int .i64 op, .int .i64 n, .string nm, .string sb, .slice A args.length cap] 24)) := (Only.refl _ _).alloc _
  have HB := Lib.hid hbx
  have HO := Lib.hid o0
  clear hbx o0
  show Calls Tryd.prog 5 #[.agg #[.int .i64 op, .int .i64 n, .string nm, .string sb, .slice A args.length cap]] w _
  go_enter Tryd.func5, Tryd.ntmps5
  go_wp2_with (fail)
  refine (C1.out _ HO.out).mono ?_
  rintro r w1 ⟨rfl, o1⟩
  have O1 := Lib.hid (HO.out.trans o1 (by simp))
  have B1 := Lib.hid (o1.blk HB.out (by simp))
  obtain ⟨b0, b1, b2, b3, b4, bl⟩ := B1.out.facts5
  clear o1
  go_wp2_with (fail)
  refine (C2.out _ O1.out).mono ?_
  rintro r w2 ⟨rfl, o2⟩
  have O2 := Lib.hid (O1.out.trans o2 (by simp))
  have B2 := Lib.hid (o2.blk B1.out (by simp))
  clear o2 b0 b1 b2 b3 b4 bl
  by_cases hz : z < 0
  · go_wp2_with (fail)
    refine (C1.out _ O2.out).mono ?_
    rintro r w3 ⟨rfl, o3⟩
    have O3 := Lib.hid (O2.out.trans o3 (by simp))
    clear o3
    go_wp2_with (fail)
    go_ret
    exact ⟨rfl, O3.out⟩
  · have hz0 : 0 ≤ z := by omega
    have hd40 := (HSM.out hz0).1
    have hmin : min dp 1001 = dp := by omega
    rw [hmin] at C3
    obtain ⟨b0, b1, b2, b3, b4, bl⟩ := B2.out.facts5
    go_wp2_with (fail)
    have HD40 := Lib.hid hd40
    have HDP2 := Lib.hid (show mx (Ex.ds args) + 1 = dp from by rw [← HDP.out]; omega)
    clear hd40 hmin hz hz0 hrg
    go_loopw [3, 4] (fun x i wr => ∃ (k : Nat), i = .int .i64 k ∧ x = .int .i64 (mx (Ex.ds (args.take k)) : Nat) ∧ k ≤ args.length ∧ Only [] w wr ∧ Blk wr w.heap.size 24 #[.int .i64 op, .int .i64 n, .string nm, .string sb, .slice A args.length cap]) (fun _ i _ => args.length - (intOf i).toNat)
    case atStart => exact ⟨0, rfl, by simp [Ex.ds, mx], Nat.zero_le _, O2.out, B2.out⟩
    case round =>
      clear b0 b1 b2 b3 b4 bl
      obtain ⟨k, rfl, rfl, hk, hO, hB⟩ := hrel
      have HOr := Lib.hid hO
      have HBr := Lib.hid hB
      clear hO hB
      obtain ⟨b0, b1, b2, b3, b4, bl⟩ := HBr.out.facts5
      by_cases hlt : k < args.length
      · obtain ⟨a, ha⟩ : ∃ a, args[k]? = some a := ⟨_, List.getElem?_eq_getElem hlt⟩
        have hmem : a ∈ args := List.mem_of_getElem? ha
        have HDS := Lib.hid (ds_at ha)
        have hda : a.tr.depth ≤ mx (Ex.ds args) := mx_le (List.mem_map.2 ⟨a, hmem, rfl⟩)
        have D3 := Lib.hid (fun W (o : Only [] wr W) => pnest_any ((HS.out a hmem).keep (HOr.out.trans o (by simp))))
        have D4 := Lib.hid (fun W (o : Only [] wr W) => pright_any ((HS.out a hmem).keep (HOr.out.trans o (by simp))) (HW.out.keep (HOr.out.trans o (by simp))))
        have HAK := Lib.hid (fun h => HOK.out h a hmem)
        obtain ⟨da, hdn⟩ : ∃ da, a.tr.depth = da := ⟨_, rfl⟩
        rw [hdn] at D3 HDS hda
        rw [show min da 1001 = da from by have := HDP2.out; have := HD40.out; omega] at D3
        obtain ⟨ak, hak⟩ : ∃ ak, a.tr.ok = ak := ⟨_, rfl⟩
        rw [hak] at D4 HAK
        have hra := (HR.out k _ ha).only HOr.out (by simp)
        obtain ⟨xop, xn, xnm, xsb, xA, xcap, xargs⟩ := a
        obtain ⟨b, o, rfl, hb, c0, c1, c2, c3, c4⟩ := hra.cells
        have HRC := Lib.hid hra
        have HDA := Lib.hid hda
        clear ha hmem hda hdn hak hra
        have HMK := Lib.hid (show mx (Ex.ds (args.take (k + 1))) = max (mx (Ex.ds (args.take k))) da from by rw [HDS.out, mx_snoc])
        obtain ⟨mk, hmk⟩ : ∃ mk, mx (Ex.ds (args.take k)) = mk := ⟨_, rfl⟩
        rw [hmk] at HMK ⊢
        clear hmk
        go_wp2_with (fail)
        refine (D3.out _ (Only.refl _ _)).mono ?_
        rintro r w3 ⟨rfl, o3⟩
        have O3 := Lib.hid o3
        have B3 := Lib.hid (o3.blk HBr.out (by simp))
        clear o3 b0 b1 b2 b3 b4 bl c0 c1 c2 c3 c4
        obtain ⟨b0, b1, b2, b3, b4, bl⟩ := B3.out.facts5
        go_wp2_with (fail)
        all_goals
          refine (C4.out _ (HOr.out.trans O3.out (by simp))).mono ?_
          rintro r w4 ⟨rfl, o4⟩
          have O4 := Lib.hid (O3.out.trans o4 (by simp))
          have B4 := Lib.hid (o4.blk B3.out (by simp))
          clear o4 b0 b1 b2 b3 b4 bl
          obtain ⟨b0, b1, b2, b3, b4, bl⟩ := B4.out.facts5
          obtain ⟨b', o', hA', hx, c0, c1, c2, c3, c4⟩ := (HRC.out.only O4.out (by simp)).cells
          injection hA' with hA'
          injection hA' with hA' hA2 _
          subst hA' hA2
          cases ok with
          | false =>
            clear c0 c1 c2 c3 c4
            go_wp2_with (fail)
            go_roundw
            case rel => exact ⟨k + 1, by go_num, by rw [HMK.out]; first | rw [Nat.max_eq_right (by omega)] | rw [Nat.max_eq_left (by omega)], by omega, HOr.out.trans O4.out (by simp), B4.out⟩
            case measure => simp [intOf]; omega
          | true =>
            obtain rfl : ak = true := HAK.out rfl
            go_wp2_with (fail)
            refine (D4.out _ O4.out).mono ?_
            rintro r w5 ⟨rfl, o5⟩
            have O5 := Lib.hid (O4.out.trans o5 (by simp))
            have B5 := Lib.hid (o5.blk B4.out (by simp))
            clear o5 c0 c1 c2 c3 c4 b0 b1 b2 b3 b4 bl
            go_wp2_with (fail)
            go_roundw
            case rel => exact ⟨k + 1, by go_num, by rw [HMK.out]; first | rw [Nat.max_eq_right (by omega)] | rw [Nat.max_eq_left (by omega)], by omega, HOr.out.trans O5.out (by simp), B5.out⟩
            case measure => simp [intOf]; omega
      · obtain rfl : k = args.length := by omega
        rw [List.take_length]
        have hm := HDP2.out
        obtain ⟨mk, hmk⟩ : ∃ mk, mx (Ex.ds args) = mk := ⟨_, rfl⟩
        rw [hmk] at hm ⊢
        have HMK := Lib.hid hm
        have hm40 : mk ≤ 40 := by have := HD40.out; omega
        have HOK3 := Lib.hid (show ok = true → mk < 20 from fun h => by have := HOK2.out h; omega)
        clear hmk
        rw [← hm] at C3
        clear hm
        go_wp2_with (fail)
        refine (C3.out _ HOr.out).mono ?_
        rintro r w3 ⟨rfl, o3⟩
        have O3 := Lib.hid (HOr.out.trans o3 (by simp))
        have B3 := Lib.hid (o3.blk HBr.out (by simp))
        clear o3 b0 b1 b2 b3 b4 bl
        obtain ⟨b0, b1, b2, b3, b4, bl⟩ := B3.out.facts5
        go_wp2_with (fail)
        refine (C4.out _ O3.out).mono ?_
        rintro r w4 ⟨rfl, o4⟩
        have O4 := Lib.hid (O3.out.trans o4 (by simp))
        have B4 := Lib.hid (o4.blk B3.out (by simp))
        clear o4 b0 b1 b2 b3 b4 bl
        obtain ⟨b0, b1, b2, b3, b4, bl⟩ := B4.out.facts5
        have hfin : ∀ W, Only [] w W → Calls Tryd.prog 21 #[.agg #[.int .i64 op, .int .i64 n, .string nm, .string sb, .slice A args.length cap], .agg #[.int .i64 op, .int .i64 n, .string nm, .string sb, .slice A args.length cap]] W fun r w' => r = .returned (.bool true) ∧ Only [] W w' := C5.out
        have HFIN := Lib.hid hfin
        clear hfin
        cases ok with
        | false =>
          go_wp2_with (fail)
          refine (HFIN.out _ O4.out).mono ?_
          rintro r w5 ⟨rfl, o5⟩
          have O5 := Lib.hid (O4.out.trans o5 (by simp))
          clear o5 b0 b1 b2 b3 b4 bl
          go_wp2_with (fail)
          go_ret
          exact ⟨rfl, O5.out⟩
        | true =>
          have hlt20 : (mk : Int) < 20 := by have := HOK3.out rfl; omega
          have hlt21 : decide (mk < 20) = true := by have := HOK3.out rfl; simpa using this
          go_wp2_with (fail)
          refine (HFIN.out _ O4.out).mono ?_
          rintro r w5 ⟨rfl, o5⟩
          have O5 := Lib.hid (O4.out.trans o5 (by simp))
          clear o5 b0 b1 b2 b3 b4 bl
          go_wp2_with (fail)
          go_ret
          exact ⟨rfl, O5.out⟩
end Go.Proofs.YtfnacnlaphpflaaDoor
