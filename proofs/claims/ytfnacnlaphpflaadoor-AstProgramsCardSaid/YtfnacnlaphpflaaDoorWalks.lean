/- Walk as an iterator. -/
import Derived.Test.YtfnacnlaphpflaaDoorWalk
namespace Go.Proofs.YtfnacnlaphpflaaDoor
open Go.RowKit Go.Kx
set_option maxRecDepth 100000

set_option maxHeartbeats 4000000 in
theorem walk13 {e : Ex} {w : World} (hL : Lies w e) (hs : e.sm = true) :
    Calls Tryd.prog 13 #[e.val] w fun r w' => ∃ cb e', r = .returned (.func (.func 34) #[] #[.pointer (some ⟨cb, 0, none⟩)]) ∧ Cp w.heap.size w' e e' ∧ Blk w' cb 24 e'.cs.toArray ∧ w.heap.size ≤ cb ∧ Only [] w w' := by
  have hcp : ∀ w', Only [] w w' → Calls Tryd.prog 33 #[e.val] w' fun r w'' => ∃ yop yn ynm ysb yA ycap yargs, r = .returned (.agg #[.int .i64 yop, .int .i64 yn, .string ynm, .string ysb, .slice yA (List.length yargs) ycap]) ∧ Cp w'.heap.size w'' e (.mk yop yn ynm ysb yA ycap yargs) ∧ Only [] w' w'' := fun w' o => (copy_any e w' (hL.keep o) hs).mono (by rintro r w'' ⟨⟨yop, yn, ynm, ysb, yA, ycap, yargs⟩, rfl, h1, h2⟩; exact ⟨yop, yn, ynm, ysb, yA, ycap, yargs, rfl, h1, h2⟩)
  have HC := Lib.hid hcp
  clear hcp hL hs
  obtain ⟨op, n, nm, sb, A, cap, args⟩ := e
  have o0 : Only [] w (w.alloc (.cells #[.int .i64 op, .int .i64 n, .string nm, .string sb, .slice A args.length cap] 24)) := (Only.refl _ _).alloc _
  have hbx := Blk.new w 24 #[.int .i64 op, .int .i64 n, .string nm, .string sb, .slice A args.length cap]
  obtain ⟨b0, b1, b2, b3, b4, bl⟩ := hbx.facts5
  have HO := Lib.hid o0
  have HC2 := Lib.hid (show ∀ w', Only [] w w' → Calls Tryd.prog 33 #[.agg #[.int .i64 op, .int .i64 n, .string nm, .string sb, .slice A args.length cap]] w' _ from HC.out)
  show Calls Tryd.prog 13 #[.agg #[.int .i64 op, .int .i64 n, .string nm, .string sb, .slice A args.length cap]] w _
  clear o0 hbx HC
  go_enter Tryd.func13, Tryd.ntmps13
  go_wp2_with (fail)
  refine (HC2.out _ HO.out).mono ?_
  rintro r w3 ⟨yop, yn, ynm, ysb, yA, ycap, yargs, rfl, hcp, o3⟩
  have HO3 := Lib.hid (HO.out.trans o3 (by simp))
  have hnb := Blk.new w3 24 #[.int .i64 yop, .int .i64 yn, .string ynm, .string ysb, .slice yA yargs.length ycap]
  have on : Only [] w3 (w3.alloc (.cells #[.int .i64 yop, .int .i64 yn, .string ynm, .string ysb, .slice yA yargs.length ycap] 24)) := (Only.refl _ _).alloc _
  have HP := Lib.hid (hcp.keep on)
  have HON := Lib.hid on
  have HNB := Lib.hid hnb
  have HSZ := Lib.hid (show w.heap.size ≤ w3.heap.size from HO3.out.size)
  have HSZ2 := Lib.hid HO.out.size
  clear hcp o3 hnb on b0 b1 b2 b3 b4 bl
  go_wp2_with (fail)
  go_ret
  exact ⟨w3.heap.size, .mk yop yn ynm ysb yA ycap yargs, rfl, ⟨HP.out.tr, HP.out.lies, fun b hb => Nat.le_trans HSZ2.out (HP.out.off b hb), HP.out.top⟩, HNB.out, HSZ.out, HO3.out.trans HON.out (by simp)⟩
set_option maxHeartbeats 4000000 in
theorem walk_seqs {e : Ex} {w : World} {cb : Nat} (hL : Lies w e) (hs : e.sm = true) (hb : Blk w cb 24 e.cs.toArray) (hlt : ∀ b ∈ e.blks, b < w.heap.size) :
    SeqsP Tryd.prog 34 #[.pointer (some ⟨cb, 0, none⟩)] e.tr.all.length (WR e.tr.all) (cb :: e.blks) w := by
  intro l J Jx W S hK hl hlW hS hpr hJ hY h0
  have h35 := walk35 hJ hY e 0 W S (hL.keepC hK) hs (fun b hb => ⟨Nat.lt_of_lt_of_le (hlt b hb) hl, hpr b (List.mem_cons_of_mem _ hb)⟩) hlW hS (fun i t h => by rw [Nat.zero_add]; exact h) h0
  have hbW := hK.blk hb
  rw [Nat.zero_add] at h35
  generalize e.tr.all.length = N at h35 ⊢
  have HC := Lib.hid h35
  clear h35 hL hs hb hlt hK hl hS hpr hJ hY h0
  obtain ⟨op, n, nm, sb, A, cap, args⟩ := e
  obtain ⟨b0, b1, b2, b3, b4, bl⟩ := Blk.facts5 (a := .int .i64 op) (b := .int .i64 n) (c := .string nm) (d := .string sb) (e := .slice A args.length cap) hbW
  have HC2 := Lib.hid (show Calls Tryd.prog 35 #[.agg #[.int .i64 op, .int .i64 n, .string nm, .string sb, .slice A args.length cap], .func (.yield l) #[] #[]] W _ from HC.out)
  clear hbW HC
  show Calls Tryd.prog 34 #[.func (.yield l) #[] #[], .pointer (some ⟨cb, 0, none⟩)] W _
  go_enter Tryd.func34, Tryd.ntmps34
  go_wp2_with (fail)
  refine HC2.out.mono ?_
  rintro r w3 (⟨rfl, ⟨S', hJ', -⟩, -⟩ | ⟨rfl, hJx⟩)
  · have H := Lib.hid hJ'
    clear hJ' b0 b1 b2 b3 b4 bl
    go_wp2_with (fail)
    refine bodyPost_end (results_none rfl _ _ _) rfl ?_
    exact ⟨⟨_, rfl⟩, .inl ⟨S', H.out⟩⟩
  · have H := Lib.hid hJx
    clear hJx b0 b1 b2 b3 b4 bl
    go_wp2_with (fail)
    refine bodyPost_end (results_none rfl _ _ _) rfl ?_
    exact ⟨⟨_, rfl⟩, .inr H.out⟩
end Go.Proofs.YtfnacnlaphpflaaDoor
