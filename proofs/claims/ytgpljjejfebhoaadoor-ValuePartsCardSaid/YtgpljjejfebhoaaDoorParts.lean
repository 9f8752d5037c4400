/- Walk as an iterator. -/
import Derived.Test.YtgpljjejfebhoaaDoorWalk
namespace Go.Proofs.YtgpljjejfebhoaaDoor
open Go.RowKit Go.Kx Go.Val
set_option maxRecDepth 100000

theorem eg44 : ∀ args w, (callFunc 44 args).run Tryd.prog w = .ok (.enter 44 args) w := enters Tryd.func44 (by kernel_rfl) rfl
theorem eg45 : ∀ args w, (callFunc 45 args).run Tryd.prog w = .ok (.enter 45 args) w := enters Tryd.func45 (by kernel_rfl) rfl
set_option maxHeartbeats 4000000 in
theorem parts_no {e : Vx} {w : World} (hL : LiesV w e) (hok : e.tr.ok 3 = false) : Calls Tryd.prog 30 #[e.val] w fun r w' => r = .returned (.func (.func 44) #[] #[]) ∧ Only [] w w' := by
  have hc := fun w' (o : Only [] w w') => topV (hL.keep o)
  rw [hok] at hc
  clear hL hok
  obtain ⟨k, n, s, A, cap, l⟩ := e
  have HC := Lib.hid (show ∀ w', Only [] w w' → Calls Tryd.prog 21 #[.agg #[.int .i64 k, .int .i64 n, .string s, .slice A l.length cap]] w' _ from hc)
  have q0 := Blk.new w 34 #[.int .i64 k, .int .i64 n, .string s, .slice A l.length cap]
  have o0 : Only [] w (w.alloc (.cells #[.int .i64 k, .int .i64 n, .string s, .slice A l.length cap] 34)) := (Only.refl _ _).alloc _
  obtain ⟨b0, b1, b2, b3, bl⟩ := q0.facts4
  have HO := Lib.hid o0
  clear hc o0 q0
  show Calls Tryd.prog 30 #[.agg #[.int .i64 k, .int .i64 n, .string s, .slice A l.length cap]] w _
  go_enter Tryd.func30, Tryd.ntmps30
  go_wp2_with (fail)
  refine (HC.out _ HO.out).mono ?_
  rintro e w2 ⟨rfl, o2⟩
  have HO2 := Lib.hid (HO.out.trans o2 (by simp))
  clear o2 b0 b1 b2 b3 bl
  go_wp2_with (fail)
  go_ret
  exact ⟨rfl, HO2.out⟩
set_option maxHeartbeats 4000000 in
theorem parts_yes {e : Vx} {w : World} (hL : LiesV w e) (hs : e.sm = true) (hok : e.tr.ok 3 = true) :
    Calls Tryd.prog 30 #[e.val] w fun r w' => ∃ cb e', r = .returned (.func (.func 45) #[] #[.pointer (some ⟨cb, 0, none⟩)]) ∧ CpV w.heap.size w' e.tr e' ∧ Blk w' cb 34 e'.cs.toArray ∧ w.heap.size ≤ cb ∧ Only [] w w' := by
  have hc := fun w' (o : Only [] w w') => topV (hL.keep o)
  rw [hok] at hc
  have hcp : ∀ w', Only [] w w' → Calls Tryd.prog 23 #[e.val] w' fun r w'' => ∃ yop yn ynm yA ycap yargs, r = .returned (.agg #[.int .i64 yop, .int .i64 yn, .string ynm, .slice yA (List.length yargs) ycap]) ∧ CpV w'.heap.size w'' e.tr (.mk yop yn ynm yA ycap yargs) ∧ Only [] w' w'' := fun w' o => (copyV e w' (hL.keep o) hs).mono (by rintro r w'' ⟨⟨yop, yn, ynm, yA, ycap, yargs⟩, rfl, h1, h2⟩; exact ⟨yop, yn, ynm, yA, ycap, yargs, rfl, h1, h2⟩)
  clear hL hs hok
  obtain ⟨k, n, s, A, cap, l⟩ := e
  have HC := Lib.hid (show ∀ w', Only [] w w' → Calls Tryd.prog 21 #[.agg #[.int .i64 k, .int .i64 n, .string s, .slice A l.length cap]] w' _ from hc)
  have HD := Lib.hid (show ∀ w', Only [] w w' → Calls Tryd.prog 23 #[.agg #[.int .i64 k, .int .i64 n, .string s, .slice A l.length cap]] w' _ from hcp)
  have q0 := Blk.new w 34 #[.int .i64 k, .int .i64 n, .string s, .slice A l.length cap]
  have o0 : Only [] w (w.alloc (.cells #[.int .i64 k, .int .i64 n, .string s, .slice A l.length cap] 34)) := (Only.refl _ _).alloc _
  obtain ⟨b0, b1, b2, b3, bl⟩ := q0.facts4
  have HO := Lib.hid o0
  have HQ := Lib.hid q0
  clear hc hcp o0 q0
  show Calls Tryd.prog 30 #[.agg #[.int .i64 k, .int .i64 n, .string s, .slice A l.length cap]] w _
  go_enter Tryd.func30, Tryd.ntmps30
  go_wp2_with (fail)
  refine (HC.out _ HO.out).mono ?_
  rintro e w2 ⟨rfl, o2⟩
  have HO2 := Lib.hid (HO.out.trans o2 (by simp))
  have HQ2 := Lib.hid (o2.blk HQ.out (by simp))
  clear o2 b0 b1 b2 b3 bl
  obtain ⟨b0, b1, b2, b3, bl⟩ := HQ2.out.facts4
  go_wp2_with (fail)
  refine (HD.out _ HO2.out).mono ?_
  rintro r w3 ⟨yop, yn, ynm, yA, ycap, yargs, rfl, hcp, o3⟩
  have HO3 := Lib.hid (HO2.out.trans o3 (by simp))
  have hnb := Blk.new w3 34 #[.int .i64 yop, .int .i64 yn, .string ynm, .slice yA yargs.length ycap]
  have on : Only [] w3 (w3.alloc (.cells #[.int .i64 yop, .int .i64 yn, .string ynm, .slice yA yargs.length ycap] 34)) := (Only.refl _ _).alloc _
  have HP := Lib.hid (hcp.keep on)
  have HON := Lib.hid on
  have HNB := Lib.hid hnb
  have HSZ := Lib.hid (show w.heap.size ≤ w3.heap.size from HO3.out.size)
  clear hcp o3 hnb on b0 b1 b2 b3 bl
  go_wp2_with (fail)
  go_ret
  exact ⟨w3.heap.size, .mk yop yn ynm yA ycap yargs, rfl, HP.out.low HO2.out.size, HNB.out, HSZ.out, HO3.out.trans HON.out (by simp)⟩
theorem no_seqs (R : Nat → List Nat → Array Value → World → Prop) (prot : List Nat) (w : World) : SeqsP Tryd.prog 44 #[] 0 R prot w := by
  intro l J Jx W S hK hl hlW hS hpr hJ hY h0
  have H := Lib.hid h0
  clear hK hl hlW hS hpr hJ hY h0
  show Calls Tryd.prog 44 #[.func (.yield l) #[] #[]] W _
  go_enter Tryd.func44, Tryd.ntmps44
  go_wp2_with (fail)
  refine bodyPost_end (results_none rfl _ _ _) rfl ?_
  exact ⟨⟨_, rfl⟩, .inl ⟨S, H.out⟩⟩
set_option maxHeartbeats 4000000 in
theorem parts_seqs {e : Vx} {w : World} {cb : Nat} (hL : LiesV w e) (hs : e.sm = true) (hb : Blk w cb 34 e.cs.toArray) (hlt : ∀ b ∈ e.blks, b < w.heap.size) :
    SeqsP Tryd.prog 45 #[.pointer (some ⟨cb, 0, none⟩)] e.tr.all.length (WR e.tr.all) (cb :: e.blks) w := by
  intro l J Jx W S hK hl hlW hS hpr hJ hY h0
  have h35 := walkV hJ hY e 0 W S (hL.keepC hK) hs (fun b hb => ⟨Nat.lt_of_lt_of_le (hlt b hb) hl, hpr b (List.mem_cons_of_mem _ hb)⟩) hlW hS (fun i t h => by rw [Nat.zero_add]; exact h) h0
  have hbW := hK.blk hb
  rw [Nat.zero_add] at h35
  generalize e.tr.all.length = N at h35 ⊢
  have HC := Lib.hid h35
  clear h35 hL hs hb hlt hK hl hS hpr hJ hY h0
  obtain ⟨op, n, nm, A, cap, args⟩ := e
  obtain ⟨b0, b1, b2, b3, bl⟩ := Blk.facts4 (a := .int .i64 op) (b := .int .i64 n) (c := .string nm) (d := .slice A args.length cap) hbW
  have HC2 := Lib.hid (show Calls Tryd.prog 46 #[.agg #[.int .i64 op, .int .i64 n, .string nm, .slice A args.length cap], .func (.yield l) #[] #[]] W _ from HC.out)
  clear hbW HC
  show Calls Tryd.prog 45 #[.func (.yield l) #[] #[], .pointer (some ⟨cb, 0, none⟩)] W _
  go_enter Tryd.func45, Tryd.ntmps45
  go_wp2_with (fail)
  refine HC2.out.mono ?_
  rintro r w3 (⟨rfl, ⟨S', hJ', -⟩, -⟩ | ⟨rfl, hJx⟩)
  · have H := Lib.hid hJ'
    clear hJ' b0 b1 b2 b3 bl
    go_wp2_with (fail)
    refine bodyPost_end (results_none rfl _ _ _) rfl ?_
    exact ⟨⟨_, rfl⟩, .inl ⟨S', H.out⟩⟩
  · have H := Lib.hid hJx
    clear hJx b0 b1 b2 b3 bl
    go_wp2_with (fail)
    refine bodyPost_end (results_none rfl _ _ _) rfl ?_
    exact ⟨⟨_, rfl⟩, .inr H.out⟩
end Go.Proofs.YtgpljjejfebhoaaDoor
