/- copyExpr. -/
import Derived.Test.YtfnacnlaphpflaaDoorRight
import Derived.Test.YtfnacnlaphpflaaDoorFactsC
namespace Go.Proofs.YtfnacnlaphpflaaDoor
open Go.RowKit Go.Kx
set_option maxRecDepth 100000

/-- the blocks where an expression lies -/
def Ex.blks : Ex → List Nat
  | .mk _ _ _ _ A _ args => A.toList.map (·.block) ++ (args.map Ex.blks).flatten
theorem blks_A {op n : Int} {nm sb : ByteArray} {A : Option Addr} {cap : Nat} {args : List Ex} {p : Addr} (h : A = some p) : p.block ∈ (Ex.mk op n nm sb A cap args).blks := by
  subst h; rw [Ex.blks]; simp
theorem blks_sub {op n : Int} {nm sb : ByteArray} {A : Option Addr} {cap : Nat} {args : List Ex} {a : Ex} (h : a ∈ args) {b : Nat} (hb : b ∈ a.blks) : b ∈ (Ex.mk op n nm sb A cap args).blks := by
  rw [Ex.blks, List.mem_append]
  exact .inr (List.mem_flatten.2 ⟨_, List.mem_map.2 ⟨a, h, rfl⟩, hb⟩)
theorem Lies.only {T : List Nat} {w w' : World} {e : Ex} (h : Lies w e) (o : Only T w w') (hT : ∀ b ∈ e.blks, b ∉ T) : Lies w' e := by
  induction h with
  | mk h1 h2 h3 h4 h5 h6 h7 ih =>
    exact .mk h1 h2 h3 h4 h5 (fun i e he => (h6 i e he).only o (fun p hp => hT _ (blks_A hp))) (fun e he => ih e he (fun b hb => hT b (blks_sub he hb)))
/-- of a size that can be copied -/
def Ex.sm : Ex → Bool
  | .mk _ _ _ _ _ _ args => decide (args.length ≤ 1048576) && (args.map Ex.sm).all id
theorem sm_mk {op n : Int} {nm sb : ByteArray} {A : Option Addr} {cap : Nat} {args : List Ex} (h : (Ex.mk op n nm sb A cap args).sm = true) : args.length ≤ 1048576 ∧ ∀ a ∈ args, a.sm = true := by
  rw [Ex.sm] at h
  simp only [Bool.and_eq_true, decide_eq_true_eq, List.all_eq_true, List.mem_map, id] at h
  exact ⟨h.1, fun a ha => h.2 _ ⟨a, ha, rfl⟩⟩
/-- a copy of an expression, in blocks from B on -/
structure Cp (B : Nat) (w : World) (e e' : Ex) : Prop where
  tr : e'.tr = e.tr
  lies : Lies w e'
  off : ∀ b ∈ e'.blks, B ≤ b
  top : ∀ b ∈ e'.blks, b < w.heap.size
theorem Cp.keep {B : Nat} {w w' : World} {e e' : Ex} (h : Cp B w e e') (o : Only [] w w') : Cp B w' e e' := ⟨h.tr, h.lies.keep o, h.off, fun b hb => Nat.lt_of_lt_of_le (h.top b hb) o.size⟩
def zE : Value := .agg #[.int .i64 0, .int .i64 0, .string ⟨#[]⟩, .string ⟨#[]⟩, .slice none 0 0]
theorem ex_info : ((Tryd.prog.info? 24).map fun i => (i.zero, i.size, i.bytes)) = some (some zE, 5, 72) := by kernel_rfl
theorem run_make24 (n : Nat) (hn : n ≤ 1048576) :
    ∃ cs : Array Value, cs.size = n * 5 ∧ ∀ w, (Instr.makeSlice 22 (.int .i64 (n : Int)) (.int .i64 (n : Int))).run Tryd.prog w = .ok (.slice (some ⟨w.heap.size, 0, none⟩) n n) (w.alloc (.cells cs 24)) := by
  obtain ⟨i, hi, h0, h1, h2⟩ := info_parts ex_info
  have := run_make_rowN 22 24 i zE Tryd.underlying22 hi h0 .i64 .i64 n n (Nat.le_refl _) (by rw [h2]; omega) (by omega)
  refine ⟨_, ?_, this⟩
  rw [h1]
  simp [madeCells]
theorem _root_.Go.Kx.Blk.cellsAt {w : World} {g : Nat} {t : TypeId} {cs : Array Value} (h : Blk w g t cs) (j : Nat) (hj : j < cs.size) : ∃ v, w.cell? ⟨g, j, none⟩ = some v := by
  have := h.cell j
  rw [Array.getElem?_eq_getElem hj] at this
  exact ⟨_, this⟩
/-- the world where five cells of a row are laid -/
def set5 (w : World) (g k : Nat) (a b c d e : Value) : World := ((((w.setCell ⟨g, k * 5, none⟩ a).setCell ⟨g, k * 5 + 1, none⟩ b).setCell ⟨g, k * 5 + 2, none⟩ c).setCell ⟨g, k * 5 + 3, none⟩ d).setCell ⟨g, k * 5 + 4, none⟩ e
theorem set5_only (w : World) (g k : Nat) (a b c d e : Value) : Only [g] w (set5 w g k a b c d e) :=
  ((((((Only.refl [g] w).setCell (.inl (by simp)) _).setCell (.inl (by simp)) _).setCell (.inl (by simp)) _).setCell (.inl (by simp)) _).setCell (.inl (by simp)) _)
theorem set5_blk {w : World} {g k : Nat} {cur : Array Value} (h : Blk w g 24 cur) (a b c d e : Value) :
    Blk (set5 w g k a b c d e) g 24 (((((cur.setIfInBounds (k * 5) a).setIfInBounds (k * 5 + 1) b).setIfInBounds (k * 5 + 2) c).setIfInBounds (k * 5 + 3) d).setIfInBounds (k * 5 + 4) e) :=
  ((((h.set_ _ _).set_ _ _).set_ _ _).set_ _ _).set_ _ _
theorem row_set {w : World} {g k : Nat} {cur : Array Value} (h : Blk w g 24 cur) (hk : k * 5 + 5 ≤ cur.size) (op n : Int) (nm sb : ByteArray) (A : Option Addr) (cap : Nat) (args : List Ex) :
    RowAt (set5 w g k (.int .i64 op) (.int .i64 n) (.string nm) (.string sb) (.slice A args.length cap)) (some ⟨g, 0, none⟩) k (.mk op n nm sb A cap args) := by
  have hb := set5_blk (k := k) h (.int .i64 op) (.int .i64 n) (.string nm) (.string sb) (.slice A args.length cap)
  refine ⟨g, 0, rfl, hb.lt, fun j v hv => ?_⟩
  rw [Nat.zero_add]
  refine (hb.cell _).trans ?_
  match j, hv with
  | 0, hv => simp [Ex.cs] at hv; subst hv; simp [Array.getElem?_setIfInBounds]; omega
  | 1, hv => simp [Ex.cs] at hv; subst hv; simp [Array.getElem?_setIfInBounds]; omega
  | 2, hv => simp [Ex.cs] at hv; subst hv; simp [Array.getElem?_setIfInBounds]; omega
  | 3, hv => simp [Ex.cs] at hv; subst hv; simp [Array.getElem?_setIfInBounds]; omega
  | 4, hv => simp [Ex.cs] at hv; subst hv; simp [Array.getElem?_setIfInBounds]; omega
  | j + 5, hv => simp [Ex.cs] at hv
theorem row_old {w : World} {g k i : Nat} {cur : Array Value} (h : Blk w g 24 cur) (hi : i < k) (a b c d e : Value) {x : Ex} (hx : RowAt w (some ⟨g, 0, none⟩) i x) : RowAt (set5 w g k a b c d e) (some ⟨g, 0, none⟩) i x := by
  have hb := set5_blk (k := k) h a b c d e
  obtain ⟨b', o', hA, _, hc⟩ := hx
  injection hA with hA
  injection hA with h1 h2 _
  subst h1 h2
  refine ⟨g, 0, rfl, hb.lt, fun j v hv => ?_⟩
  have hj : j < 5 := by
    have := (List.getElem?_eq_some_iff.1 hv).1
    cases x
    simpa [Ex.cs] using this
  refine (hb.cell _).trans ?_
  have hw := (h.cell (0 + i * 5 + j)).symm.trans (hc j v hv)
  rw [Array.getElem?_setIfInBounds_ne (by omega), Array.getElem?_setIfInBounds_ne (by omega), Array.getElem?_setIfInBounds_ne (by omega), Array.getElem?_setIfInBounds_ne (by omega), Array.getElem?_setIfInBounds_ne (by omega)]
  exact hw
set_option maxHeartbeats 4000000 in
theorem copy_any : ∀ (e : Ex) (w : World), Lies w e → e.sm = true →
    Calls Tryd.prog 33 #[e.val] w fun r w' => ∃ e', r = .returned e'.val ∧ Cp w.heap.size w' e e' ∧ Only [] w w' := by
  refine Ex.ind (fun e ih => ?_)
  intro w hL hs
  obtain ⟨op, n, nm, sb, A, cap, args⟩ := e
  obtain ⟨⟨hi1, hi2⟩, ⟨h2, h3⟩, h1, hrow, hsub⟩ := hL.inv
  obtain ⟨hlen, hsm⟩ := sm_mk hs
  have HR := Lib.hid hrow
  have HS := Lib.hid hsub
  have HSM := Lib.hid hsm
  have HI := Lib.hid ih
  have H12 := Lib.hid (And.intro hi1 hi2)
  have HWS := Lib.hid (Nat.le_refl w.heap.size)
  clear hL hs hrow hsub hsm ih hi1 hi2
  have hbx := Blk.new w 24 #[.int .i64 op, .int .i64 n, .string nm, .string sb, .slice A args.length cap]
  show Calls Tryd.prog 33 #[.agg #[.int .i64 op, .int .i64 n, .string nm, .string sb, .slice A args.length cap]] w _
  by_cases he : args = []
  · subst he
    go_enter Tryd.func33, Tryd.ntmps33
    go_wp2_with (fail)
    refine bodyPost_ret (v := .agg #[.int .i64 op, .int .i64 n, .string nm, .string sb, .slice none 0 0]) (by simp [results, Tryd.results33, go_sem]) rfl ?_
    exact ⟨.mk op n nm sb none 0 [], rfl, ⟨by simp [Ex.tr], .mk H12.out.1 H12.out.2 h2 h3 (by simp) (fun i e h => by simp at h) (fun e h => by simp at h), by simp [Ex.blks], by simp [Ex.blks]⟩, (((Only.refl _ _).alloc _).alloc _).alloc _⟩
  · have hpos : 0 < args.length := List.length_pos_iff.2 he
    clear he
    obtain ⟨cs, hcs, hmk⟩ := run_make24 args.length hlen
    go_enter Tryd.func33, Tryd.ntmps33
    go_wp2_with (fail)
    have hB : ∃ W0, W0 = ((((w.alloc (.cells #[.int .i64 op, .int .i64 n, .string nm, .string sb, .slice A args.length cap] 24)).alloc (.cells #[.int .i64 0, .int .i64 0, .string ⟨#[]⟩, .string ⟨#[]⟩, .slice none 0 0] 24)).alloc (.cells #[.int .i64 op, .int .i64 n, .string nm, .string sb, .slice (some ⟨w.heap.size + 1 + 1 + 1, 0, none⟩) args.length args.length] 24)).alloc (.cells cs 24)) := ⟨_, rfl⟩
    obtain ⟨W0, hW0⟩ := hB
    rw [← hW0]
    have q1 : Blk W0 (w.heap.size + 1) 24 #[.int .i64 0, .int .i64 0, .string ⟨#[]⟩, .string ⟨#[]⟩, .slice none 0 0] := by
      rw [hW0]
      have := Blk.new (w.alloc (.cells #[.int .i64 op, .int .i64 n, .string nm, .string sb, .slice A args.length cap] 24)) 24 #[.int .i64 0, .int .i64 0, .string ⟨#[]⟩, .string ⟨#[]⟩, .slice none 0 0]
      rw [World.size_alloc] at this
      exact (this.alloc _).alloc _
    have q2 : Blk W0 (w.heap.size + 1 + 1) 24 #[.int .i64 op, .int .i64 n, .string nm, .string sb, .slice (some ⟨w.heap.size + 1 + 1 + 1, 0, none⟩) args.length args.length] := by
      rw [hW0]
      have := Blk.new ((w.alloc (.cells #[.int .i64 op, .int .i64 n, .string nm, .string sb, .slice A args.length cap] 24)).alloc (.cells #[.int .i64 0, .int .i64 0, .string ⟨#[]⟩, .string ⟨#[]⟩, .slice none 0 0] 24)) 24 #[.int .i64 op, .int .i64 n, .string nm, .string sb, .slice (some ⟨w.heap.size + 1 + 1 + 1, 0, none⟩) args.length args.length]
      rw [World.size_alloc, World.size_alloc] at this
      exact this.alloc _
    have q3 : Blk W0 (w.heap.size + 1 + 1 + 1) 24 cs := by
      rw [hW0]
      have := Blk.new (((w.alloc (.cells #[.int .i64 op, .int .i64 n, .string nm, .string sb, .slice A args.length cap] 24)).alloc (.cells #[.int .i64 0, .int .i64 0, .string ⟨#[]⟩, .string ⟨#[]⟩, .slice none 0 0] 24)).alloc (.cells #[.int .i64 op, .int .i64 n, .string nm, .string sb, .slice (some ⟨w.heap.size + 1 + 1 + 1, 0, none⟩) args.length args.length] 24)) 24 cs
      rw [World.size_alloc, World.size_alloc, World.size_alloc] at this
      exact this
    have o0 : Only [] w W0 := by rw [hW0]; exact ((((Only.refl _ _).alloc _).alloc _).alloc _).alloc _
    have hsz : W0.heap.size = w.heap.size + 4 := by rw [hW0]; simp
    have HQ1 := Lib.hid q1
    have HQ2 := Lib.hid q2
    have HQ3 := Lib.hid q3
    have HO := Lib.hid o0
    have HSZ := Lib.hid hsz
    clear q1 q2 q3 o0 hsz hW0 hbx hmk
    have hcs' := Lib.hid hcs
    clear hcs
    obtain ⟨gb, hgb⟩ : ∃ gb, w.heap.size + 1 + 1 + 1 = gb := ⟨_, rfl⟩
    obtain ⟨cb, hcb⟩ : ∃ cb, w.heap.size + 1 + 1 = cb := ⟨_, rfl⟩
    obtain ⟨rb, hrb⟩ : ∃ rb, w.heap.size + 1 = rb := ⟨_, rfl⟩
    rw [hgb] at HQ2 HQ3 ⊢
    rw [hcb] at HQ2 ⊢
    rw [hrb] at HQ1 ⊢
    have hgt : w.heap.size < gb ∧ cb ≠ gb ∧ rb ≠ gb ∧ cb ≠ rb ∧ w.heap.size ≤ cb ∧ w.heap.size ≤ rb := by omega
    have HG := Lib.hid hgt
    have HSZ2 := Lib.hid (show W0.heap.size = gb + 1 from by rw [HSZ.out]; omega)
    clear hgb hcb hrb hgt HSZ
    go_loopw [20] (fun i wr => ∃ (k : Nat) (es : List Ex) (cur : Array Value), i = .int .i64 k ∧ k ≤ args.length ∧ es.length = k ∧ (∀ i e', es[i]? = some e' → ∃ a, args[i]? = some a ∧ Cp (gb + 1) wr a e' ∧ RowAt wr (some ⟨gb, 0, none⟩) i e') ∧ Blk wr gb 24 cur ∧ cur.size = args.length * 5 ∧ Only [gb] W0 wr) (fun i _ => args.length - (intOf i).toNat)
    case atStart => exact ⟨0, [], cs, rfl, Nat.zero_le _, rfl, fun i e' h => by simp at h, HQ3.out, hcs'.out, Only.refl _ _⟩
    case round =>
      obtain ⟨k, es, cur, rfl, hk, hek, hes, hbg, hcur, hO⟩ := hrel
      have HOr := Lib.hid hO
      have HES := Lib.hid hes
      have HEK := Lib.hid hek
      have HBG := Lib.hid hbg
      have HCUR := Lib.hid hcur
      clear hO hes hek hbg hcur
      have HOw := Lib.hid (HO.out.trans HOr.out (fun b hb => by simp at hb; subst hb; exact .inr (Nat.le_of_lt HG.out.1)))
      by_cases hlt : k < args.length
      · obtain ⟨e, he⟩ : ∃ e, args[k]? = some e := ⟨_, List.getElem?_eq_getElem hlt⟩
        have hmem : e ∈ args := List.mem_of_getElem? he
        have HE := Lib.hid he
        have HLe := Lib.hid ((HS.out e hmem).keep HOw.out)
        have hcall := HI.out e (by simpa [Ex.args] using hmem)
        have hse := HSM.out e hmem
        obtain ⟨xop, xn, xnm, xsb, xA, xcap, xargs⟩ := e
        obtain ⟨b, o, rfl, hb, c0, c1, c2, c3, c4⟩ := ((HR.out k _ he).only HOw.out (by simp)).cells
        have HCA := Lib.hid (show ∀ w', Lies w' (.mk xop xn xnm xsb xA xcap xargs) → Calls Tryd.prog 33 #[.agg #[.int .i64 xop, .int .i64 xn, .string xnm, .string xsb, .slice xA xargs.length xcap]] w' fun r w'' => ∃ yop yn ynm ysb yA ycap yargs, r = .returned (.agg #[.int .i64 yop, .int .i64 yn, .string ynm, .string ysb, .slice yA (List.length yargs) ycap]) ∧ Cp w'.heap.size w'' (.mk xop xn xnm xsb xA xcap xargs) (.mk yop yn ynm ysb yA ycap yargs) ∧ Only [] w' w'' from fun w' h => (hcall w' h hse).mono (by rintro r w'' ⟨⟨yop, yn, ynm, ysb, yA, ycap, yargs⟩, rfl, h1, h2⟩; exact ⟨yop, yn, ynm, ysb, yA, ycap, yargs, rfl, h1, h2⟩))
        clear hcall hse hmem he
        obtain ⟨k0, k1, k2, k3, k4, kl⟩ := (HOr.out.blk HQ2.out (by simp; exact HG.out.2.1)).facts5
        have hnb := Blk.new wr 24 #[.int .i64 xop, .int .i64 xn, .string xnm, .string xsb, .slice xA xargs.length xcap]
        have on : Only [] wr (wr.alloc (.cells #[.int .i64 xop, .int .i64 xn, .string xnm, .string xsb, .slice xA xargs.length xcap] 24)) := (Only.refl _ _).alloc _
        have HNB := Lib.hid hnb
        have HON := Lib.hid on
        have HKB := Lib.hid (HOr.out.blk HQ2.out (by simp; exact HG.out.2.1))
        clear hnb on
        have hk5 : k * 5 + 5 ≤ cur.size := by have := HCUR.out; omega
        have HK5 := Lib.hid hk5
        have hki : (0 : Int) ≤ (k : Int) := by omega
        have hki2 : (k : Int) < (args.length : Int) := by omega
        clear hk5
        have HZ := Lib.hid (show ∀ w', Only [] (wr.alloc (.cells #[.int .i64 xop, .int .i64 xn, .string xnm, .string xsb, .slice xA xargs.length xcap] 24)) w' → Calls Tryd.prog 33 #[.agg #[.int .i64 xop, .int .i64 xn, .string xnm, .string xsb, .slice xA xargs.length xcap]] w' fun r w5 => ∃ yop yn ynm ysb yA ycap yargs v0 v1 v2 v3 v4, r = .returned (.agg #[.int .i64 yop, .int .i64 yn, .string ynm, .string ysb, .slice yA (List.length yargs) ycap]) ∧ Hid (Cp w'.heap.size w5 (.mk xop xn xnm xsb xA xcap xargs) (.mk yop yn ynm ysb yA ycap yargs)) ∧ Hid (Only [] wr w5) ∧
            (w5.cell? ⟨gb, k * 5, none⟩ = some v0 ∧ w5.cell? ⟨gb, k * 5 + 1, none⟩ = some v1 ∧ w5.cell? ⟨gb, k * 5 + 2, none⟩ = some v2 ∧ w5.cell? ⟨gb, k * 5 + 3, none⟩ = some v3 ∧ w5.cell? ⟨gb, k * 5 + 4, none⟩ = some v4) ∧
            (w5.frozen? ⟨gb, k * 5, none⟩ = false ∧ w5.frozen? ⟨gb, k * 5 + 1, none⟩ = false ∧ w5.frozen? ⟨gb, k * 5 + 2, none⟩ = false ∧ w5.frozen? ⟨gb, k * 5 + 3, none⟩ = false ∧ w5.frozen? ⟨gb, k * 5 + 4, none⟩ = false) ∧
            w5.cell? ⟨cb, 4, none⟩ = some (.slice (some ⟨gb, 0, none⟩) args.length args.length) ∧ cb < w5.heap.size ∧
            w5.cell? ⟨wr.heap.size, 0, none⟩ = some (.int .i64 xop) ∧ w5.cell? ⟨wr.heap.size, 1, none⟩ = some (.int .i64 xn) ∧ w5.cell? ⟨wr.heap.size, 2, none⟩ = some (.string xnm) ∧ w5.cell? ⟨wr.heap.size, 3, none⟩ = some (.string xsb) ∧ w5.cell? ⟨wr.heap.size, 4, none⟩ = some (.slice xA xargs.length xcap) ∧ wr.heap.size < w5.heap.size from by
          intro w' ow
          have ow2 := HON.out.trans ow (by simp)
          refine (HCA.out w' (HLe.out.keep ow2)).mono ?_
          rintro r w5 ⟨yop, yn, ynm, ysb, yA, ycap, yargs, rfl, hcp, o5⟩
          have o6 := ow2.trans o5 (by simp)
          have b5 := o6.blk HBG.out (by simp)
          have hk5 := HK5.out
          obtain ⟨v0, g0⟩ := b5.cellsAt (k * 5) (by omega)
          obtain ⟨v1, g1⟩ := b5.cellsAt (k * 5 + 1) (by omega)
          obtain ⟨v2, g2⟩ := b5.cellsAt (k * 5 + 2) (by omega)
          obtain ⟨v3, g3⟩ := b5.cellsAt (k * 5 + 3) (by omega)
          obtain ⟨v4, g4⟩ := b5.cellsAt (k * 5 + 4) (by omega)
          obtain ⟨-, -, -, -, kk4, kkl⟩ := (o6.blk HKB.out (by simp)).facts5
          obtain ⟨n0, n1, n2, n3, n4, nl⟩ := ((ow.trans o5 (by simp)).blk HNB.out (by simp)).facts5
          exact ⟨yop, yn, ynm, ysb, yA, ycap, yargs, v0, v1, v2, v3, v4, rfl, Lib.hid hcp, Lib.hid o6, ⟨g0, g1, g2, g3, g4⟩, ⟨b5.frozen _, b5.frozen _, b5.frozen _, b5.frozen _, b5.frozen _⟩, kk4, kkl, n0, n1, n2, n3, n4, nl⟩)
        have hn1 : cb ≠ gb := HG.out.2.1
        have hn2 : gb < wr.heap.size := HBG.out.lt
        have hn3 : wr.heap.size ≠ gb := by omega
        go_wp2_with (fail)
        go_region_held3 (fun w' => w'.cell? ⟨cb, 4, none⟩ = some (.slice (some ⟨gb, 0, none⟩) args.length args.length) ∧ w'.cell? ⟨wr.heap.size, 0, none⟩ = some (.int .i64 xop) ∧ w'.cell? ⟨wr.heap.size, 1, none⟩ = some (.int .i64 xn) ∧ w'.cell? ⟨wr.heap.size, 2, none⟩ = some (.string xnm) ∧ w'.cell? ⟨wr.heap.size, 3, none⟩ = some (.string xsb) ∧ w'.cell? ⟨wr.heap.size, 4, none⟩ = some (.slice xA xargs.length xcap)) (first | (go_keep; done) | (refine ⟨?_, ?_, ?_, ?_, ?_, ?_⟩ <;> (go_simp; done))) (first | (go_at_call 33; refine (HZ.out _ (by first | exact (Only.refl [] _).drew | exact (Only.refl [] _).drewN _)).mono ?_; rintro r w5 ⟨yop, yn, ynm, ysb, yA, ycap, yargs, v0, v1, v2, v3, v4, rfl, HC5, HO5, ⟨g0, g1, g2, g3, g4⟩, ⟨f0, f1, f2, f3, f4⟩, kk4, kkl, n0, n1, n2, n3, n4, nl⟩))
        have hBL := Lib.hid (HO5.out.blk HBG.out (by simp))
        generalize hw6 : ((((w5.setCell ⟨gb, k * 5, none⟩ (.int .i64 yop)).setCell ⟨gb, k * 5 + 1, none⟩ (.int .i64 yn)).setCell ⟨gb, k * 5 + 2, none⟩ (.string ynm)).setCell ⟨gb, k * 5 + 3, none⟩ (.string ysb)).setCell ⟨gb, k * 5 + 4, none⟩ (.slice yA yargs.length ycap) = w6
        have HW6 := Lib.hid (show set5 w5 gb k (.int .i64 yop) (.int .i64 yn) (.string ynm) (.string ysb) (.slice yA yargs.length ycap) = w6 from hw6)
        clear hw6 g0 g1 g2 g3 g4 f0 f1 f2 f3 f4 kk4 kkl n0 n1 n2 n3 n4 nl
        go_wp2_with (fail)
        go_roundw
        case rel =>
          have o6 : Only [gb] w5 w6 := by rw [← HW6.out]; exact set5_only _ _ _ _ _ _ _ _
          refine ⟨k + 1, es ++ [.mk yop yn ynm ysb yA ycap yargs], _, by go_num, by omega, by rw [List.length_append, HEK.out]; rfl, ?_, by rw [← HW6.out]; exact set5_blk hBL.out _ _ _ _ _, by simp [HCUR.out], (HOr.out.trans HO5.out (by simp)).trans o6 (fun b hb => .inl hb)⟩
          intro i e' hi
          by_cases hik : i < k
          · rw [List.getElem?_append_left (by rw [HEK.out]; exact hik)] at hi
            obtain ⟨a, ha, hcp, hra⟩ := HES.out i e' hi
            refine ⟨a, ha, ⟨hcp.tr, (hcp.lies.keep HO5.out).only o6 (fun b hb hm => ?_), hcp.off, fun b hb => ?_⟩, ?_⟩
            · have := hcp.off b hb
              simp at hm
              omega
            · have := hcp.top b hb; have := HO5.out.size; have := o6.size; omega
            · rw [← HW6.out]
              exact row_old hBL.out hik _ _ _ _ _ (hra.only HO5.out (by simp))
          · have hl : i < (es ++ [Ex.mk yop yn ynm ysb yA ycap yargs]).length := (List.getElem?_eq_some_iff.1 hi).1
            rw [List.length_append, HEK.out] at hl
            simp at hl
            obtain rfl : i = k := by omega
            rw [List.getElem?_append_right (by rw [HEK.out]; omega), HEK.out, Nat.sub_self] at hi
            simp at hi
            subst hi
            refine ⟨_, HE.out, ⟨HC5.out.tr, HC5.out.lies.only o6 (fun b hb hm => ?_), fun b hb => ?_, fun b hb => ?_⟩, ?_⟩
            · have := HC5.out.off b hb
              simp at hm this
              omega
            · have := HC5.out.off b hb
              simp at this
              omega
            · have := HC5.out.top b hb; have := o6.size; omega
            · rw [← HW6.out]
              exact row_set hBL.out HK5.out _ _ _ _ _ _ _
        case measure => simp [intOf]; omega
      · obtain rfl : k = args.length := by omega
        have hn1 : rb ≠ gb ∧ cb ≠ gb ∧ cb ≠ rb ∧ rb ≠ cb := ⟨HG.out.2.2.1, HG.out.2.1, HG.out.2.2.2.1, fun h => HG.out.2.2.2.1 h.symm⟩
        obtain ⟨hn1, hn2, hn3, hn4⟩ := hn1
        obtain ⟨k0, k1, k2, k3, k4, kl⟩ := (HOr.out.blk HQ2.out (by simp; exact hn2)).facts5
        have r := HOr.out.blk HQ1.out (by simp; exact hn1)
        obtain ⟨r0, r1, r2, r3, r4, rl⟩ := r.facts5
        have f0 := r.frozen 0
        have f1 := r.frozen 1
        have f2 := r.frozen 2
        have f3 := r.frozen 3
        have f4 := r.frozen 4
        have HRB := Lib.hid r
        clear r
        go_wp2_with (fail)
        have hb5 := ((((HRB.out.set_ 0 (.int .i64 op)).set_ 1 (.int .i64 n)).set_ 2 (.string nm)).set_ 3 (.string sb)).set_ 4 (.slice (some ⟨gb, 0, none⟩) args.length args.length)
        obtain ⟨e0, e1, e2, e3, e4, -⟩ := Blk.facts5 (a := .int .i64 op) (b := .int .i64 n) (c := .string nm) (d := .string sb) (e := .slice (some ⟨gb, 0, none⟩) args.length args.length) hb5
        have hel : es.length = args.length := HEK.out
        have o6 : Only [rb] wr (((((wr.setCell ⟨rb, 0, none⟩ (.int .i64 op)).setCell ⟨rb, 1, none⟩ (.int .i64 n)).setCell ⟨rb, 2, none⟩ (.string nm)).setCell ⟨rb, 3, none⟩ (.string sb)).setCell ⟨rb, 4, none⟩ (.slice (some ⟨gb, 0, none⟩) args.length args.length)) :=
          ((((((Only.refl [rb] wr).setCell (.inl (by simp)) _).setCell (.inl (by simp)) _).setCell (.inl (by simp)) _).setCell (.inl (by simp)) _).setCell (.inl (by simp)) _)
        refine bodyPost_ret (v := .agg #[.int .i64 op, .int .i64 n, .string nm, .string sb, .slice (some ⟨gb, 0, none⟩) args.length args.length]) (by simp [results, Tryd.results33, go_sem, e0, e1, e2, e3, e4]) rfl ?_
        clear e0 e1 e2 e3 e4 hb5
        have hrg : rb < gb := by have := HRB.out.lt; have := HQ1.out.lt; have := HSZ2.out; omega
        refine ⟨.mk op n nm sb (some ⟨gb, 0, none⟩) args.length es, by simp [Ex.val, Ex.cs, hel], ⟨?_, .mk H12.out.1 H12.out.2 h2 h3 (by omega) ?_ ?_, ?_, ?_⟩, HOw.out.trans o6 (fun b hb => by simp at hb; subst hb; exact .inr HG.out.2.2.2.2.2)⟩
        · rw [Ex.tr, Ex.tr]
          congr 1
          refine List.ext_getElem? fun i => ?_
          rw [List.getElem?_map, List.getElem?_map]
          by_cases hi : i < es.length
          · obtain ⟨a, ha, hcp, -⟩ := HES.out i _ (List.getElem?_eq_getElem hi)
            rw [List.getElem?_eq_getElem hi, ha]
            simp [hcp.tr]
          · rw [List.getElem?_eq_none (by omega), List.getElem?_eq_none (by omega)]
        · intro i e' hi
          obtain ⟨a, ha, hcp, hra⟩ := HES.out i e' hi
          exact hra.only o6 (fun p hp => by injection hp with hp; subst hp; simp; omega)
        · intro e' he'
          obtain ⟨i, hi⟩ := List.getElem?_of_mem he'
          obtain ⟨a, ha, hcp, hra⟩ := HES.out i e' hi
          refine hcp.lies.only o6 (fun b hb hm => ?_)
          have := hcp.off b hb
          simp at hm
          omega
        · intro b hb
          rw [Ex.blks, List.mem_append] at hb
          rcases hb with hb | hb
          · simp at hb
            subst hb
            exact Nat.le_of_lt HG.out.1
          · obtain ⟨l, hl, hbl⟩ := List.mem_flatten.1 hb
            obtain ⟨e', he', rfl⟩ := List.mem_map.1 hl
            obtain ⟨i, hi⟩ := List.getElem?_of_mem he'
            obtain ⟨a, ha, hcp, hra⟩ := HES.out i e' hi
            have := hcp.off b hbl
            have := HG.out.1
            omega
        · intro b hb
          rw [Ex.blks, List.mem_append] at hb
          rcases hb with hb | hb
          · simp at hb
            subst hb
            have := HCUR.out; have := o6.size; have := HBG.out.lt; omega
          · obtain ⟨l, hl, hbl⟩ := List.mem_flatten.1 hb
            obtain ⟨e', he', rfl⟩ := List.mem_map.1 hl
            obtain ⟨i, hi⟩ := List.getElem?_of_mem he'
            obtain ⟨a, ha, hcp, hra⟩ := HES.out i e' hi
            have := hcp.top b hbl
            have := o6.size
            omega
end Go.Proofs.YtfnacnlaphpflaaDoor
