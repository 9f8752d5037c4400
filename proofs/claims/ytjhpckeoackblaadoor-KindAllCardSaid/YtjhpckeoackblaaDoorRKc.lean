/- The document's kind, part c. -/
import Derived.Test.YtjhpckeoackblaaDoorRK1
namespace Go.Proofs.YtjhpckeoackblaaDoor
open Go.RowKit Go.Kx
open Go.Val (Tt)
set_option maxRecDepth 100000
set_option maxHeartbeats 32000000 in
theorem rkindC {B0 : Nat} {A1 : Option Addr} {c1 : Nat} {vars : List Vr} {A2 : Option Addr} {c2 : Nat} {ports : List Pr} {bag : Bool} {A3 : Option Addr} {c3 : Nat} {of : List Vr} (hok : OkN vars ports of) (hlow : LowN B0 vars ports of) {op n : Int} {nm sb : ByteArray} {A : Option Addr} {cap : Nat} {args : List Ex} (ih : ∀ a ∈ args, KindAt B0 A1 c1 vars A2 c2 ports bag A3 c3 of a) (hops : op = 7 ∨ op = 8 ∨ op = 9 ∨ op = 10) :
    KindAt B0 A1 c1 vars A2 c2 ports bag A3 c3 of (.mk op n nm sb A cap args) := by
  intro w hB hL hr hN
  obtain ⟨-, -, hlen, hrow, hsub⟩ := hL.inv
  rw [right_mk, Bool.and_eq_true] at hr
  have har := ar_of hr.1
  have har2 := ar2_of hr.1
  have hra := List.all_eq_true.1 hr.2
  have HR := Lib.hid hrow
  have HS := Lib.hid hsub
  have HI := Lib.hid ih
  have HRA := Lib.hid hra
  have HNM := Lib.hid hN
  have HOK := Lib.hid hok
  have HLOW := Lib.hid hlow
  have HB0 := Lib.hid hB
  have HOPS := Lib.hid hops
  obtain ⟨pp, hpp⟩ : ∃ pp, (Ex.mk op n nm sb A cap args).tr.kind ⟨vars.map Vr.tr, ports.map Pr.tr, bag, of.map Vr.tr⟩ = pp := ⟨_, rfl⟩
  have HERR := Lib.hid (fun k a p => fun h1 h2 h3 h4 => (kind_err (nm := ⟨vars.map Vr.tr, ports.map Pr.tr, bag, of.map Vr.tr⟩) (op := op) (n := n) (s := nm) (u := sb) (A := A) (cap := cap) (args := args) (k := k) (a := a) (p := p) h1 h2 h3 h4).symm.trans hpp)
  have HLF0 := Lib.hid (fun h => hpp.symm.trans (kind_leaf (nm := ⟨vars.map Vr.tr, ports.map Pr.tr, bag, of.map Vr.tr⟩) (op := op) (n := n) (s := nm) (u := sb) (A := A) (cap := cap) (args := args) h))
  rw [hpp]
  clear hpp
  obtain ⟨ne, hne⟩ : ∃ ne, args.length = ne := ⟨_, rfl⟩
  obtain ⟨n1, hn1⟩ : ∃ n1, vars.length = n1 := ⟨_, rfl⟩
  obtain ⟨n2, hn2⟩ : ∃ n2, ports.length = n2 := ⟨_, rfl⟩
  obtain ⟨n3, hn3⟩ : ∃ n3, of.length = n3 := ⟨_, rfl⟩
  rw [hne] at har har2
  have HNE := Lib.hid hne
  have HL1 := Lib.hid hn1
  have HL2 := Lib.hid hn2
  have HL3 := Lib.hid hn3
  have HAR := Lib.hid har
  have HAR2 := Lib.hid har2
  have hle4 := har.le4
  show Calls Tryd.prog 22 #[.agg #[.int .i64 op, .int .i64 n, .string nm, .string sb, .slice A args.length cap], .agg #[.slice A1 vars.length c1, .slice A2 ports.length c2, .bool bag, .slice A3 of.length c3]] w _
  rw [hne, hn1, hn2, hn3]
  have h0 := Blk.new w 24 #[.int .i64 op, .int .i64 n, .string nm, .string sb, .slice A ne cap]
  have h1 := Blk.new (w.alloc (.cells #[.int .i64 op, .int .i64 n, .string nm, .string sb, .slice A ne cap] 24)) 28 #[.slice A1 n1 c1, .slice A2 n2 c2, .bool bag, .slice A3 n3 c3]
  have h2 := Blk.new ((w.alloc (.cells #[.int .i64 op, .int .i64 n, .string nm, .string sb, .slice A ne cap] 24)).alloc (.cells #[.slice A1 n1 c1, .slice A2 n2 c2, .bool bag, .slice A3 n3 c3] 28)) 34 #[.int .i64 0, .slice none 0 0]
  have h3 := Blk.new (((w.alloc (.cells #[.int .i64 op, .int .i64 n, .string nm, .string sb, .slice A ne cap] 24)).alloc (.cells #[.slice A1 n1 c1, .slice A2 n2 c2, .bool bag, .slice A3 n3 c3] 28)).alloc (.cells #[.int .i64 0, .slice none 0 0] 34)) 34 #[.int .i64 0, .slice none 0 0]
  have h4 := Blk.new ((((w.alloc (.cells #[.int .i64 op, .int .i64 n, .string nm, .string sb, .slice A ne cap] 24)).alloc (.cells #[.slice A1 n1 c1, .slice A2 n2 c2, .bool bag, .slice A3 n3 c3] 28)).alloc (.cells #[.int .i64 0, .slice none 0 0] 34)).alloc (.cells #[.int .i64 0, .slice none 0 0] 34)) 34 #[.int .i64 0, .slice none 0 0]
  have h5 := Blk.new (((((w.alloc (.cells #[.int .i64 op, .int .i64 n, .string nm, .string sb, .slice A ne cap] 24)).alloc (.cells #[.slice A1 n1 c1, .slice A2 n2 c2, .bool bag, .slice A3 n3 c3] 28)).alloc (.cells #[.int .i64 0, .slice none 0 0] 34)).alloc (.cells #[.int .i64 0, .slice none 0 0] 34)).alloc (.cells #[.int .i64 0, .slice none 0 0] 34)) 34 #[.int .i64 1, .slice none 0 0]
  simp only [World.size_alloc] at h1 h2 h3 h4 h5
  have HX0 := Lib.hid (show Blk ((((((w.alloc (.cells #[.int .i64 op, .int .i64 n, .string nm, .string sb, .slice A ne cap] 24)).alloc (.cells #[.slice A1 n1 c1, .slice A2 n2 c2, .bool bag, .slice A3 n3 c3] 28)).alloc (.cells #[.int .i64 0, .slice none 0 0] 34)).alloc (.cells #[.int .i64 0, .slice none 0 0] 34)).alloc (.cells #[.int .i64 0, .slice none 0 0] 34)).alloc (.cells #[.int .i64 1, .slice none 0 0] 34)) w.heap.size 24 #[.int .i64 op, .int .i64 n, .string nm, .string sb, .slice A ne cap] from Blk.alloc (Blk.alloc (Blk.alloc (Blk.alloc (Blk.alloc h0 _) _) _) _) _)
  have HN0 := Lib.hid (show Blk ((((((w.alloc (.cells #[.int .i64 op, .int .i64 n, .string nm, .string sb, .slice A ne cap] 24)).alloc (.cells #[.slice A1 n1 c1, .slice A2 n2 c2, .bool bag, .slice A3 n3 c3] 28)).alloc (.cells #[.int .i64 0, .slice none 0 0] 34)).alloc (.cells #[.int .i64 0, .slice none 0 0] 34)).alloc (.cells #[.int .i64 0, .slice none 0 0] 34)).alloc (.cells #[.int .i64 1, .slice none 0 0] 34)) (w.heap.size + 1) 28 #[.slice A1 n1 c1, .slice A2 n2 c2, .bool bag, .slice A3 n3 c3] from Blk.alloc (Blk.alloc (Blk.alloc (Blk.alloc h1 _) _) _) _)
  have HR0 := Lib.hid (show Blk ((((((w.alloc (.cells #[.int .i64 op, .int .i64 n, .string nm, .string sb, .slice A ne cap] 24)).alloc (.cells #[.slice A1 n1 c1, .slice A2 n2 c2, .bool bag, .slice A3 n3 c3] 28)).alloc (.cells #[.int .i64 0, .slice none 0 0] 34)).alloc (.cells #[.int .i64 0, .slice none 0 0] 34)).alloc (.cells #[.int .i64 0, .slice none 0 0] 34)).alloc (.cells #[.int .i64 1, .slice none 0 0] 34)) (w.heap.size + 1 + 1) 34 #[.int .i64 0, .slice none 0 0] from Blk.alloc (Blk.alloc (Blk.alloc h2 _) _) _)
  have H60 := Lib.hid (show Blk ((((((w.alloc (.cells #[.int .i64 op, .int .i64 n, .string nm, .string sb, .slice A ne cap] 24)).alloc (.cells #[.slice A1 n1 c1, .slice A2 n2 c2, .bool bag, .slice A3 n3 c3] 28)).alloc (.cells #[.int .i64 0, .slice none 0 0] 34)).alloc (.cells #[.int .i64 0, .slice none 0 0] 34)).alloc (.cells #[.int .i64 0, .slice none 0 0] 34)).alloc (.cells #[.int .i64 1, .slice none 0 0] 34)) (w.heap.size + 1 + 1 + 1) 34 #[.int .i64 0, .slice none 0 0] from Blk.alloc (Blk.alloc h3 _) _)
  have H70 := Lib.hid (show Blk ((((((w.alloc (.cells #[.int .i64 op, .int .i64 n, .string nm, .string sb, .slice A ne cap] 24)).alloc (.cells #[.slice A1 n1 c1, .slice A2 n2 c2, .bool bag, .slice A3 n3 c3] 28)).alloc (.cells #[.int .i64 0, .slice none 0 0] 34)).alloc (.cells #[.int .i64 0, .slice none 0 0] 34)).alloc (.cells #[.int .i64 0, .slice none 0 0] 34)).alloc (.cells #[.int .i64 1, .slice none 0 0] 34)) (w.heap.size + 1 + 1 + 1 + 1) 34 #[.int .i64 0, .slice none 0 0] from Blk.alloc h4 _)
  have H80 := Lib.hid h5
  have HO0 := Lib.hid (show Only [] w ((((((w.alloc (.cells #[.int .i64 op, .int .i64 n, .string nm, .string sb, .slice A ne cap] 24)).alloc (.cells #[.slice A1 n1 c1, .slice A2 n2 c2, .bool bag, .slice A3 n3 c3] 28)).alloc (.cells #[.int .i64 0, .slice none 0 0] 34)).alloc (.cells #[.int .i64 0, .slice none 0 0] 34)).alloc (.cells #[.int .i64 0, .slice none 0 0] 34)).alloc (.cells #[.int .i64 1, .slice none 0 0] 34)) from ((((((Only.refl [] w).alloc _).alloc _).alloc _).alloc _).alloc _).alloc _)
  clear hL hlen hrow hsub hr har har2 hra ih hB hN hok hlow hops h0 h1 h2 h3 h4 h5 hne hn1 hn2 hn3
  go_enter Tryd.func22, Tryd.ntmps22
  go_wp2_with (fail)
  go_loopw [9, 10, 11, 12, 13] (fun v a b c i wr => ∃ (k : Nat) (A2' : Option Addr) (c2' : Nat) (es : List Tx) (q1 q2 q3 : Bool), i = .int .i64 k ∧ v = .slice A2' k c2' ∧ a = .bool q1 ∧ b = .bool q2 ∧ c = .bool q3 ∧ k ≤ ne ∧ Hid (es.length = k) ∧ Hid (errK ((args.take k).map fun x => x.tr.kind ⟨vars.map Vr.tr, ports.map Pr.tr, bag, of.map Vr.tr⟩) = none) ∧ Hid (es.map Tx.tr = (args.take k).map fun x => (x.tr.kind ⟨vars.map Vr.tr, ports.map Pr.tr, bag, of.map Vr.tr⟩).1) ∧ Hid (q1 = intsB (es.map Tx.tr) ∧ q2 = boolsB (es.map Tx.tr) ∧ q3 = sameB (es.map Tx.tr)) ∧ Hid (ArgsT (w.heap.size + 6) wr A2' c2' es) ∧ Hid (∀ e ∈ es, ∀ b ∈ e.bks, b < B0 ∨ w.heap.size + 6 ≤ b) ∧
    Hid (Blk wr w.heap.size 24 #[.int .i64 op, .int .i64 n, .string nm, .string sb, .slice A ne cap]) ∧ Hid (Blk wr (w.heap.size + 1) 28 #[.slice A1 n1 c1, .slice A2 n2 c2, .bool bag, .slice A3 n3 c3]) ∧ Hid (Blk wr (w.heap.size + 1 + 1) 34 #[.int .i64 0, .slice none 0 0]) ∧ Hid (Blk wr (w.heap.size + 1 + 1 + 1) 34 #[.int .i64 0, .slice none 0 0]) ∧ Hid (Blk wr (w.heap.size + 1 + 1 + 1 + 1) 34 #[.int .i64 0, .slice none 0 0]) ∧ Hid (Blk wr (w.heap.size + 1 + 1 + 1 + 1 + 1) 34 #[.int .i64 1, .slice none 0 0]) ∧ Hid (Only [] w wr)) (fun _ _ _ _ i _ => ne - (intOf i).toNat)
  case atStart => exact ⟨0, none, 0, [], true, true, true, rfl, rfl, rfl, rfl, rfl, Nat.zero_le _, Lib.hid rfl, Lib.hid rfl, Lib.hid rfl, Lib.hid ⟨rfl, rfl, rfl⟩, Lib.hid (ArgsT.nil _ _), Lib.hid (fun e h => by simp at h), HX0, HN0, HR0, H60, H70, H80, HO0⟩
  case round =>
    obtain ⟨k, A2', c2', es, q1, q2, q3, rfl, rfl, rfl, rfl, rfl, hk, HEL, HER, HETR, HQ, HARG, HEO, HX, HN9, HRB, H6, H7, H8, HOr⟩ := hrel
    by_cases hlt : k < ne
    · obtain ⟨e, he⟩ : ∃ e, args[k]? = some e := ⟨_, List.getElem?_eq_getElem (by rw [HNE.out]; exact hlt)⟩
      have hmem : e ∈ args := List.mem_of_getElem? he
      have HLe := Lib.hid ((HS.out e hmem).keep HOr.out)
      have hre := HRA.out e hmem
      have hcall := HI.out e hmem
      have hrowk := (HR.out k _ he).only HOr.out (by simp)
      have HTK1 := Lib.hid (show (args.take (k + 1)).map (fun x => x.tr.kind ⟨vars.map Vr.tr, ports.map Pr.tr, bag, of.map Vr.tr⟩) = (args.take k).map (fun x => x.tr.kind ⟨vars.map Vr.tr, ports.map Pr.tr, bag, of.map Vr.tr⟩) ++ [e.tr.kind ⟨vars.map Vr.tr, ports.map Pr.tr, bag, of.map Vr.tr⟩] by rw [List.take_add_one, he, List.map_append]; rfl)
      have HTK2 := Lib.hid (show (args.take (k + 1)).map (fun x => (x.tr.kind ⟨vars.map Vr.tr, ports.map Pr.tr, bag, of.map Vr.tr⟩).1) = (args.take k).map (fun x => (x.tr.kind ⟨vars.map Vr.tr, ports.map Pr.tr, bag, of.map Vr.tr⟩).1) ++ [(e.tr.kind ⟨vars.map Vr.tr, ports.map Pr.tr, bag, of.map Vr.tr⟩).1] by rw [List.take_add_one, he, List.map_append]; rfl)
      have HERRk := Lib.hid (fun p h3 h4 => HERR.out k e p HER.out he h3 h4)
      have HCA0 := Lib.hid (fun W (o : Only [] wr W) => hcall W (Nat.le_trans HB0.out (HOr.out.trans o (by simp)).size) (HLe.out.keep o) hre (HNM.out.keep (HOr.out.trans o (by simp))))
      obtain ⟨pe, hpe⟩ : ∃ pe, e.tr.kind ⟨vars.map Vr.tr, ports.map Pr.tr, bag, of.map Vr.tr⟩ = pe := ⟨_, rfl⟩
      have HERRp := Lib.hid (HERRk.out pe hpe)
      rw [hpe] at HTK1 HTK2
      simp only [hpe] at HCA0
      rw [HL1.out, HL2.out, HL3.out] at HCA0
      clear hpe HERRk
      obtain ⟨xop, xn, xnm, xsb, xA, xcap, xargs⟩ := e
      obtain ⟨b, o, rfl, hbb, c0, c1', c2'', c3', c4⟩ := hrowk.cells
      have HCA := Lib.hid (show ∀ W, Only [] wr W → Calls Tryd.prog 22 #[.agg #[.int .i64 xop, .int .i64 xn, .string xnm, .string xsb, .slice xA xargs.length xcap], .agg #[.slice A1 n1 c1, .slice A2 n2 c2, .bool bag, .slice A3 n3 c3]] W fun r w' => RK B0 W pe r w' from HCA0.out)
      have HCC := Lib.hid (And.intro hbb (And.intro c0 (And.intro c1' (And.intro c2'' (And.intro c3' c4)))))
      have HB6 := Lib.hid (show w.heap.size + 6 ≤ wr.heap.size ∧ B0 ≤ w.heap.size from ⟨H8.out.lt, HB0.out⟩)
      obtain ⟨x0, x1, x2, x3, x4, xl⟩ := HX.out.facts5
      have ik0 : (0 : Int) ≤ (k : Int) := by omega
      have ik1 : (k : Int) < (ne : Int) := by omega
      obtain ⟨wq, hwq⟩ : ∃ wq : World, wq = wr := ⟨_, rfl⟩
      subst hwq
      clear he hmem hre hcall hrowk HCA0 c0 c1' c2'' c3' c4 hbb
      go_wp2_with (fail)
      clear x0 x1 x2 x3 x4 xl
      refine (wpIn_wide (n := 9)).1 ?_
      refine wpIn_region_relG 12 (RelF wq.heap.size) (V9 wq) (F9 B0 wq pe (.pointer (some ⟨w.heap.size, 4, none⟩)) (.slice (some ⟨b, o, none⟩) ne cap) (.int .i64 (k : Int)) (.pointer (some ⟨b, o + k * 5, none⟩)) (.agg #[.int .i64 xop, .int .i64 xn, .string xnm, .string xsb, .slice xA xargs.length xcap]) (.agg #[.slice A1 n1 c1, .slice A2 n2 c2, .bool bag, .slice A3 n3 c3])) none (fr := ?fr9) (tl := ?tl9) (.inl rfl) (by kernel_rfl) (by kernel_rfl) (by kernel_rfl) (by kernel_rfl) (by kernel_rfl) (by kernel_rfl) (by decide) ?htl9 ?hfr9 (RelF.of (Only.refl _ _)) (fun _ _ _ h k => h.trans k) (fun tb hg => by cases hg) ?steps9 ?done9
      case htl9 => simp only [List.drop_succ_cons, List.drop_zero]; rfl
      case hfr9 => intro vals; simp only [putAll, dstAt, Act.put, List.getElem?_toArray, List.getElem?_cons_zero, List.getElem?_cons_succ, Option.bind_some, List.setIfInBounds_toArray, List.set_cons_zero, List.set_cons_succ]; rfl
      case steps9 =>
        refine ⟨?_, ?_, ?_, ?_, ?_, ?_, ?_, ?_, ?_, ?_, ?_, ?_, trivial⟩
        · intro g vals wr hR hV hp K hK
          dsimp only at hK ⊢
          replace hR := hR.only (Nat.le_refl _)
          clear hp
          unfold RunsOp
          go_simp
          exact hK.out _ _ ⟨_, g, rfl, RelF.of (Only.refl _ _), hV, rfl, fun _ _ _ _ h => h⟩
        · intro g vals wr hR hV hp K hK
          dsimp only at hK ⊢
          replace hR := hR.only (Nat.le_refl _)
          obtain ⟨p0, -⟩ := hp
          replace p0 := p0 rfl
          replace p0 : vals 0 = .pointer (some ⟨w.heap.size, 4, none⟩) := p0
          rw [p0] at hK ⊢
          clear p0
          unfold RunsOp
          obtain ⟨k0, k1, k2, k3, k4, kl⟩ := (hR.blk (Blk.drew HX.out) (by simp)).facts5
          go_simp
          exact hK.out _ _ ⟨_, g, rfl, RelF.of (Only.refl _ _), hV, rfl, fun _ _ _ _ h => h⟩
        · intro g vals wr hR hV hp K hK
          dsimp only at hK ⊢
          replace hR := hR.only (Nat.le_refl _)
          clear hp
          unfold RunsOp
          go_simp
          exact hK.out _ _ ⟨_, g, rfl, RelF.of (Only.refl _ _), hV, rfl, fun _ _ _ _ h => h⟩
        · intro g vals wr hR hV hp K hK
          dsimp only at hK ⊢
          replace hR := hR.only (Nat.le_refl _)
          obtain ⟨p1, p2, -⟩ := hp
          replace p1 := p1 rfl
          replace p2 := p2 rfl
          replace p1 : vals 1 = .slice (some ⟨b, o, none⟩) ne cap := p1
          replace p2 : vals 2 = .int .i64 (k : Int) := p2
          rw [p1, p2] at hK ⊢
          clear p1 p2
          unfold RunsOp
          go_simp
          exact hK.out _ _ ⟨_, g, rfl, RelF.of (Only.refl _ _), hV, rfl, fun _ _ _ _ h => h⟩
        · intro g vals wr hR hV hp K hK
          dsimp only at hK ⊢
          replace hR := hR.only (Nat.le_refl _)
          obtain ⟨p3, -⟩ := hp
          replace p3 := p3 rfl
          replace p3 : vals 3 = .pointer (some ⟨b, o + k * 5, none⟩) := p3
          rw [p3] at hK ⊢
          clear p3
          unfold RunsOp
          have c0 := (hR.cell (p := ⟨b, o + k * 5, none⟩) HCC.out.1 (by simp)).trans HCC.out.2.1
          have c1 := (hR.cell (p := ⟨b, o + k * 5 + 1, none⟩) HCC.out.1 (by simp)).trans HCC.out.2.2.1
          have c2 := (hR.cell (p := ⟨b, o + k * 5 + 2, none⟩) HCC.out.1 (by simp)).trans HCC.out.2.2.2.1
          have c3 := (hR.cell (p := ⟨b, o + k * 5 + 3, none⟩) HCC.out.1 (by simp)).trans HCC.out.2.2.2.2.1
          have c4 := (hR.cell (p := ⟨b, o + k * 5 + 4, none⟩) HCC.out.1 (by simp)).trans HCC.out.2.2.2.2.2
          go_simp
          exact hK.out _ _ ⟨_, g, rfl, RelF.of (Only.refl _ _), hV, rfl, fun _ _ _ _ h => h⟩
        · intro g vals wr hR hV hp K hK
          dsimp only at hK ⊢
          replace hR := hR.only (Nat.le_refl _)
          clear hp
          unfold RunsOp
          obtain ⟨k0, k1, k2, k3, kl⟩ := (hR.blk (Blk.drew HN9.out) (by simp)).facts4
          go_simp
          exact hK.out _ _ ⟨_, g, rfl, RelF.of (Only.refl _ _), hV, rfl, fun _ _ _ _ h => h⟩
        · intro g vals wr hR hV hp K hK
          dsimp only at hK ⊢
          replace hR := hR.only (Nat.le_refl _)
          obtain ⟨p4, p5, -⟩ := hp
          replace p4 := p4 rfl
          replace p5 := p5 rfl
          replace p4 : vals 4 = .agg #[.int .i64 xop, .int .i64 xn, .string xnm, .string xsb, .slice xA xargs.length xcap] := p4
          replace p5 : vals 5 = .agg #[.slice A1 n1 c1, .slice A2 n2 c2, .bool bag, .slice A3 n3 c3] := p5
          rw [p4, p5] at hK ⊢
          clear p4 p5
          unfold RunsOp
          have HV := Lib.hid hV
          clear hV
          go_simp
          refine (HCA.out _ ((Only.refl [] _).drew.trans hR (by simp))).mono ?_
          rintro e' w2 ⟨yk, yA, ycap, yl, rfl, hc, o2⟩
          exact hK.out _ _ ⟨_, g, rfl, RelF.of o2, HV.out.keep o2, ⟨yk, yA, ycap, yl, rfl, hc.low hR.size, fun tb hg hm => by obtain ⟨h1, c0, c1, h1'⟩ := HV.out tb hg; have h2 := h1'.lt; have h3 := HB6.out; rcases hc.off tb hm with h | h <;> omega⟩, fun _ _ _ _ h => F9.keep o2 h⟩
        · intro g vals wr hR hV hp K hK
          dsimp only at hK ⊢
          replace hR := hR.only (Nat.le_refl _)
          obtain ⟨p6, -⟩ := hp
          replace p6 := p6 rfl
          obtain ⟨yk, yA, ycap, yl, e6, hc6, hn6⟩ := p6
          rw [e6] at hK ⊢
          clear e6
          unfold RunsOp
          have HC := Lib.hid (And.intro hc6 hn6)
          clear hc6 hn6
          go_simp
          exact hK.out _ _ ⟨_, g, rfl, RelF.of (Only.refl _ _), hV, ⟨yk, yA, ycap, yl, rfl, HC.out.1, HC.out.2⟩, fun _ _ _ _ h => h⟩
        · intro g vals wr hR hV hp K hK
          dsimp only at hK ⊢
          replace hR := hR.only (Nat.le_refl _)
          obtain ⟨p7, -⟩ := hp
          replace p7 := p7 rfl
          obtain ⟨yk, yA, ycap, yl, e7, hc7, hn7⟩ := p7
          rw [e7] at hK ⊢
          clear e7
          unfold RunsOp
          have HC := Lib.hid (And.intro hc7 hn7)
          clear hc7 hn7
          go_simp
          exact hK.out _ _ ⟨_, g, rfl, RelF.of (Only.refl _ _), hV, ⟨yk, yA, ycap, yl, rfl, HC.out.1, HC.out.2⟩, fun _ _ _ _ h => h⟩
        · intro g vals wr hR hV hp K hK
          dsimp only at hK ⊢
          replace hR := hR.only (Nat.le_refl _)
          obtain ⟨p7, -, -⟩ := hp
          replace p7 := p7 rfl
          obtain ⟨yk, yA, ycap, yl, e7, hc7, hn7⟩ := p7
          rw [e7] at hK ⊢
          clear e7
          unfold RunsOp
          clear hc7 hn7
          go_simp
          exact hK.out _ _ ⟨_, g, rfl, RelF.of (Only.refl _ _), hV, rfl, fun _ _ _ _ h => h⟩
        · intro g vals wr hR hV hp K hK
          dsimp only at hK ⊢
          replace hR := hR.only (Nat.le_refl _)
          clear hp
          unfold RunsOp
          have HV := Lib.hid hV
          clear hV
          have ho := (show Only [] wr (wr.alloc (.cells #[.int .i64 0, .slice none 0 0] 34)) from (Only.refl _ _).alloc _)
          have hb := Blk.new wr 34 #[.int .i64 0, .slice none 0 0]
          have HH := Lib.hid (And.intro ho (And.intro hb hR.size))
          clear ho hb
          go_simp
          exact hK.out _ _ ⟨_, some wr.heap.size, rfl, RelF.of HH.out.1, fun tb hg => by injection hg with hg; subst hg; exact ⟨HH.out.2.2, _, _, HH.out.2.1⟩, ⟨_, rfl, rfl⟩, fun j u hj hn h => F9.laid hj (fun e => by subst e; exact Bool.noConfusion ((show _ = true by kernel_rfl).symm.trans hn)) HH.out.1 h⟩
        · intro g vals wr hR hV hp K hK
          dsimp only at hK ⊢
          replace hR := hR.only (Nat.le_refl _)
          obtain ⟨p10, p8, -, -, -, -, -, -, -, -, -, -, -, -, -⟩ := hp
          replace p10 := p10 rfl
          replace p8 := p8 rfl
          obtain ⟨tb, hg, e10⟩ := p10
          obtain ⟨yk, yA, ycap, yl, e8, hc8, hn8⟩ := p8
          rw [e10, e8] at hK ⊢
          clear e10 e8
          unfold RunsOp
          obtain ⟨hvl, c0, c1, hvb⟩ := hV tb hg
          obtain ⟨t0, t1, tl⟩ := hvb.facts2
          have tg0 := hvb.frozen 0
          have tg1 := hvb.frozen 1
          have ho : Only [tb] wr ((wr.setCell ⟨tb, 0, none⟩ (.int .i64 yk)).setCell ⟨tb, 1, none⟩ (.slice yA yl.length ycap)) := ((Only.refl [tb] wr).setCell (.inl (by simp)) _).setCell (.inl (by simp)) _
          have hb := (hvb.set_ 0 (.int .i64 yk)).set_ 1 (.slice yA yl.length ycap)
          have HC := Lib.hid (And.intro hc8 (hn8 tb hg))
          have HH := Lib.hid (And.intro ho (And.intro hb (And.intro hvl hV)))
          clear ho hb hvb hV hc8 hn8 hvl
          go_simp
          exact hK.out _ _ ⟨.int .i64 0, g, rfl, ⟨[tb], fun x hx => by simp at hx; subst hx; exact HH.out.2.2.1, HH.out.1⟩, fun tb' hg' => by obtain rfl : tb = tb' := (by rw [hg] at hg'; injection hg'); exact ⟨HH.out.2.2.1, _, _, HH.out.2.1⟩, ⟨tb, yk, yA, ycap, yl, hg, HH.out.2.1, ⟨HC.out.1.tr, HC.out.1.lies.only HH.out.1 (fun x hx hm => by simp at hm; subst hm; exact HC.out.2 hx), HC.out.1.off⟩, HC.out.2⟩, fun _ _ hj _ h => F9.set hg hj HH.out.1 h⟩
      case done9 =>
        intro g vals wd hR hV hF
        have f0 : vals 0 = .pointer (some ⟨w.heap.size, 4, none⟩) := hF 0 (by decide)
        have f1 : vals 1 = .slice (some ⟨b, o, none⟩) ne cap := hF 1 (by decide)
        have f2 : vals 2 = .int .i64 (k : Int) := hF 2 (by decide)
        have f3 : vals 3 = .pointer (some ⟨b, o + k * 5, none⟩) := hF 3 (by decide)
        have f4 : vals 4 = .agg #[.int .i64 xop, .int .i64 xn, .string xnm, .string xsb, .slice xA xargs.length xcap] := hF 4 (by decide)
        have f5 : vals 5 = .agg #[.slice A1 n1 c1, .slice A2 n2 c2, .bool bag, .slice A3 n3 c3] := hF 5 (by decide)
        have f9 : vals 9 = .int .i64 pe.2 := hF 9 (by decide)
        obtain ⟨tb, hg, f10⟩ := hF 10 (by decide)
        obtain ⟨tb', yk, yA, ycap, yl, hg', hTB, hTK, hnb⟩ := hF 11 (by decide)
        obtain rfl : tb = tb' := (by rw [hg] at hg'; injection hg')
        have htbw := (hV tb hg).1
        replace hR := hR.only (Nat.le_refl _)
        rw [f0, f1, f2, f3, f4, f5, f9, f10]
        clear f0 f1 f2 f3 f4 f5 f9 f10
        have HOd := Lib.hid ((Only.refl [] wq).drew.trans hR (by simp))
        have HT4 := Lib.hid hTB
        have HX4 := Lib.hid (HOd.out.blk HX.out (by simp))
        have HN4 := Lib.hid (HOd.out.blk HN9.out (by simp))
        have HR4 := Lib.hid (HOd.out.blk HRB.out (by simp))
        have H64 := Lib.hid (HOd.out.blk H6.out (by simp))
        have H74 := Lib.hid (HOd.out.blk H7.out (by simp))
        have H84 := Lib.hid (HOd.out.blk H8.out (by simp))
        have HO4 := HOd
        have HTK4 := Lib.hid hTK
        have hb6 := HB6.out.1
        obtain ⟨w4, hw4⟩ : ∃ w4 : World, w4 = wd := ⟨_, rfl⟩
        subst hw4
        clear hR hV hF hg hg' hTK hnb hTB HOd
        by_cases h0 : pe.2 = 0
        · have d0 : (pe.2 != 0) = false := by rw [h0]; rfl
          have HPE0 := Lib.hid h0
          clear h0
          have HARG4 := Lib.hid (HARG.out.keep HO4.out)
          have HYK := Lib.hid (show pe.1.k = yk by rw [← HTK4.out.tr, Tx.tr_mk]; rfl)
          have HTR5 := Lib.hid (show (es ++ [Tx.mk yk yA ycap yl]).map Tx.tr = es.map Tx.tr ++ [pe.1] by rw [List.map_append, ← HTK4.out.tr]; rfl)
          have HI5 := Lib.hid (show intsB ((es ++ [Tx.mk yk yA ycap yl]).map Tx.tr) = (q1 && (yk == 0)) by rw [HTR5.out, intsB_snoc, HQ.out.1, HYK.out])
          have HB5 := Lib.hid (show boolsB ((es ++ [Tx.mk yk yA ycap yl]).map Tx.tr) = (q2 && (yk == 1)) by rw [HTR5.out, boolsB_snoc, HQ.out.2.1, HYK.out])
          have HS5 := Lib.hid (show sameB ((es ++ [Tx.mk yk yA ycap yl]).map Tx.tr) = (q3 && pe.1.same (((es ++ [Tx.mk yk yA ycap yl]).map Tx.tr).headD noT)) by rw [HTR5.out, sameB_snoc, HQ.out.2.2])
          -- the append
          obtain ⟨wz, hwz⟩ : ∃ wz : World, w4.alloc (.cells #[.int .i64 yk, .slice yA yl.length ycap] 34) = wz := ⟨_, rfl⟩
          have HWZ := Lib.hid hwz
          have HZ := Lib.hid (show Blk wz w4.heap.size 34 #[.int .i64 yk, .slice yA yl.length ycap] by rw [← hwz]; exact Blk.new w4 34 _)
          have HOZ := Lib.hid (show Only [] w4 wz by rw [← hwz]; exact (Only.refl _ _).alloc _)
          obtain ⟨A5, c5, w5, hrun, ho5, oo5, hA5⟩ := run_appT (w := wz) (M := [.mk yk yA ycap yl]) (by have h := (HARG4.out.keep HOZ.out).own; rw [HEL.out] at h; exact h) (z := w4.heap.size) (cz := 1) (fun j u hj => by rw [HZ.out.cell]; simpa [flat2, Tx.cs] using hj) (by simp; omega) (by have := HO4.out.size; have := HOZ.out.size; omega)
          have hne := HARG.out.blk
          have hlo : ∀ x, x < w.heap.size + 6 → x ∉ A2'.toList.map (·.block) := fun x hx hm => by have := (hne x hm).1; omega
          have HX5 := Lib.hid (oo5.blk (HOZ.out.blk HX4.out (by simp)) (hlo _ (by omega)))
          have HN5 := Lib.hid (oo5.blk (HOZ.out.blk HN4.out (by simp)) (hlo _ (by omega)))
          have HR5 := Lib.hid (oo5.blk (HOZ.out.blk HR4.out (by simp)) (hlo _ (by omega)))
          have H65 := Lib.hid (oo5.blk (HOZ.out.blk H64.out (by simp)) (hlo _ (by omega)))
          have H75 := Lib.hid (oo5.blk (HOZ.out.blk H74.out (by simp)) (hlo _ (by omega)))
          have H85 := Lib.hid (oo5.blk (HOZ.out.blk H84.out (by simp)) (hlo _ (by omega)))
          have HT5 := Lib.hid (oo5.blk (HOZ.out.blk HT4.out (by simp)) (fun hm => by have := (hne _ hm).2; omega))
          have HSTEP := Lib.hid (HARG.out.step (B0 := B0) (y := .mk yk yA ycap yl) (by have := HB0.out; omega) HB6.out.1 (HO4.out.trans HOZ.out (by simp)) (HTK4.out.lies.keep HOZ.out) HTK4.out.off oo5 (by rw [HEL.out]; exact ho5) hA5 (Only.refl [] w5) (by simp))
          have HNEW := Lib.hid (show (∀ e ∈ es ++ [Tx.mk yk yA ycap yl], ∀ b ∈ e.bks, b < B0 ∨ w.heap.size + 6 ≤ b) from fun e he b hb => by
            rcases List.mem_append.1 he with he | he
            · exact HEO.out e he b hb
            · simp at he; subst he; exact (HTK4.out.off b hb).imp id (fun h => by omega))
          have HO5 := Lib.hid ((HOr.out.trans (HO4.out.trans HOZ.out (by simp)) (by simp)).trans oo5 (fun x hx => .inr (by have := (hne x hx).1; omega)))
          have HLN5 := Lib.hid (show (es ++ [Tx.mk yk yA ycap yl]).length = k + 1 by rw [List.length_append, HEL.out]; rfl)
          have HROW := Lib.hid (HSTEP.out.row (by rw [HLN5.out]; omega))
          obtain ⟨hd, htl⟩ : ∃ hd, (es ++ [Tx.mk yk yA ycap yl])[0]? = some hd := ⟨_, List.getElem?_eq_getElem (by rw [HLN5.out]; omega)⟩
          have HHD := Lib.hid (show ((es ++ [Tx.mk yk yA ycap yl]).map Tx.tr).headD noT = hd.tr by
            generalize es ++ [Tx.mk yk yA ycap yl] = L at htl
            cases L with
            | nil => simp at htl
            | cons a l => simp at htl; subst htl; rfl)
          rw [HHD.out] at HS5
          have hrowh := HROW.out.row 0 hd htl
          have HSAME := Lib.hid (fun W (o : Only [] w5 W) => refsameT (.mk yk yA ycap yl) hd W ((HSTEP.out.lies _ (by simp)).keep o) ((HROW.out.sub hd (List.mem_of_getElem? htl)).keep o))
          rw [show (Tx.mk yk yA ycap yl).tr = pe.1 from HTK4.out.tr] at HSAME
          obtain ⟨sm, hsm⟩ : ∃ sm, pe.1.same hd.tr = sm := ⟨_, rfl⟩
          rw [hsm] at HS5 HSAME
          clear hsm htl ho5 oo5 hA5 hne hlo hwz htbw hb6
          obtain ⟨hk', hA', hcap', hl'⟩ := hd
          obtain ⟨bh, oh, hAe, hbh, v0, v1⟩ := hrowh.cells
          simp only [Nat.zero_mul, Nat.add_zero] at v0 v1
          subst hAe
          have HV2 := Lib.hid (And.intro hbh (And.intro v0 v1))
          have HSAME2 := Lib.hid (show ∀ W, Only [] w5 W → Calls Tryd.prog 12 #[.agg #[.int .i64 yk, .slice yA yl.length ycap], .agg #[.int .i64 hk', .slice hA' hl'.length hcap']] W fun r w' => r = .returned (.bool sm) ∧ Only [] W w' from HSAME.out)
          clear hbh v0 v1 hrowh HSAME
          obtain ⟨t0, t1, tl⟩ := HT4.out.facts2
          obtain ⟨u0, u1, ul⟩ := HT5.out.facts2
          cases q1
          · cases q2
            · cases q3
              · gi_wp2_with (fail)
                go_wp2_with (at_builtin; rw [HWZ.out]; refine wpList_append_run hrun rfl _ _ rfl rfl rfl rfl ?_)
                clear t0 t1 tl u0 u1 ul
                refine (wpIn_wide (n := 9)).1 ?_
                refine wpIn_region_relR 8 (Only []) (fr := ?frq000) (tl := ?tlq000) (fun iq v wv => match iq with
                  | 0 => v = .bool false
                  | 1 => v = .bool false
                  | 7 => v = .bool false
                  | _ => True) (.inl rfl) (by kernel_rfl) (by kernel_rfl) (by kernel_rfl) (by kernel_rfl) (by kernel_rfl) (by kernel_rfl) (by decide) ?htlq000 ?hfrq000 (Only.refl _ _) (fun _ _ _ h k => h.trans k (fun _ hx => .inl hx)) ?stabq000 ?stepsq000 ?doneq000
                case htlq000 => simp only [List.drop_succ_cons, List.drop_zero]; rfl
                case hfrq000 => intro vals; simp only [putAll, dstAt, Act.put, List.getElem?_toArray, List.getElem?_cons_zero, List.getElem?_cons_succ, Option.bind_some, List.setIfInBounds_toArray, List.set_cons_zero, List.set_cons_succ]; rfl
                case stabq000 =>
                  intro i v wa wb h
                  try dsimp only
                  split <;> first | exact id
                case stepsq000 =>
                  refine ⟨?_, ?_, ?_, ?_, ?_, ?_, ?_, ?_, trivial⟩
                  · intro vals wr hR hp K hK
                    dsimp only at hK ⊢
                    clear hp
                    unfold RunsOp
                    go_simp
                    exact hK.out _ _ ⟨_, rfl, Only.refl _ _, rfl⟩
                  · intro vals wr hR hp K hK
                    dsimp only at hK ⊢
                    obtain ⟨p0, -⟩ := hp
                    replace p0 := p0 rfl
                    dsimp only at p0
                    rw [p0] at hK ⊢
                    clear p0
                    unfold RunsOp
                    go_simp
                    exact hK.out _ _ ⟨_, rfl, Only.refl _ _, rfl⟩
                  · intro vals wr hR hp K hK
                    dsimp only at hK ⊢
                    obtain ⟨p1, -⟩ := hp
                    replace p1 := p1 rfl
                    dsimp only at p1
                    rw [p1] at hK ⊢
                    clear p1
                    unfold RunsOp
                    go_simp
                    exact hK.out _ _ ⟨_, rfl, Only.refl _ _, trivial⟩
                  · intro vals wr hR hp K hK
                    dsimp only at hK ⊢
                    obtain ⟨p1, -⟩ := hp
                    replace p1 := p1 rfl
                    dsimp only at p1
                    rw [p1] at hK ⊢
                    clear p1
                    unfold RunsOp
                    go_simp
                    exact hK.out _ _ ⟨_, rfl, Only.refl _ _, trivial⟩
                  · intro vals wr hR hp K hK
                    dsimp only at hK ⊢
                    obtain ⟨-, p1, -⟩ := hp
                    replace p1 := p1 rfl
                    dsimp only at p1
                    rw [p1] at hK ⊢
                    clear p1
                    unfold RunsOp
                    go_simp
                    exact hK.out _ _ ⟨_, rfl, Only.refl _ _, trivial⟩
                  · intro vals wr hR hp K hK
                    dsimp only at hK ⊢
                    obtain ⟨-, p1, -⟩ := hp
                    replace p1 := p1 rfl
                    dsimp only at p1
                    rw [p1] at hK ⊢
                    clear p1
                    unfold RunsOp
                    go_simp
                    exact hK.out _ _ ⟨_, rfl, Only.refl _ _, trivial⟩
                  · intro vals wr hR hp K hK
                    dsimp only at hK ⊢
                    obtain ⟨-, -, p1, -, -⟩ := hp
                    replace p1 := p1 rfl
                    dsimp only at p1
                    rw [p1] at hK ⊢
                    clear p1
                    unfold RunsOp
                    go_simp
                    exact hK.out _ _ ⟨_, rfl, Only.refl _ _, trivial⟩
                  · intro vals wr hR hp K hK
                    dsimp only at hK ⊢
                    obtain ⟨p1, -, -⟩ := hp
                    replace p1 := p1 rfl
                    dsimp only at p1
                    rw [p1] at hK ⊢
                    clear p1
                    unfold RunsOp
                    go_simp
                    exact hK.out _ _ ⟨_, rfl, Only.refl _ _, rfl⟩
                case doneq000 =>
                  intro vals wd hR hF
                  have f7 : vals 7 = .bool false := hF 7 (by decide)
                  rw [f7]
                  clear f7
                  gi_wp2_with (fail)
                  go_wp2_with (fail)
                  go_roundw
                  case rel =>
                    have hO := (Only.refl [] w5).drew.trans hR (by simp)
                    exact ⟨k + 1, some ⟨bh, oh, none⟩, c5, _, _, _, _, by go_num, rfl, rfl, rfl, rfl, by omega, HLN5, Lib.hid (by rw [HTK1.out]; exact errK_snoc HER.out HPE0.out), Lib.hid (by rw [HTK2.out, List.map_append, HETR.out, ← HTK4.out.tr]; rfl), Lib.hid ⟨by rw [HI5.out]; rfl, by rw [HB5.out]; rfl, by rw [HS5.out]; rfl⟩, Lib.hid (HSTEP.out.keep hO), HNEW, Lib.hid (hO.blk HX5.out (by simp)), Lib.hid (hO.blk HN5.out (by simp)), Lib.hid (hO.blk HR5.out (by simp)), Lib.hid (hO.blk H65.out (by simp)), Lib.hid (hO.blk H75.out (by simp)), Lib.hid (hO.blk H85.out (by simp)), Lib.hid (HO5.out.trans hO (by simp))⟩
                  case measure => simp [intOf]; omega
              · gi_wp2_with (fail)
                go_wp2_with (at_builtin; rw [HWZ.out]; refine wpList_append_run hrun rfl _ _ rfl rfl rfl rfl ?_)
                clear t0 t1 tl u0 u1 ul
                refine (wpIn_wide (n := 9)).1 ?_
                refine wpIn_region_relR 8 (Only []) (fr := ?frq001) (tl := ?tlq001) (fun iq v wv => match iq with
                  | 0 => v = .bool true
                  | 1 => v = .bool true
                  | 2 => v = .agg #[.int .i64 yk, .slice yA yl.length ycap]
                  | 3 => v = .slice (some ⟨bh, oh, none⟩) (k + 1) c5
                  | 4 => v = .pointer (some ⟨bh, oh, none⟩)
                  | 5 => v = (.agg #[.int .i64 hk', .slice hA' hl'.length hcap'])
                  | 6 => v = .bool sm
                  | 7 => v = .bool sm
                  | _ => True) (.inl rfl) (by kernel_rfl) (by kernel_rfl) (by kernel_rfl) (by kernel_rfl) (by kernel_rfl) (by kernel_rfl) (by decide) ?htlq001 ?hfrq001 (Only.refl _ _) (fun _ _ _ h k => h.trans k (fun _ hx => .inl hx)) ?stabq001 ?stepsq001 ?doneq001
                case htlq001 => simp only [List.drop_succ_cons, List.drop_zero]; rfl
                case hfrq001 => intro vals; simp only [putAll, dstAt, Act.put, List.getElem?_toArray, List.getElem?_cons_zero, List.getElem?_cons_succ, Option.bind_some, List.setIfInBounds_toArray, List.set_cons_zero, List.set_cons_succ]; rfl
                case stabq001 =>
                  intro i v wa wb h
                  try dsimp only
                  split <;> first | exact id
                case stepsq001 =>
                  refine ⟨?_, ?_, ?_, ?_, ?_, ?_, ?_, ?_, trivial⟩
                  · intro vals wr hR hp K hK
                    dsimp only at hK ⊢
                    clear hp
                    unfold RunsOp
                    go_simp
                    exact hK.out _ _ ⟨_, rfl, Only.refl _ _, rfl⟩
                  · intro vals wr hR hp K hK
                    dsimp only at hK ⊢
                    obtain ⟨p0, -⟩ := hp
                    replace p0 := p0 rfl
                    dsimp only at p0
                    rw [p0] at hK ⊢
                    clear p0
                    unfold RunsOp
                    go_simp
                    exact hK.out _ _ ⟨_, rfl, Only.refl _ _, rfl⟩
                  · intro vals wr hR hp K hK
                    dsimp only at hK ⊢
                    obtain ⟨p1, -⟩ := hp
                    replace p1 := p1 rfl
                    dsimp only at p1
                    rw [p1] at hK ⊢
                    clear p1
                    unfold RunsOp
                    obtain ⟨u0, u1, ul⟩ := (hR.blk (Blk.drew HT5.out) (by simp)).facts2
                    go_simp
                    exact hK.out _ _ ⟨_, rfl, Only.refl _ _, rfl⟩
                  · intro vals wr hR hp K hK
                    dsimp only at hK ⊢
                    obtain ⟨p1, -⟩ := hp
                    replace p1 := p1 rfl
                    dsimp only at p1
                    rw [p1] at hK ⊢
                    clear p1
                    unfold RunsOp
                    go_simp
                    exact hK.out _ _ ⟨_, rfl, Only.refl _ _, rfl⟩
                  · intro vals wr hR hp K hK
                    dsimp only at hK ⊢
                    obtain ⟨p3, p1, -⟩ := hp
                    replace p3 := p3 rfl
                    replace p1 := p1 rfl
                    dsimp only at p3 p1
                    rw [p3, p1] at hK ⊢
                    clear p3 p1
                    unfold RunsOp
                    have c0 := hR.size
                    have c1 := HV2.out.1
                    go_simp
                    exact hK.out _ _ ⟨_, rfl, Only.refl _ _, rfl⟩
                  · intro vals wr hR hp K hK
                    dsimp only at hK ⊢
                    obtain ⟨p4, p1, -⟩ := hp
                    replace p4 := p4 rfl
                    replace p1 := p1 rfl
                    dsimp only at p4 p1
                    rw [p4, p1] at hK ⊢
                    clear p4 p1
                    unfold RunsOp
                    have c0 := (hR.cell (p := ⟨bh, oh, none⟩) HV2.out.1 (by simp)).trans HV2.out.2.1
                    have c1 := (hR.cell (p := ⟨bh, oh + 1, none⟩) HV2.out.1 (by simp)).trans HV2.out.2.2
                    go_simp
                    exact hK.out _ _ ⟨_, rfl, Only.refl _ _, rfl⟩
                  · intro vals wr hR hp K hK
                    dsimp only at hK ⊢
                    obtain ⟨p2, p5, p1, -, -⟩ := hp
                    replace p2 := p2 rfl
                    replace p5 := p5 rfl
                    replace p1 := p1 rfl
                    dsimp only at p2 p5 p1
                    rw [p2, p5, p1] at hK ⊢
                    clear p2 p5 p1
                    unfold RunsOp
                    go_simp
                    refine (HSAME2.out _ ((Only.refl [] _).drew.trans hR (by simp))).mono ?_
                    rintro e' w2 ⟨rfl, o2⟩
                    exact hK.out _ _ ⟨_, rfl, o2, rfl⟩
                  · intro vals wr hR hp K hK
                    dsimp only at hK ⊢
                    obtain ⟨p1, p6, -⟩ := hp
                    replace p1 := p1 rfl
                    replace p6 := p6 rfl
                    dsimp only at p1 p6
                    rw [p1, p6] at hK ⊢
                    clear p1 p6
                    unfold RunsOp
                    go_simp
                    exact hK.out _ _ ⟨_, rfl, Only.refl _ _, rfl⟩
                case doneq001 =>
                  intro vals wd hR hF
                  have f7 : vals 7 = .bool sm := hF 7 (by decide)
                  rw [f7]
                  clear f7
                  gi_wp2_with (fail)
                  go_wp2_with (fail)
                  go_roundw
                  case rel =>
                    have hO := (Only.refl [] w5).drew.trans hR (by simp)
                    exact ⟨k + 1, some ⟨bh, oh, none⟩, c5, _, _, _, _, by go_num, rfl, rfl, rfl, rfl, by omega, HLN5, Lib.hid (by rw [HTK1.out]; exact errK_snoc HER.out HPE0.out), Lib.hid (by rw [HTK2.out, List.map_append, HETR.out, ← HTK4.out.tr]; rfl), Lib.hid ⟨by rw [HI5.out]; rfl, by rw [HB5.out]; rfl, by rw [HS5.out]; rfl⟩, Lib.hid (HSTEP.out.keep hO), HNEW, Lib.hid (hO.blk HX5.out (by simp)), Lib.hid (hO.blk HN5.out (by simp)), Lib.hid (hO.blk HR5.out (by simp)), Lib.hid (hO.blk H65.out (by simp)), Lib.hid (hO.blk H75.out (by simp)), Lib.hid (hO.blk H85.out (by simp)), Lib.hid (HO5.out.trans hO (by simp))⟩
                  case measure => simp [intOf]; omega
            · cases q3
              · gi_wp2_with (fail)
                go_wp2_with (at_builtin; rw [HWZ.out]; refine wpList_append_run hrun rfl _ _ rfl rfl rfl rfl ?_)
                clear t0 t1 tl u0 u1 ul
                refine (wpIn_wide (n := 9)).1 ?_
                refine wpIn_region_relR 8 (Only []) (fr := ?frq010) (tl := ?tlq010) (fun iq v wv => match iq with
                  | 0 => v = .bool false
                  | 1 => v = .bool false
                  | 7 => v = .bool false
                  | _ => True) (.inl rfl) (by kernel_rfl) (by kernel_rfl) (by kernel_rfl) (by kernel_rfl) (by kernel_rfl) (by kernel_rfl) (by decide) ?htlq010 ?hfrq010 (Only.refl _ _) (fun _ _ _ h k => h.trans k (fun _ hx => .inl hx)) ?stabq010 ?stepsq010 ?doneq010
                case htlq010 => simp only [List.drop_succ_cons, List.drop_zero]; rfl
                case hfrq010 => intro vals; simp only [putAll, dstAt, Act.put, List.getElem?_toArray, List.getElem?_cons_zero, List.getElem?_cons_succ, Option.bind_some, List.setIfInBounds_toArray, List.set_cons_zero, List.set_cons_succ]; rfl
                case stabq010 =>
                  intro i v wa wb h
                  try dsimp only
                  split <;> first | exact id
                case stepsq010 =>
                  refine ⟨?_, ?_, ?_, ?_, ?_, ?_, ?_, ?_, trivial⟩
                  · intro vals wr hR hp K hK
                    dsimp only at hK ⊢
                    clear hp
                    unfold RunsOp
                    go_simp
                    exact hK.out _ _ ⟨_, rfl, Only.refl _ _, rfl⟩
                  · intro vals wr hR hp K hK
                    dsimp only at hK ⊢
                    obtain ⟨p0, -⟩ := hp
                    replace p0 := p0 rfl
                    dsimp only at p0
                    rw [p0] at hK ⊢
                    clear p0
                    unfold RunsOp
                    go_simp
                    exact hK.out _ _ ⟨_, rfl, Only.refl _ _, rfl⟩
                  · intro vals wr hR hp K hK
                    dsimp only at hK ⊢
                    obtain ⟨p1, -⟩ := hp
                    replace p1 := p1 rfl
                    dsimp only at p1
                    rw [p1] at hK ⊢
                    clear p1
                    unfold RunsOp
                    go_simp
                    exact hK.out _ _ ⟨_, rfl, Only.refl _ _, trivial⟩
                  · intro vals wr hR hp K hK
                    dsimp only at hK ⊢
                    obtain ⟨p1, -⟩ := hp
                    replace p1 := p1 rfl
                    dsimp only at p1
                    rw [p1] at hK ⊢
                    clear p1
                    unfold RunsOp
                    go_simp
                    exact hK.out _ _ ⟨_, rfl, Only.refl _ _, trivial⟩
                  · intro vals wr hR hp K hK
                    dsimp only at hK ⊢
                    obtain ⟨-, p1, -⟩ := hp
                    replace p1 := p1 rfl
                    dsimp only at p1
                    rw [p1] at hK ⊢
                    clear p1
                    unfold RunsOp
                    go_simp
                    exact hK.out _ _ ⟨_, rfl, Only.refl _ _, trivial⟩
                  · intro vals wr hR hp K hK
                    dsimp only at hK ⊢
                    obtain ⟨-, p1, -⟩ := hp
                    replace p1 := p1 rfl
                    dsimp only at p1
                    rw [p1] at hK ⊢
                    clear p1
                    unfold RunsOp
                    go_simp
                    exact hK.out _ _ ⟨_, rfl, Only.refl _ _, trivial⟩
                  · intro vals wr hR hp K hK
                    dsimp only at hK ⊢
                    obtain ⟨-, -, p1, -, -⟩ := hp
                    replace p1 := p1 rfl
                    dsimp only at p1
                    rw [p1] at hK ⊢
                    clear p1
                    unfold RunsOp
                    go_simp
                    exact hK.out _ _ ⟨_, rfl, Only.refl _ _, trivial⟩
                  · intro vals wr hR hp K hK
                    dsimp only at hK ⊢
                    obtain ⟨p1, -, -⟩ := hp
                    replace p1 := p1 rfl
                    dsimp only at p1
                    rw [p1] at hK ⊢
                    clear p1
                    unfold RunsOp
                    go_simp
                    exact hK.out _ _ ⟨_, rfl, Only.refl _ _, rfl⟩
                case doneq010 =>
                  intro vals wd hR hF
                  have f7 : vals 7 = .bool false := hF 7 (by decide)
                  rw [f7]
                  clear f7
                  gi_wp2_with (fail)
                  go_wp2_with (fail)
                  go_roundw
                  case rel =>
                    have hO := (Only.refl [] w5).drew.trans hR (by simp)
                    exact ⟨k + 1, some ⟨bh, oh, none⟩, c5, _, _, _, _, by go_num, rfl, rfl, rfl, rfl, by omega, HLN5, Lib.hid (by rw [HTK1.out]; exact errK_snoc HER.out HPE0.out), Lib.hid (by rw [HTK2.out, List.map_append, HETR.out, ← HTK4.out.tr]; rfl), Lib.hid ⟨by rw [HI5.out]; rfl, by rw [HB5.out]; rfl, by rw [HS5.out]; rfl⟩, Lib.hid (HSTEP.out.keep hO), HNEW, Lib.hid (hO.blk HX5.out (by simp)), Lib.hid (hO.blk HN5.out (by simp)), Lib.hid (hO.blk HR5.out (by simp)), Lib.hid (hO.blk H65.out (by simp)), Lib.hid (hO.blk H75.out (by simp)), Lib.hid (hO.blk H85.out (by simp)), Lib.hid (HO5.out.trans hO (by simp))⟩
                  case measure => simp [intOf]; omega
              · gi_wp2_with (fail)
                go_wp2_with (at_builtin; rw [HWZ.out]; refine wpList_append_run hrun rfl _ _ rfl rfl rfl rfl ?_)
                clear t0 t1 tl u0 u1 ul
                refine (wpIn_wide (n := 9)).1 ?_
                refine wpIn_region_relR 8 (Only []) (fr := ?frq011) (tl := ?tlq011) (fun iq v wv => match iq with
                  | 0 => v = .bool true
                  | 1 => v = .bool true
                  | 2 => v = .agg #[.int .i64 yk, .slice yA yl.length ycap]
                  | 3 => v = .slice (some ⟨bh, oh, none⟩) (k + 1) c5
                  | 4 => v = .pointer (some ⟨bh, oh, none⟩)
                  | 5 => v = (.agg #[.int .i64 hk', .slice hA' hl'.length hcap'])
                  | 6 => v = .bool sm
                  | 7 => v = .bool sm
                  | _ => True) (.inl rfl) (by kernel_rfl) (by kernel_rfl) (by kernel_rfl) (by kernel_rfl) (by kernel_rfl) (by kernel_rfl) (by decide) ?htlq011 ?hfrq011 (Only.refl _ _) (fun _ _ _ h k => h.trans k (fun _ hx => .inl hx)) ?stabq011 ?stepsq011 ?doneq011
                case htlq011 => simp only [List.drop_succ_cons, List.drop_zero]; rfl
                case hfrq011 => intro vals; simp only [putAll, dstAt, Act.put, List.getElem?_toArray, List.getElem?_cons_zero, List.getElem?_cons_succ, Option.bind_some, List.setIfInBounds_toArray, List.set_cons_zero, List.set_cons_succ]; rfl
                case stabq011 =>
                  intro i v wa wb h
                  try dsimp only
                  split <;> first | exact id
                case stepsq011 =>
                  refine ⟨?_, ?_, ?_, ?_, ?_, ?_, ?_, ?_, trivial⟩
                  · intro vals wr hR hp K hK
                    dsimp only at hK ⊢
                    clear hp
                    unfold RunsOp
                    go_simp
                    exact hK.out _ _ ⟨_, rfl, Only.refl _ _, rfl⟩
                  · intro vals wr hR hp K hK
                    dsimp only at hK ⊢
                    obtain ⟨p0, -⟩ := hp
                    replace p0 := p0 rfl
                    dsimp only at p0
                    rw [p0] at hK ⊢
                    clear p0
                    unfold RunsOp
                    go_simp
                    exact hK.out _ _ ⟨_, rfl, Only.refl _ _, rfl⟩
                  · intro vals wr hR hp K hK
                    dsimp only at hK ⊢
                    obtain ⟨p1, -⟩ := hp
                    replace p1 := p1 rfl
                    dsimp only at p1
                    rw [p1] at hK ⊢
                    clear p1
                    unfold RunsOp
                    obtain ⟨u0, u1, ul⟩ := (hR.blk (Blk.drew HT5.out) (by simp)).facts2
                    go_simp
                    exact hK.out _ _ ⟨_, rfl, Only.refl _ _, rfl⟩
                  · intro vals wr hR hp K hK
                    dsimp only at hK ⊢
                    obtain ⟨p1, -⟩ := hp
                    replace p1 := p1 rfl
                    dsimp only at p1
                    rw [p1] at hK ⊢
                    clear p1
                    unfold RunsOp
                    go_simp
                    exact hK.out _ _ ⟨_, rfl, Only.refl _ _, rfl⟩
                  · intro vals wr hR hp K hK
                    dsimp only at hK ⊢
                    obtain ⟨p3, p1, -⟩ := hp
                    replace p3 := p3 rfl
                    replace p1 := p1 rfl
                    dsimp only at p3 p1
                    rw [p3, p1] at hK ⊢
                    clear p3 p1
                    unfold RunsOp
                    have c0 := hR.size
                    have c1 := HV2.out.1
                    go_simp
                    exact hK.out _ _ ⟨_, rfl, Only.refl _ _, rfl⟩
                  · intro vals wr hR hp K hK
                    dsimp only at hK ⊢
                    obtain ⟨p4, p1, -⟩ := hp
                    replace p4 := p4 rfl
                    replace p1 := p1 rfl
                    dsimp only at p4 p1
                    rw [p4, p1] at hK ⊢
                    clear p4 p1
                    unfold RunsOp
                    have c0 := (hR.cell (p := ⟨bh, oh, none⟩) HV2.out.1 (by simp)).trans HV2.out.2.1
                    have c1 := (hR.cell (p := ⟨bh, oh + 1, none⟩) HV2.out.1 (by simp)).trans HV2.out.2.2
                    go_simp
                    exact hK.out _ _ ⟨_, rfl, Only.refl _ _, rfl⟩
                  · intro vals wr hR hp K hK
                    dsimp only at hK ⊢
                    obtain ⟨p2, p5, p1, -, -⟩ := hp
                    replace p2 := p2 rfl
                    replace p5 := p5 rfl
                    replace p1 := p1 rfl
                    dsimp only at p2 p5 p1
                    rw [p2, p5, p1] at hK ⊢
                    clear p2 p5 p1
                    unfold RunsOp
                    go_simp
                    refine (HSAME2.out _ ((Only.refl [] _).drew.trans hR (by simp))).mono ?_
                    rintro e' w2 ⟨rfl, o2⟩
                    exact hK.out _ _ ⟨_, rfl, o2, rfl⟩
                  · intro vals wr hR hp K hK
                    dsimp only at hK ⊢
                    obtain ⟨p1, p6, -⟩ := hp
                    replace p1 := p1 rfl
                    replace p6 := p6 rfl
                    dsimp only at p1 p6
                    rw [p1, p6] at hK ⊢
                    clear p1 p6
                    unfold RunsOp
                    go_simp
                    exact hK.out _ _ ⟨_, rfl, Only.refl _ _, rfl⟩
                case doneq011 =>
                  intro vals wd hR hF
                  have f7 : vals 7 = .bool sm := hF 7 (by decide)
                  rw [f7]
                  clear f7
                  gi_wp2_with (fail)
                  go_wp2_with (fail)
                  go_roundw
                  case rel =>
                    have hO := (Only.refl [] w5).drew.trans hR (by simp)
                    exact ⟨k + 1, some ⟨bh, oh, none⟩, c5, _, _, _, _, by go_num, rfl, rfl, rfl, rfl, by omega, HLN5, Lib.hid (by rw [HTK1.out]; exact errK_snoc HER.out HPE0.out), Lib.hid (by rw [HTK2.out, List.map_append, HETR.out, ← HTK4.out.tr]; rfl), Lib.hid ⟨by rw [HI5.out]; rfl, by rw [HB5.out]; rfl, by rw [HS5.out]; rfl⟩, Lib.hid (HSTEP.out.keep hO), HNEW, Lib.hid (hO.blk HX5.out (by simp)), Lib.hid (hO.blk HN5.out (by simp)), Lib.hid (hO.blk HR5.out (by simp)), Lib.hid (hO.blk H65.out (by simp)), Lib.hid (hO.blk H75.out (by simp)), Lib.hid (hO.blk H85.out (by simp)), Lib.hid (HO5.out.trans hO (by simp))⟩
                  case measure => simp [intOf]; omega
          · cases q2
            · cases q3
              · gi_wp2_with (fail)
                go_wp2_with (at_builtin; rw [HWZ.out]; refine wpList_append_run hrun rfl _ _ rfl rfl rfl rfl ?_)
                clear t0 t1 tl u0 u1 ul
                refine (wpIn_wide (n := 9)).1 ?_
                refine wpIn_region_relR 8 (Only []) (fr := ?frq100) (tl := ?tlq100) (fun iq v wv => match iq with
                  | 0 => v = .bool false
                  | 1 => v = .bool false
                  | 7 => v = .bool false
                  | _ => True) (.inl rfl) (by kernel_rfl) (by kernel_rfl) (by kernel_rfl) (by kernel_rfl) (by kernel_rfl) (by kernel_rfl) (by decide) ?htlq100 ?hfrq100 (Only.refl _ _) (fun _ _ _ h k => h.trans k (fun _ hx => .inl hx)) ?stabq100 ?stepsq100 ?doneq100
                case htlq100 => simp only [List.drop_succ_cons, List.drop_zero]; rfl
                case hfrq100 => intro vals; simp only [putAll, dstAt, Act.put, List.getElem?_toArray, List.getElem?_cons_zero, List.getElem?_cons_succ, Option.bind_some, List.setIfInBounds_toArray, List.set_cons_zero, List.set_cons_succ]; rfl
                case stabq100 =>
                  intro i v wa wb h
                  try dsimp only
                  split <;> first | exact id
                case stepsq100 =>
                  refine ⟨?_, ?_, ?_, ?_, ?_, ?_, ?_, ?_, trivial⟩
                  · intro vals wr hR hp K hK
                    dsimp only at hK ⊢
                    clear hp
                    unfold RunsOp
                    go_simp
                    exact hK.out _ _ ⟨_, rfl, Only.refl _ _, rfl⟩
                  · intro vals wr hR hp K hK
                    dsimp only at hK ⊢
                    obtain ⟨p0, -⟩ := hp
                    replace p0 := p0 rfl
                    dsimp only at p0
                    rw [p0] at hK ⊢
                    clear p0
                    unfold RunsOp
                    go_simp
                    exact hK.out _ _ ⟨_, rfl, Only.refl _ _, rfl⟩
                  · intro vals wr hR hp K hK
                    dsimp only at hK ⊢
                    obtain ⟨p1, -⟩ := hp
                    replace p1 := p1 rfl
                    dsimp only at p1
                    rw [p1] at hK ⊢
                    clear p1
                    unfold RunsOp
                    go_simp
                    exact hK.out _ _ ⟨_, rfl, Only.refl _ _, trivial⟩
                  · intro vals wr hR hp K hK
                    dsimp only at hK ⊢
                    obtain ⟨p1, -⟩ := hp
                    replace p1 := p1 rfl
                    dsimp only at p1
                    rw [p1] at hK ⊢
                    clear p1
                    unfold RunsOp
                    go_simp
                    exact hK.out _ _ ⟨_, rfl, Only.refl _ _, trivial⟩
                  · intro vals wr hR hp K hK
                    dsimp only at hK ⊢
                    obtain ⟨-, p1, -⟩ := hp
                    replace p1 := p1 rfl
                    dsimp only at p1
                    rw [p1] at hK ⊢
                    clear p1
                    unfold RunsOp
                    go_simp
                    exact hK.out _ _ ⟨_, rfl, Only.refl _ _, trivial⟩
                  · intro vals wr hR hp K hK
                    dsimp only at hK ⊢
                    obtain ⟨-, p1, -⟩ := hp
                    replace p1 := p1 rfl
                    dsimp only at p1
                    rw [p1] at hK ⊢
                    clear p1
                    unfold RunsOp
                    go_simp
                    exact hK.out _ _ ⟨_, rfl, Only.refl _ _, trivial⟩
                  · intro vals wr hR hp K hK
                    dsimp only at hK ⊢
                    obtain ⟨-, -, p1, -, -⟩ := hp
                    replace p1 := p1 rfl
                    dsimp only at p1
                    rw [p1] at hK ⊢
                    clear p1
                    unfold RunsOp
                    go_simp
                    exact hK.out _ _ ⟨_, rfl, Only.refl _ _, trivial⟩
                  · intro vals wr hR hp K hK
                    dsimp only at hK ⊢
                    obtain ⟨p1, -, -⟩ := hp
                    replace p1 := p1 rfl
                    dsimp only at p1
                    rw [p1] at hK ⊢
                    clear p1
                    unfold RunsOp
                    go_simp
                    exact hK.out _ _ ⟨_, rfl, Only.refl _ _, rfl⟩
                case doneq100 =>
                  intro vals wd hR hF
                  have f7 : vals 7 = .bool false := hF 7 (by decide)
                  rw [f7]
                  clear f7
                  gi_wp2_with (fail)
                  go_wp2_with (fail)
                  go_roundw
                  case rel =>
                    have hO := (Only.refl [] w5).drew.trans hR (by simp)
                    exact ⟨k + 1, some ⟨bh, oh, none⟩, c5, _, _, _, _, by go_num, rfl, rfl, rfl, rfl, by omega, HLN5, Lib.hid (by rw [HTK1.out]; exact errK_snoc HER.out HPE0.out), Lib.hid (by rw [HTK2.out, List.map_append, HETR.out, ← HTK4.out.tr]; rfl), Lib.hid ⟨by rw [HI5.out]; rfl, by rw [HB5.out]; rfl, by rw [HS5.out]; rfl⟩, Lib.hid (HSTEP.out.keep hO), HNEW, Lib.hid (hO.blk HX5.out (by simp)), Lib.hid (hO.blk HN5.out (by simp)), Lib.hid (hO.blk HR5.out (by simp)), Lib.hid (hO.blk H65.out (by simp)), Lib.hid (hO.blk H75.out (by simp)), Lib.hid (hO.blk H85.out (by simp)), Lib.hid (HO5.out.trans hO (by simp))⟩
                  case measure => simp [intOf]; omega
              · gi_wp2_with (fail)
                go_wp2_with (at_builtin; rw [HWZ.out]; refine wpList_append_run hrun rfl _ _ rfl rfl rfl rfl ?_)
                clear t0 t1 tl u0 u1 ul
                refine (wpIn_wide (n := 9)).1 ?_
                refine wpIn_region_relR 8 (Only []) (fr := ?frq101) (tl := ?tlq101) (fun iq v wv => match iq with
                  | 0 => v = .bool true
                  | 1 => v = .bool true
                  | 2 => v = .agg #[.int .i64 yk, .slice yA yl.length ycap]
                  | 3 => v = .slice (some ⟨bh, oh, none⟩) (k + 1) c5
                  | 4 => v = .pointer (some ⟨bh, oh, none⟩)
                  | 5 => v = (.agg #[.int .i64 hk', .slice hA' hl'.length hcap'])
                  | 6 => v = .bool sm
                  | 7 => v = .bool sm
                  | _ => True) (.inl rfl) (by kernel_rfl) (by kernel_rfl) (by kernel_rfl) (by kernel_rfl) (by kernel_rfl) (by kernel_rfl) (by decide) ?htlq101 ?hfrq101 (Only.refl _ _) (fun _ _ _ h k => h.trans k (fun _ hx => .inl hx)) ?stabq101 ?stepsq101 ?doneq101
                case htlq101 => simp only [List.drop_succ_cons, List.drop_zero]; rfl
                case hfrq101 => intro vals; simp only [putAll, dstAt, Act.put, List.getElem?_toArray, List.getElem?_cons_zero, List.getElem?_cons_succ, Option.bind_some, List.setIfInBounds_toArray, List.set_cons_zero, List.set_cons_succ]; rfl
                case stabq101 =>
                  intro i v wa wb h
                  try dsimp only
                  split <;> first | exact id
                case stepsq101 =>
                  refine ⟨?_, ?_, ?_, ?_, ?_, ?_, ?_, ?_, trivial⟩
                  · intro vals wr hR hp K hK
                    dsimp only at hK ⊢
                    clear hp
                    unfold RunsOp
                    go_simp
                    exact hK.out _ _ ⟨_, rfl, Only.refl _ _, rfl⟩
                  · intro vals wr hR hp K hK
                    dsimp only at hK ⊢
                    obtain ⟨p0, -⟩ := hp
                    replace p0 := p0 rfl
                    dsimp only at p0
                    rw [p0] at hK ⊢
                    clear p0
                    unfold RunsOp
                    go_simp
                    exact hK.out _ _ ⟨_, rfl, Only.refl _ _, rfl⟩
                  · intro vals wr hR hp K hK
                    dsimp only at hK ⊢
                    obtain ⟨p1, -⟩ := hp
                    replace p1 := p1 rfl
                    dsimp only at p1
                    rw [p1] at hK ⊢
                    clear p1
                    unfold RunsOp
                    obtain ⟨u0, u1, ul⟩ := (hR.blk (Blk.drew HT5.out) (by simp)).facts2
                    go_simp
                    exact hK.out _ _ ⟨_, rfl, Only.refl _ _, rfl⟩
                  · intro vals wr hR hp K hK
                    dsimp only at hK ⊢
                    obtain ⟨p1, -⟩ := hp
                    replace p1 := p1 rfl
                    dsimp only at p1
                    rw [p1] at hK ⊢
                    clear p1
                    unfold RunsOp
                    go_simp
                    exact hK.out _ _ ⟨_, rfl, Only.refl _ _, rfl⟩
                  · intro vals wr hR hp K hK
                    dsimp only at hK ⊢
                    obtain ⟨p3, p1, -⟩ := hp
                    replace p3 := p3 rfl
                    replace p1 := p1 rfl
                    dsimp only at p3 p1
                    rw [p3, p1] at hK ⊢
                    clear p3 p1
                    unfold RunsOp
                    have c0 := hR.size
                    have c1 := HV2.out.1
                    go_simp
                    exact hK.out _ _ ⟨_, rfl, Only.refl _ _, rfl⟩
                  · intro vals wr hR hp K hK
                    dsimp only at hK ⊢
                    obtain ⟨p4, p1, -⟩ := hp
                    replace p4 := p4 rfl
                    replace p1 := p1 rfl
                    dsimp only at p4 p1
                    rw [p4, p1] at hK ⊢
                    clear p4 p1
                    unfold RunsOp
                    have c0 := (hR.cell (p := ⟨bh, oh, none⟩) HV2.out.1 (by simp)).trans HV2.out.2.1
                    have c1 := (hR.cell (p := ⟨bh, oh + 1, none⟩) HV2.out.1 (by simp)).trans HV2.out.2.2
                    go_simp
                    exact hK.out _ _ ⟨_, rfl, Only.refl _ _, rfl⟩
                  · intro vals wr hR hp K hK
                    dsimp only at hK ⊢
                    obtain ⟨p2, p5, p1, -, -⟩ := hp
                    replace p2 := p2 rfl
                    replace p5 := p5 rfl
                    replace p1 := p1 rfl
                    dsimp only at p2 p5 p1
                    rw [p2, p5, p1] at hK ⊢
                    clear p2 p5 p1
                    unfold RunsOp
                    go_simp
                    refine (HSAME2.out _ ((Only.refl [] _).drew.trans hR (by simp))).mono ?_
                    rintro e' w2 ⟨rfl, o2⟩
                    exact hK.out _ _ ⟨_, rfl, o2, rfl⟩
                  · intro vals wr hR hp K hK
                    dsimp only at hK ⊢
                    obtain ⟨p1, p6, -⟩ := hp
                    replace p1 := p1 rfl
                    replace p6 := p6 rfl
                    dsimp only at p1 p6
                    rw [p1, p6] at hK ⊢
                    clear p1 p6
                    unfold RunsOp
                    go_simp
                    exact hK.out _ _ ⟨_, rfl, Only.refl _ _, rfl⟩
                case doneq101 =>
                  intro vals wd hR hF
                  have f7 : vals 7 = .bool sm := hF 7 (by decide)
                  rw [f7]
                  clear f7
                  gi_wp2_with (fail)
                  go_wp2_with (fail)
                  go_roundw
                  case rel =>
                    have hO := (Only.refl [] w5).drew.trans hR (by simp)
                    exact ⟨k + 1, some ⟨bh, oh, none⟩, c5, _, _, _, _, by go_num, rfl, rfl, rfl, rfl, by omega, HLN5, Lib.hid (by rw [HTK1.out]; exact errK_snoc HER.out HPE0.out), Lib.hid (by rw [HTK2.out, List.map_append, HETR.out, ← HTK4.out.tr]; rfl), Lib.hid ⟨by rw [HI5.out]; rfl, by rw [HB5.out]; rfl, by rw [HS5.out]; rfl⟩, Lib.hid (HSTEP.out.keep hO), HNEW, Lib.hid (hO.blk HX5.out (by simp)), Lib.hid (hO.blk HN5.out (by simp)), Lib.hid (hO.blk HR5.out (by simp)), Lib.hid (hO.blk H65.out (by simp)), Lib.hid (hO.blk H75.out (by simp)), Lib.hid (hO.blk H85.out (by simp)), Lib.hid (HO5.out.trans hO (by simp))⟩
                  case measure => simp [intOf]; omega
            · cases q3
              · gi_wp2_with (fail)
                go_wp2_with (at_builtin; rw [HWZ.out]; refine wpList_append_run hrun rfl _ _ rfl rfl rfl rfl ?_)
                clear t0 t1 tl u0 u1 ul
                refine (wpIn_wide (n := 9)).1 ?_
                refine wpIn_region_relR 8 (Only []) (fr := ?frq110) (tl := ?tlq110) (fun iq v wv => match iq with
                  | 0 => v = .bool false
                  | 1 => v = .bool false
                  | 7 => v = .bool false
                  | _ => True) (.inl rfl) (by kernel_rfl) (by kernel_rfl) (by kernel_rfl) (by kernel_rfl) (by kernel_rfl) (by kernel_rfl) (by decide) ?htlq110 ?hfrq110 (Only.refl _ _) (fun _ _ _ h k => h.trans k (fun _ hx => .inl hx)) ?stabq110 ?stepsq110 ?doneq110
                case htlq110 => simp only [List.drop_succ_cons, List.drop_zero]; rfl
                case hfrq110 => intro vals; simp only [putAll, dstAt, Act.put, List.getElem?_toArray, List.getElem?_cons_zero, List.getElem?_cons_succ, Option.bind_some, List.setIfInBounds_toArray, List.set_cons_zero, List.set_cons_succ]; rfl
                case stabq110 =>
                  intro i v wa wb h
                  try dsimp only
                  split <;> first | exact id
                case stepsq110 =>
                  refine ⟨?_, ?_, ?_, ?_, ?_, ?_, ?_, ?_, trivial⟩
                  · intro vals wr hR hp K hK
                    dsimp only at hK ⊢
                    clear hp
                    unfold RunsOp
                    go_simp
                    exact hK.out _ _ ⟨_, rfl, Only.refl _ _, rfl⟩
                  · intro vals wr hR hp K hK
                    dsimp only at hK ⊢
                    obtain ⟨p0, -⟩ := hp
                    replace p0 := p0 rfl
                    dsimp only at p0
                    rw [p0] at hK ⊢
                    clear p0
                    unfold RunsOp
                    go_simp
                    exact hK.out _ _ ⟨_, rfl, Only.refl _ _, rfl⟩
                  · intro vals wr hR hp K hK
                    dsimp only at hK ⊢
                    obtain ⟨p1, -⟩ := hp
                    replace p1 := p1 rfl
                    dsimp only at p1
                    rw [p1] at hK ⊢
                    clear p1
                    unfold RunsOp
                    go_simp
                    exact hK.out _ _ ⟨_, rfl, Only.refl _ _, trivial⟩
                  · intro vals wr hR hp K hK
                    dsimp only at hK ⊢
                    obtain ⟨p1, -⟩ := hp
                    replace p1 := p1 rfl
                    dsimp only at p1
                    rw [p1] at hK ⊢
                    clear p1
                    unfold RunsOp
                    go_simp
                    exact hK.out _ _ ⟨_, rfl, Only.refl _ _, trivial⟩
                  · intro vals wr hR hp K hK
                    dsimp only at hK ⊢
                    obtain ⟨-, p1, -⟩ := hp
                    replace p1 := p1 rfl
                    dsimp only at p1
                    rw [p1] at hK ⊢
                    clear p1
                    unfold RunsOp
                    go_simp
                    exact hK.out _ _ ⟨_, rfl, Only.refl _ _, trivial⟩
                  · intro vals wr hR hp K hK
                    dsimp only at hK ⊢
                    obtain ⟨-, p1, -⟩ := hp
                    replace p1 := p1 rfl
                    dsimp only at p1
                    rw [p1] at hK ⊢
                    clear p1
                    unfold RunsOp
                    go_simp
                    exact hK.out _ _ ⟨_, rfl, Only.refl _ _, trivial⟩
                  · intro vals wr hR hp K hK
                    dsimp only at hK ⊢
                    obtain ⟨-, -, p1, -, -⟩ := hp
                    replace p1 := p1 rfl
                    dsimp only at p1
                    rw [p1] at hK ⊢
                    clear p1
                    unfold RunsOp
                    go_simp
                    exact hK.out _ _ ⟨_, rfl, Only.refl _ _, trivial⟩
                  · intro vals wr hR hp K hK
                    dsimp only at hK ⊢
                    obtain ⟨p1, -, -⟩ := hp
                    replace p1 := p1 rfl
                    dsimp only at p1
                    rw [p1] at hK ⊢
                    clear p1
                    unfold RunsOp
                    go_simp
                    exact hK.out _ _ ⟨_, rfl, Only.refl _ _, rfl⟩
                case doneq110 =>
                  intro vals wd hR hF
                  have f7 : vals 7 = .bool false := hF 7 (by decide)
                  rw [f7]
                  clear f7
                  gi_wp2_with (fail)
                  go_wp2_with (fail)
                  go_roundw
                  case rel =>
                    have hO := (Only.refl [] w5).drew.trans hR (by simp)
                    exact ⟨k + 1, some ⟨bh, oh, none⟩, c5, _, _, _, _, by go_num, rfl, rfl, rfl, rfl, by omega, HLN5, Lib.hid (by rw [HTK1.out]; exact errK_snoc HER.out HPE0.out), Lib.hid (by rw [HTK2.out, List.map_append, HETR.out, ← HTK4.out.tr]; rfl), Lib.hid ⟨by rw [HI5.out]; rfl, by rw [HB5.out]; rfl, by rw [HS5.out]; rfl⟩, Lib.hid (HSTEP.out.keep hO), HNEW, Lib.hid (hO.blk HX5.out (by simp)), Lib.hid (hO.blk HN5.out (by simp)), Lib.hid (hO.blk HR5.out (by simp)), Lib.hid (hO.blk H65.out (by simp)), Lib.hid (hO.blk H75.out (by simp)), Lib.hid (hO.blk H85.out (by simp)), Lib.hid (HO5.out.trans hO (by simp))⟩
                  case measure => simp [intOf]; omega
              · gi_wp2_with (fail)
                go_wp2_with (at_builtin; rw [HWZ.out]; refine wpList_append_run hrun rfl _ _ rfl rfl rfl rfl ?_)
                clear t0 t1 tl u0 u1 ul
                refine (wpIn_wide (n := 9)).1 ?_
                refine wpIn_region_relR 8 (Only []) (fr := ?frq111) (tl := ?tlq111) (fun iq v wv => match iq with
                  | 0 => v = .bool true
                  | 1 => v = .bool true
                  | 2 => v = .agg #[.int .i64 yk, .slice yA yl.length ycap]
                  | 3 => v = .slice (some ⟨bh, oh, none⟩) (k + 1) c5
                  | 4 => v = .pointer (some ⟨bh, oh, none⟩)
                  | 5 => v = (.agg #[.int .i64 hk', .slice hA' hl'.length hcap'])
                  | 6 => v = .bool sm
                  | 7 => v = .bool sm
                  | _ => True) (.inl rfl) (by kernel_rfl) (by kernel_rfl) (by kernel_rfl) (by kernel_rfl) (by kernel_rfl) (by kernel_rfl) (by decide) ?htlq111 ?hfrq111 (Only.refl _ _) (fun _ _ _ h k => h.trans k (fun _ hx => .inl hx)) ?stabq111 ?stepsq111 ?doneq111
                case htlq111 => simp only [List.drop_succ_cons, List.drop_zero]; rfl
                case hfrq111 => intro vals; simp only [putAll, dstAt, Act.put, List.getElem?_toArray, List.getElem?_cons_zero, List.getElem?_cons_succ, Option.bind_some, List.setIfInBounds_toArray, List.set_cons_zero, List.set_cons_succ]; rfl
                case stabq111 =>
                  intro i v wa wb h
                  try dsimp only
                  split <;> first | exact id
                case stepsq111 =>
                  refine ⟨?_, ?_, ?_, ?_, ?_, ?_, ?_, ?_, trivial⟩
                  · intro vals wr hR hp K hK
                    dsimp only at hK ⊢
                    clear hp
                    unfold RunsOp
                    go_simp
                    exact hK.out _ _ ⟨_, rfl, Only.refl _ _, rfl⟩
                  · intro vals wr hR hp K hK
                    dsimp only at hK ⊢
                    obtain ⟨p0, -⟩ := hp
                    replace p0 := p0 rfl
                    dsimp only at p0
                    rw [p0] at hK ⊢
                    clear p0
                    unfold RunsOp
                    go_simp
                    exact hK.out _ _ ⟨_, rfl, Only.refl _ _, rfl⟩
                  · intro vals wr hR hp K hK
                    dsimp only at hK ⊢
                    obtain ⟨p1, -⟩ := hp
                    replace p1 := p1 rfl
                    dsimp only at p1
                    rw [p1] at hK ⊢
                    clear p1
                    unfold RunsOp
                    obtain ⟨u0, u1, ul⟩ := (hR.blk (Blk.drew HT5.out) (by simp)).facts2
                    go_simp
                    exact hK.out _ _ ⟨_, rfl, Only.refl _ _, rfl⟩
                  · intro vals wr hR hp K hK
                    dsimp only at hK ⊢
                    obtain ⟨p1, -⟩ := hp
                    replace p1 := p1 rfl
                    dsimp only at p1
                    rw [p1] at hK ⊢
                    clear p1
                    unfold RunsOp
                    go_simp
                    exact hK.out _ _ ⟨_, rfl, Only.refl _ _, rfl⟩
                  · intro vals wr hR hp K hK
                    dsimp only at hK ⊢
                    obtain ⟨p3, p1, -⟩ := hp
                    replace p3 := p3 rfl
                    replace p1 := p1 rfl
                    dsimp only at p3 p1
                    rw [p3, p1] at hK ⊢
                    clear p3 p1
                    unfold RunsOp
                    have c0 := hR.size
                    have c1 := HV2.out.1
                    go_simp
                    exact hK.out _ _ ⟨_, rfl, Only.refl _ _, rfl⟩
                  · intro vals wr hR hp K hK
                    dsimp only at hK ⊢
                    obtain ⟨p4, p1, -⟩ := hp
                    replace p4 := p4 rfl
                    replace p1 := p1 rfl
                    dsimp only at p4 p1
                    rw [p4, p1] at hK ⊢
                    clear p4 p1
                    unfold RunsOp
                    have c0 := (hR.cell (p := ⟨bh, oh, none⟩) HV2.out.1 (by simp)).trans HV2.out.2.1
                    have c1 := (hR.cell (p := ⟨bh, oh + 1, none⟩) HV2.out.1 (by simp)).trans HV2.out.2.2
                    go_simp
                    exact hK.out _ _ ⟨_, rfl, Only.refl _ _, rfl⟩
                  · intro vals wr hR hp K hK
                    dsimp only at hK ⊢
                    obtain ⟨p2, p5, p1, -, -⟩ := hp
                    replace p2 := p2 rfl
                    replace p5 := p5 rfl
                    replace p1 := p1 rfl
                    dsimp only at p2 p5 p1
                    rw [p2, p5, p1] at hK ⊢
                    clear p2 p5 p1
                    unfold RunsOp
                    go_simp
                    refine (HSAME2.out _ ((Only.refl [] _).drew.trans hR (by simp))).mono ?_
                    rintro e' w2 ⟨rfl, o2⟩
                    exact hK.out _ _ ⟨_, rfl, o2, rfl⟩
                  · intro vals wr hR hp K hK
                    dsimp only at hK ⊢
                    obtain ⟨p1, p6, -⟩ := hp
                    replace p1 := p1 rfl
                    replace p6 := p6 rfl
                    dsimp only at p1 p6
                    rw [p1, p6] at hK ⊢
                    clear p1 p6
                    unfold RunsOp
                    go_simp
                    exact hK.out _ _ ⟨_, rfl, Only.refl _ _, rfl⟩
                case doneq111 =>
                  intro vals wd hR hF
                  have f7 : vals 7 = .bool sm := hF 7 (by decide)
                  rw [f7]
                  clear f7
                  gi_wp2_with (fail)
                  go_wp2_with (fail)
                  go_roundw
                  case rel =>
                    have hO := (Only.refl [] w5).drew.trans hR (by simp)
                    exact ⟨k + 1, some ⟨bh, oh, none⟩, c5, _, _, _, _, by go_num, rfl, rfl, rfl, rfl, by omega, HLN5, Lib.hid (by rw [HTK1.out]; exact errK_snoc HER.out HPE0.out), Lib.hid (by rw [HTK2.out, List.map_append, HETR.out, ← HTK4.out.tr]; rfl), Lib.hid ⟨by rw [HI5.out]; rfl, by rw [HB5.out]; rfl, by rw [HS5.out]; rfl⟩, Lib.hid (HSTEP.out.keep hO), HNEW, Lib.hid (hO.blk HX5.out (by simp)), Lib.hid (hO.blk HN5.out (by simp)), Lib.hid (hO.blk HR5.out (by simp)), Lib.hid (hO.blk H65.out (by simp)), Lib.hid (hO.blk H75.out (by simp)), Lib.hid (hO.blk H85.out (by simp)), Lib.hid (HO5.out.trans hO (by simp))⟩
                  case measure => simp [intOf]; omega
        · have d0 : (pe.2 != 0) = true := by simp [h0]
          have hpp := HERRp.out h0
          have HPP := Lib.hid hpp
          clear h0 hpp
          obtain ⟨s0, s1, sl⟩ := H64.out.facts2
          obtain ⟨r0, r1, rl⟩ := HR4.out.facts2
          have HRd := HR4
          have g0 := HRd.out.frozen 0
          have g1 := HRd.out.frozen 1
          have nt1 : tb ≠ w.heap.size + 1 + 1 := by omega
          have nt2 : tb ≠ w.heap.size + 1 + 1 + 1 := by omega
          have nt3 : w.heap.size + 1 + 1 ≠ tb := by omega
          have nt4 : w.heap.size + 1 + 1 + 1 ≠ tb := by omega
          gi_wp2_with (fail)
          go_wp2_with (fail)
          have hb5 := (HRd.out.set_ 0 (.int .i64 0)).set_ 1 (.slice none 0 0)
          obtain ⟨e0, e1, -⟩ := Blk.facts2 (a := .int .i64 0) (b := .slice none 0 0) hb5
          refine bodyPost_ret (v := .tuple #[.agg #[.int .i64 0, .slice none 0 0], .int .i64 pe.2]) (by simp [results, Tryd.results22, go_sem, e0, e1]) rfl ?_
          clear e0 e1 hb5
          rw [← HPP.out]
          exact ⟨0, none, 0, [], rfl, none_TK _ _ _, (HOr.out.trans HO4.out (fun x hx => by simp at hx)).trans (((Only.refl [w.heap.size + 1 + 1] w4).setCell (.inl (by simp)) _).setCell (.inl (by simp)) _) (fun x hx => .inr (by simp at hx; omega))⟩
    · have hke : k = ne := by omega
      have iz : ¬ (ne : Int) < (ne : Int) := by omega
      have HLEAF := Lib.hid (show pp = leafK ⟨vars.map Vr.tr, ports.map Pr.tr, bag, of.map Vr.tr⟩ op n nm sb (es.map Tx.tr) by
        have h1 := HER.out
        have h2 := HETR.out
        rw [hke, List.take_of_length_le (by rw [HNE.out]; exact Nat.le_refl _)] at h1 h2
        rw [h2]
        exact HLF0.out h1)
      have HAA := Lib.hid (show AR B0 (w.heap.size + 6) wr A2' es from ⟨HARG.out.row (by rw [HEL.out]; omega), fun p hp => (HARG.out.blk p.block (by rw [hp]; simp)).1, HEO.out⟩)
      have HTSOK := Lib.hid (show ∀ a ∈ es.map Tx.tr, a.ok 3 = true from fun a ha => by
        rw [HETR.out] at ha
        obtain ⟨x, -, rfl⟩ := List.mem_map.1 ha
        exact kind_ok (HOK.out.nm bag) x.tr)
      replace HEL := Lib.hid (HEL.out.trans hke)
      have HB6 := Lib.hid (show w.heap.size + 6 ≤ wr.heap.size from H8.out.lt)
      clear HARG HEO HER HETR HERR HLF0 HI HRA HS HR
      rw [hke]
      clear hke hlt hk
      have hops := HOPS.out
      clear HOPS
      rcases hops with rfl | rfl | rfl | rfl
      · have HPI := Lib.hid (show pp = ofPortK ⟨vars.map Vr.tr, ports.map Pr.tr, bag, of.map Vr.tr⟩ 7 nm (es.map Tx.tr) from HLEAF.out)
        have HLN := Lib.hid HOK.out.l2
        rw [HL2.out] at HLN
        have hln := HLN.out
        obtain ⟨wp, hwp⟩ : ∃ wp : World, wr.alloc (.cells #[.string ⟨#[]⟩, .int .i64 0, .slice none 0 0] 68) = wp := ⟨_, rfl⟩
        have HWP := Lib.hid hwp
        have HOP := Lib.hid (show Only [] wr wp by rw [← hwp]; exact (Only.refl [] wr).alloc _)
        have HPB := Lib.hid (show Blk wp wr.heap.size 68 #[.string ⟨#[]⟩, .int .i64 0, .slice none 0 0] by rw [← hwp]; exact Blk.new wr 68 _)
        clear hwp
        have HXp := Lib.hid (HOP.out.blk HX.out (by simp))
        have HN9p := Lib.hid (HOP.out.blk HN9.out (by simp))
        have HRBp := Lib.hid (HOP.out.blk HRB.out (by simp))
        have H6p := Lib.hid (HOP.out.blk H6.out (by simp))
        have H7p := Lib.hid (HOP.out.blk H7.out (by simp))
        have H8p := Lib.hid (HOP.out.blk H8.out (by simp))
        have HOW := Lib.hid (HOr.out.trans HOP.out (by simp))
        have hb6 := HB6.out
        obtain ⟨x0, x1, x2, x3, x4, xl⟩ := HX.out.facts5
        obtain ⟨b0, b1, b2, b3, bl⟩ := HN9.out.facts4
        go_wp2_with (fail)
        rw [HWP.out]
        obtain ⟨zb, hzb⟩ : ∃ zb, wr.heap.size = zb := ⟨_, rfl⟩
        rw [hzb] at HPB hb6 ⊢
        clear x0 x1 x2 x3 x4 xl b0 b1 b2 b3 bl HAA HLEAF HTSOK HQ
        go_loopw [17, 18] (fun t i wr => ∃ k : Nat, i = .int .i64 ((k : Int) - 1) ∧ k ≤ n2 ∧ t = .bool ((ports.drop k).find? (fun x => decide (Pr.s x = nm))).isSome ∧ Hid (Blk wr zb 68 (((ports.drop k).find? (fun x => decide (Pr.s x = nm))).getD default).cs.toArray) ∧ Hid (Only [zb] wp wr)) (fun _ i _ => (intOf i + 1).toNat)
        case atStart => exact ⟨n2, by go_num, Nat.le_refl _, by rw [List.drop_of_length_le (by rw [HL2.out]; exact Nat.le_refl _)]; rfl, Lib.hid (by rw [List.drop_of_length_le (by rw [HL2.out]; exact Nat.le_refl _)]; exact HPB.out), Lib.hid (Only.refl _ _)⟩
        case round =>
          obtain ⟨k, rfl, hk, rfl, HPBl, HOl⟩ := hrel
          obtain ⟨cur, hcur⟩ : ∃ cur, ((ports.drop k).find? (fun x => decide (Pr.s x = nm))) = cur := ⟨_, rfl⟩
          have HCUR := Lib.hid hcur
          rw [hcur] at HPBl ⊢
          clear hcur
          have HOk := Lib.hid (show Only [] w wr from HOW.out.trans HOl.out (fun x hx => .inr (by simp at hx; omega)))
          by_cases hlt : 0 < k
          · obtain ⟨k, rfl⟩ : ∃ j, k = j + 1 := ⟨k - 1, by omega⟩
            obtain ⟨e, he⟩ : ∃ e, ports[k]? = some e := ⟨_, List.getElem?_eq_getElem (by rw [HL2.out]; omega)⟩
            have HST := Lib.hid (show ((ports.drop k).find? (fun x => decide (Pr.s x = nm))) = if (fun x => decide (Pr.s x = nm)) e = true then some e else cur by
              have h1 := (List.getElem?_eq_some_iff.1 he)
              obtain ⟨h1, h2⟩ := h1
              rw [List.drop_eq_getElem_cons h1, h2, List.find?_cons, HCUR.out]
              by_cases hq : Pr.s e = nm <;> simp [hq])
            have hrow := (HNM.out.ports.row k _ he).keep HOk.out
            obtain ⟨pe, hpe⟩ : ∃ pe, (fun x => decide (Pr.s x = nm)) e = pe := ⟨_, rfl⟩
            rw [hpe] at HST
            rw [show (((k + 1 : Nat) : Int) - 1) = (k : Int) by omega]
            obtain ⟨xs, xk, xA, xcap, xl⟩ := e
            obtain ⟨bb, o, rfl, hbb, c0, c1, c2⟩ := hrow.cells
            have hpe' : decide (xs = nm) = pe := hpe
            have e1 := str_eq xs nm
            have e2 := str_eq2 xs nm
            rw [hpe'] at e1 e2
            clear hpe'
            have HC := Lib.hid (And.intro hbb (And.intro c0 (And.intro c1 c2)))
            have ik0 : (0 : Int) ≤ (k : Int) := by omega
            have ik1 : (k : Int) < (n2 : Int) := by omega
            have HXl := Lib.hid (HOl.out.blk HXp.out (by simp; omega))
            have HN9l := Lib.hid (HOl.out.blk HN9p.out (by simp; omega))
            obtain ⟨b0, b1, b2, b3, bl⟩ := HN9l.out.facts4
            clear he hpe hrow c0 c1 c2 hbb
            go_wp2_with (fail)
            clear b0 b1 b2 b3 bl
            refine (wpIn_wide (n := 9)).1 ?_
            refine wpIn_region_relR 9 (Only []) (fr := ?frp7) (tl := ?tlp7) (fun iq v wv => match iq with
              | 0 => v = .pointer (some ⟨w.heap.size + 1, 1, none⟩)
              | 1 => v = .slice (some ⟨bb, o, none⟩) n2 c2
              | 2 => v = .int .i64 (k : Int)
              | 3 => v = .pointer (some ⟨bb, o + k * 3, none⟩)
              | 4 => v = .pointer (some ⟨bb, o + k * 3, none⟩)
              | 5 => v = .string xs
              | 6 => v = .pointer (some ⟨w.heap.size, 2, none⟩)
              | 7 => v = .string nm
              | 8 => v = .bool pe
              | _ => True) (.inl rfl) (by kernel_rfl) (by kernel_rfl) (by kernel_rfl) (by kernel_rfl) (by kernel_rfl) (by kernel_rfl) (by decide) ?htlp7 ?hfrp7 (Only.refl _ _) (fun _ _ _ h k => h.trans k (fun _ hx => .inl hx)) ?stabp7 ?stepsp7 ?donep7
            case htlp7 => simp only [List.drop_succ_cons, List.drop_zero]; rfl
            case hfrp7 => intro vals; simp only [putAll, dstAt, Act.put, List.getElem?_toArray, List.getElem?_cons_zero, List.getElem?_cons_succ, Option.bind_some, List.setIfInBounds_toArray, List.set_cons_zero, List.set_cons_succ]; rfl
            case stabp7 =>
              intro i v wa wb h
              try dsimp only
              split <;> first | exact id
            case stepsp7 =>
              refine ⟨?_, ?_, ?_, ?_, ?_, ?_, ?_, ?_, ?_, trivial⟩
              · intro vals wr hR hp K hK
                dsimp only at hK ⊢
                clear hp
                unfold RunsOp
                go_simp
                exact hK.out _ _ ⟨_, rfl, Only.refl _ _, rfl⟩
              · intro vals wr hR hp K hK
                dsimp only at hK ⊢
                obtain ⟨p0, -⟩ := hp
                replace p0 := p0 rfl
                dsimp only at p0
                rw [p0] at hK ⊢
                clear p0
                unfold RunsOp
                obtain ⟨m0, m1, m2, m3, ml⟩ := (hR.blk (Blk.drew HN9l.out) (by simp)).facts4
                go_simp
                exact hK.out _ _ ⟨_, rfl, Only.refl _ _, rfl⟩
              · intro vals wr hR hp K hK
                dsimp only at hK ⊢
                clear hp
                unfold RunsOp
                go_simp
                exact hK.out _ _ ⟨_, rfl, Only.refl _ _, rfl⟩
              · intro vals wr hR hp K hK
                dsimp only at hK ⊢
                obtain ⟨p1, p2, -⟩ := hp
                replace p1 := p1 rfl
                replace p2 := p2 rfl
                dsimp only at p1 p2
                rw [p1, p2] at hK ⊢
                clear p1 p2
                unfold RunsOp
                go_simp
                exact hK.out _ _ ⟨_, rfl, Only.refl _ _, rfl⟩
              · intro vals wr hR hp K hK
                dsimp only at hK ⊢
                obtain ⟨p3, -⟩ := hp
                replace p3 := p3 rfl
                dsimp only at p3
                rw [p3] at hK ⊢
                clear p3
                unfold RunsOp
                go_simp
                exact hK.out _ _ ⟨_, rfl, Only.refl _ _, rfl⟩
              · intro vals wr hR hp K hK
                dsimp only at hK ⊢
                obtain ⟨p4, -⟩ := hp
                replace p4 := p4 rfl
                dsimp only at p4
                rw [p4] at hK ⊢
                clear p4
                unfold RunsOp
                have q0 := (hR.cell (p := ⟨bb, o + k * 3, none⟩) HC.out.1 (by simp)).trans HC.out.2.1
                go_simp
                exact hK.out _ _ ⟨_, rfl, Only.refl _ _, rfl⟩
              · intro vals wr hR hp K hK
                dsimp only at hK ⊢
                clear hp
                unfold RunsOp
                go_simp
                exact hK.out _ _ ⟨_, rfl, Only.refl _ _, rfl⟩
              · intro vals wr hR hp K hK
                dsimp only at hK ⊢
                obtain ⟨p6, -⟩ := hp
                replace p6 := p6 rfl
                dsimp only at p6
                rw [p6] at hK ⊢
                clear p6
                unfold RunsOp
                obtain ⟨x0, x1, x2, x3, x4, xl'⟩ := (hR.blk (Blk.drew HXl.out) (by simp)).facts5
                go_simp
                exact hK.out _ _ ⟨_, rfl, Only.refl _ _, rfl⟩
              · intro vals wr hR hp K hK
                dsimp only at hK ⊢
                obtain ⟨p5, p7, -⟩ := hp
                replace p5 := p5 rfl
                replace p7 := p7 rfl
                dsimp only at p5 p7
                rw [p5, p7] at hK ⊢
                clear p5 p7
                unfold RunsOp
                go_simp
                exact hK.out _ _ ⟨_, rfl, Only.refl _ _, rfl⟩
            case donep7 =>
              intro vals wd hR hF
              have f8 : vals 8 = .bool pe := hF 8 (by decide)
              rw [f8]
              clear f8
              have HRl := Lib.hid ((Only.refl [] _).drew.trans hR (by simp))
              have HWD := Lib.hid (HOl.out.trans HRl.out (by simp))
              have HPBd := Lib.hid (HRl.out.blk HPBl.out (by simp))
              clear hR hF
              cases pe
              · gi_wp2_with (fail)
                go_wp2_with (fail)
                go_roundw
                case rel => exact ⟨k, by go_num, by omega, by rw [HST.out]; rfl, Lib.hid (by rw [HST.out]; exact HPBd.out), HWD⟩
                case measure => simp [intOf] <;> omega
              · obtain ⟨b0, b1, b2, b3, bl⟩ := (HRl.out.blk HN9l.out (by simp)).facts4
                have c0 := (HRl.out.cell (p := ⟨bb, o + k * 3, none⟩) HC.out.1 (by simp)).trans HC.out.2.1
                have c1 := (HRl.out.cell (p := ⟨bb, o + k * 3 + 1, none⟩) HC.out.1 (by simp)).trans HC.out.2.2.1
                have c2' := (HRl.out.cell (p := ⟨bb, o + k * 3 + 2, none⟩) HC.out.1 (by simp)).trans HC.out.2.2.2
                obtain ⟨⟨us, uk, uA, ucap, ul⟩, hcv⟩ : ∃ cv, cur.getD default = cv := ⟨_, rfl⟩
                rw [hcv] at HPBd
                clear hcv
                have HPBe := Lib.hid (show Blk wd zb 68 #[.string us, .int .i64 uk, .slice uA ul.length ucap] from HPBd.out)
                obtain ⟨r0, r1, r2, rl⟩ := HPBe.out.facts3
                have g0 := HPBe.out.frozen 0
                have g1 := HPBe.out.frozen 1
                have g2 := HPBe.out.frozen 2
                gi_wp2_with (fail)
                go_wp2_with (fail)
                go_roundw
                case rel => exact ⟨k, by go_num, by omega, by rw [HST.out]; rfl, Lib.hid (by rw [HST.out]; exact ((HPBe.out.set_ 0 (.string xs)).set_ 1 (.int .i64 xk)).set_ 2 (.slice xA xl.length xcap)), Lib.hid (((HWD.out.setCell (p := ⟨zb, 0, none⟩) (.inl (by simp)) (.string xs)).setCell (p := ⟨zb, 1, none⟩) (.inl (by simp)) (.int .i64 xk)).setCell (p := ⟨zb, 2, none⟩) (.inl (by simp)) (.slice xA xl.length xcap))⟩
                case measure => simp [intOf] <;> omega
          · obtain rfl : k = 0 := by omega
            rw [show ((0 : Nat) : Int) - 1 = -1 by omega]
            have HC0 := Lib.hid (show ports.find? (fun x => decide (Pr.s x = nm)) = cur by have h := HCUR.out; rw [List.drop_zero] at h; exact h)
            clear HCUR hlt hk
            have HXl := Lib.hid (HOl.out.blk HXp.out (by simp; omega))
            have HN9l := Lib.hid (HOl.out.blk HN9p.out (by simp; omega))
            have HRBl := Lib.hid (HOl.out.blk HRBp.out (by simp; omega))
            have H6l := Lib.hid (HOl.out.blk H6p.out (by simp; omega))
            have H7l := Lib.hid (HOl.out.blk H7p.out (by simp; omega))
            have H8l := Lib.hid (HOl.out.blk H8p.out (by simp; omega))
            obtain ⟨x0, x1, x2, x3, x4, xl⟩ := HXl.out.facts5
            obtain ⟨b0, b1, b2, b3, bl⟩ := HN9l.out.facts4
            obtain ⟨r0, r1, rl⟩ := HRBl.out.facts2
            have g0 := HRBl.out.frozen 0
            have g1 := HRBl.out.frozen 1
            cases cur with
            | none =>
              have HPP := Lib.hid (show pp = (noT, 10) by rw [HPI.out]; unfold ofPortK; rw [portK_fd, HC0.out]; cases bag <;> rfl)
              obtain ⟨s0, s1, sl⟩ := H6l.out.facts2
              go_wp2_with (fail)
              have hb5 := ((HRBl.out.set_ 0 (.int .i64 0)).set_ 1 (.slice none 0 0))
              obtain ⟨e0, e1, -⟩ := Blk.facts2 (a := .int .i64 0) (b := .slice none 0 0) hb5
              refine bodyPost_ret (v := .tuple #[.agg #[.int .i64 0, .slice none 0 0], .int .i64 10]) (by simp [results, Tryd.results22, go_sem, e0, e1]) rfl ?_
              clear e0 e1 hb5
              rw [HPP.out]
              have o7 := (((Only.refl [w.heap.size + 1 + 1] wr).setCell (p := ⟨w.heap.size + 1 + 1, 0, none⟩) (.inl (by simp)) (.int .i64 0)).setCell (p := ⟨w.heap.size + 1 + 1, 1, none⟩) (.inl (by simp)) (.slice none 0 0))
              exact ⟨0, none, 0, [], rfl, plain_TK _ _ _ ⟨by omega, by omega⟩ _, HOk.out.trans o7 (fun b hb => .inr (by simp at hb; omega))⟩
            | some v =>
              obtain ⟨vs, vk, vA, vcap, vl⟩ := v
              have HPV := Lib.hid (show Blk wr zb 68 #[.string vs, .int .i64 vk, .slice vA vl.length vcap] from HPBl.out)
              clear HPBl
              cases bag
              · have HPP := Lib.hid (show pp = (noT, 10) by rw [HPI.out]; unfold ofPortK; rw [portK_fd, HC0.out]; rfl)
                obtain ⟨s0, s1, sl⟩ := H6l.out.facts2
                go_wp2_with (fail)
                have hb5 := ((HRBl.out.set_ 0 (.int .i64 0)).set_ 1 (.slice none 0 0))
                obtain ⟨e0, e1, -⟩ := Blk.facts2 (a := .int .i64 0) (b := .slice none 0 0) hb5
                refine bodyPost_ret (v := .tuple #[.agg #[.int .i64 0, .slice none 0 0], .int .i64 10]) (by simp [results, Tryd.results22, go_sem, e0, e1]) rfl ?_
                clear e0 e1 hb5
                rw [HPP.out]
                have o7 := (((Only.refl [w.heap.size + 1 + 1] wr).setCell (p := ⟨w.heap.size + 1 + 1, 0, none⟩) (.inl (by simp)) (.int .i64 0)).setCell (p := ⟨w.heap.size + 1 + 1, 1, none⟩) (.inl (by simp)) (.slice none 0 0))
                exact ⟨0, none, 0, [], rfl, plain_TK _ _ _ ⟨by omega, by omega⟩ _, HOk.out.trans o7 (fun b hb => .inr (by simp at hb; omega))⟩
              · obtain ⟨z0, z1, z2, zl⟩ := HPV.out.facts3
                have HPP := Lib.hid (show pp = (inT, 0) by rw [HPI.out]; unfold ofPortK; rw [portK_fd, HC0.out]; rfl)
                obtain ⟨s0, s1, sl⟩ := H7l.out.facts2
                go_wp2_with (fail)
                have hb5 := ((HRBl.out.set_ 0 (.int .i64 0)).set_ 1 (.slice none 0 0))
                obtain ⟨e0, e1, -⟩ := Blk.facts2 (a := .int .i64 0) (b := .slice none 0 0) hb5
                refine bodyPost_ret (v := .tuple #[.agg #[.int .i64 0, .slice none 0 0], .int .i64 0]) (by simp [results, Tryd.results22, go_sem, e0, e1]) rfl ?_
                clear e0 e1 hb5
                rw [HPP.out]
                have o7 := (((Only.refl [w.heap.size + 1 + 1] wr).setCell (p := ⟨w.heap.size + 1 + 1, 0, none⟩) (.inl (by simp)) (.int .i64 0)).setCell (p := ⟨w.heap.size + 1 + 1, 1, none⟩) (.inl (by simp)) (.slice none 0 0))
                exact ⟨0, none, 0, [], rfl, plain_TK _ _ _ ⟨by omega, by omega⟩ _, HOk.out.trans o7 (fun b hb => .inr (by simp at hb; omega))⟩
      · have HPI := Lib.hid (show pp = ofPortK ⟨vars.map Vr.tr, ports.map Pr.tr, bag, of.map Vr.tr⟩ 8 nm (es.map Tx.tr) from HLEAF.out)
        have HLN := Lib.hid HOK.out.l2
        rw [HL2.out] at HLN
        have hln := HLN.out
        obtain ⟨wp, hwp⟩ : ∃ wp : World, wr.alloc (.cells #[.string ⟨#[]⟩, .int .i64 0, .slice none 0 0] 68) = wp := ⟨_, rfl⟩
        have HWP := Lib.hid hwp
        have HOP := Lib.hid (show Only [] wr wp by rw [← hwp]; exact (Only.refl [] wr).alloc _)
        have HPB := Lib.hid (show Blk wp wr.heap.size 68 #[.string ⟨#[]⟩, .int .i64 0, .slice none 0 0] by rw [← hwp]; exact Blk.new wr 68 _)
        clear hwp
        have HXp := Lib.hid (HOP.out.blk HX.out (by simp))
        have HN9p := Lib.hid (HOP.out.blk HN9.out (by simp))
        have HRBp := Lib.hid (HOP.out.blk HRB.out (by simp))
        have H6p := Lib.hid (HOP.out.blk H6.out (by simp))
        have H7p := Lib.hid (HOP.out.blk H7.out (by simp))
        have H8p := Lib.hid (HOP.out.blk H8.out (by simp))
        have HOW := Lib.hid (HOr.out.trans HOP.out (by simp))
        have hb6 := HB6.out
        obtain ⟨x0, x1, x2, x3, x4, xl⟩ := HX.out.facts5
        obtain ⟨b0, b1, b2, b3, bl⟩ := HN9.out.facts4
        go_wp2_with (fail)
        rw [HWP.out]
        obtain ⟨zb, hzb⟩ : ∃ zb, wr.heap.size = zb := ⟨_, rfl⟩
        rw [hzb] at HPB hb6 ⊢
        clear x0 x1 x2 x3 x4 xl b0 b1 b2 b3 bl HAA HLEAF HTSOK HQ
        go_loopw [17, 18] (fun t i wr => ∃ k : Nat, i = .int .i64 ((k : Int) - 1) ∧ k ≤ n2 ∧ t = .bool ((ports.drop k).find? (fun x => decide (Pr.s x = nm))).isSome ∧ Hid (Blk wr zb 68 (((ports.drop k).find? (fun x => decide (Pr.s x = nm))).getD default).cs.toArray) ∧ Hid (Only [zb] wp wr)) (fun _ i _ => (intOf i + 1).toNat)
        case atStart => exact ⟨n2, by go_num, Nat.le_refl _, by rw [List.drop_of_length_le (by rw [HL2.out]; exact Nat.le_refl _)]; rfl, Lib.hid (by rw [List.drop_of_length_le (by rw [HL2.out]; exact Nat.le_refl _)]; exact HPB.out), Lib.hid (Only.refl _ _)⟩
        case round =>
          obtain ⟨k, rfl, hk, rfl, HPBl, HOl⟩ := hrel
          obtain ⟨cur, hcur⟩ : ∃ cur, ((ports.drop k).find? (fun x => decide (Pr.s x = nm))) = cur := ⟨_, rfl⟩
          have HCUR := Lib.hid hcur
          rw [hcur] at HPBl ⊢
          clear hcur
          have HOk := Lib.hid (show Only [] w wr from HOW.out.trans HOl.out (fun x hx => .inr (by simp at hx; omega)))
          by_cases hlt : 0 < k
          · obtain ⟨k, rfl⟩ : ∃ j, k = j + 1 := ⟨k - 1, by omega⟩
            obtain ⟨e, he⟩ : ∃ e, ports[k]? = some e := ⟨_, List.getElem?_eq_getElem (by rw [HL2.out]; omega)⟩
            have HST := Lib.hid (show ((ports.drop k).find? (fun x => decide (Pr.s x = nm))) = if (fun x => decide (Pr.s x = nm)) e = true then some e else cur by
              have h1 := (List.getElem?_eq_some_iff.1 he)
              obtain ⟨h1, h2⟩ := h1
              rw [List.drop_eq_getElem_cons h1, h2, List.find?_cons, HCUR.out]
              by_cases hq : Pr.s e = nm <;> simp [hq])
            have hrow := (HNM.out.ports.row k _ he).keep HOk.out
            obtain ⟨pe, hpe⟩ : ∃ pe, (fun x => decide (Pr.s x = nm)) e = pe := ⟨_, rfl⟩
            rw [hpe] at HST
            rw [show (((k + 1 : Nat) : Int) - 1) = (k : Int) by omega]
            obtain ⟨xs, xk, xA, xcap, xl⟩ := e
            obtain ⟨bb, o, rfl, hbb, c0, c1, c2⟩ := hrow.cells
            have hpe' : decide (xs = nm) = pe := hpe
            have e1 := str_eq xs nm
            have e2 := str_eq2 xs nm
            rw [hpe'] at e1 e2
            clear hpe'
            have HC := Lib.hid (And.intro hbb (And.intro c0 (And.intro c1 c2)))
            have ik0 : (0 : Int) ≤ (k : Int) := by omega
            have ik1 : (k : Int) < (n2 : Int) := by omega
            have HXl := Lib.hid (HOl.out.blk HXp.out (by simp; omega))
            have HN9l := Lib.hid (HOl.out.blk HN9p.out (by simp; omega))
            obtain ⟨b0, b1, b2, b3, bl⟩ := HN9l.out.facts4
            clear he hpe hrow c0 c1 c2 hbb
            go_wp2_with (fail)
            clear b0 b1 b2 b3 bl
            refine (wpIn_wide (n := 9)).1 ?_
            refine wpIn_region_relR 9 (Only []) (fr := ?frp8) (tl := ?tlp8) (fun iq v wv => match iq with
              | 0 => v = .pointer (some ⟨w.heap.size + 1, 1, none⟩)
              | 1 => v = .slice (some ⟨bb, o, none⟩) n2 c2
              | 2 => v = .int .i64 (k : Int)
              | 3 => v = .pointer (some ⟨bb, o + k * 3, none⟩)
              | 4 => v = .pointer (some ⟨bb, o + k * 3, none⟩)
              | 5 => v = .string xs
              | 6 => v = .pointer (some ⟨w.heap.size, 2, none⟩)
              | 7 => v = .string nm
              | 8 => v = .bool pe
              | _ => True) (.inl rfl) (by kernel_rfl) (by kernel_rfl) (by kernel_rfl) (by kernel_rfl) (by kernel_rfl) (by kernel_rfl) (by decide) ?htlp8 ?hfrp8 (Only.refl _ _) (fun _ _ _ h k => h.trans k (fun _ hx => .inl hx)) ?stabp8 ?stepsp8 ?donep8
            case htlp8 => simp only [List.drop_succ_cons, List.drop_zero]; rfl
            case hfrp8 => intro vals; simp only [putAll, dstAt, Act.put, List.getElem?_toArray, List.getElem?_cons_zero, List.getElem?_cons_succ, Option.bind_some, List.setIfInBounds_toArray, List.set_cons_zero, List.set_cons_succ]; rfl
            case stabp8 =>
              intro i v wa wb h
              try dsimp only
              split <;> first | exact id
            case stepsp8 =>
              refine ⟨?_, ?_, ?_, ?_, ?_, ?_, ?_, ?_, ?_, trivial⟩
              · intro vals wr hR hp K hK
                dsimp only at hK ⊢
                clear hp
                unfold RunsOp
                go_simp
                exact hK.out _ _ ⟨_, rfl, Only.refl _ _, rfl⟩
              · intro vals wr hR hp K hK
                dsimp only at hK ⊢
                obtain ⟨p0, -⟩ := hp
                replace p0 := p0 rfl
                dsimp only at p0
                rw [p0] at hK ⊢
                clear p0
                unfold RunsOp
                obtain ⟨m0, m1, m2, m3, ml⟩ := (hR.blk (Blk.drew HN9l.out) (by simp)).facts4
                go_simp
                exact hK.out _ _ ⟨_, rfl, Only.refl _ _, rfl⟩
              · intro vals wr hR hp K hK
                dsimp only at hK ⊢
                clear hp
                unfold RunsOp
                go_simp
                exact hK.out _ _ ⟨_, rfl, Only.refl _ _, rfl⟩
              · intro vals wr hR hp K hK
                dsimp only at hK ⊢
                obtain ⟨p1, p2, -⟩ := hp
                replace p1 := p1 rfl
                replace p2 := p2 rfl
                dsimp only at p1 p2
                rw [p1, p2] at hK ⊢
                clear p1 p2
                unfold RunsOp
                go_simp
                exact hK.out _ _ ⟨_, rfl, Only.refl _ _, rfl⟩
              · intro vals wr hR hp K hK
                dsimp only at hK ⊢
                obtain ⟨p3, -⟩ := hp
                replace p3 := p3 rfl
                dsimp only at p3
                rw [p3] at hK ⊢
                clear p3
                unfold RunsOp
                go_simp
                exact hK.out _ _ ⟨_, rfl, Only.refl _ _, rfl⟩
              · intro vals wr hR hp K hK
                dsimp only at hK ⊢
                obtain ⟨p4, -⟩ := hp
                replace p4 := p4 rfl
                dsimp only at p4
                rw [p4] at hK ⊢
                clear p4
                unfold RunsOp
                have q0 := (hR.cell (p := ⟨bb, o + k * 3, none⟩) HC.out.1 (by simp)).trans HC.out.2.1
                go_simp
                exact hK.out _ _ ⟨_, rfl, Only.refl _ _, rfl⟩
              · intro vals wr hR hp K hK
                dsimp only at hK ⊢
                clear hp
                unfold RunsOp
                go_simp
                exact hK.out _ _ ⟨_, rfl, Only.refl _ _, rfl⟩
              · intro vals wr hR hp K hK
                dsimp only at hK ⊢
                obtain ⟨p6, -⟩ := hp
                replace p6 := p6 rfl
                dsimp only at p6
                rw [p6] at hK ⊢
                clear p6
                unfold RunsOp
                obtain ⟨x0, x1, x2, x3, x4, xl'⟩ := (hR.blk (Blk.drew HXl.out) (by simp)).facts5
                go_simp
                exact hK.out _ _ ⟨_, rfl, Only.refl _ _, rfl⟩
              · intro vals wr hR hp K hK
                dsimp only at hK ⊢
                obtain ⟨p5, p7, -⟩ := hp
                replace p5 := p5 rfl
                replace p7 := p7 rfl
                dsimp only at p5 p7
                rw [p5, p7] at hK ⊢
                clear p5 p7
                unfold RunsOp
                go_simp
                exact hK.out _ _ ⟨_, rfl, Only.refl _ _, rfl⟩
            case donep8 =>
              intro vals wd hR hF
              have f8 : vals 8 = .bool pe := hF 8 (by decide)
              rw [f8]
              clear f8
              have HRl := Lib.hid ((Only.refl [] _).drew.trans hR (by simp))
              have HWD := Lib.hid (HOl.out.trans HRl.out (by simp))
              have HPBd := Lib.hid (HRl.out.blk HPBl.out (by simp))
              clear hR hF
              cases pe
              · gi_wp2_with (fail)
                go_wp2_with (fail)
                go_roundw
                case rel => exact ⟨k, by go_num, by omega, by rw [HST.out]; rfl, Lib.hid (by rw [HST.out]; exact HPBd.out), HWD⟩
                case measure => simp [intOf] <;> omega
              · obtain ⟨b0, b1, b2, b3, bl⟩ := (HRl.out.blk HN9l.out (by simp)).facts4
                have c0 := (HRl.out.cell (p := ⟨bb, o + k * 3, none⟩) HC.out.1 (by simp)).trans HC.out.2.1
                have c1 := (HRl.out.cell (p := ⟨bb, o + k * 3 + 1, none⟩) HC.out.1 (by simp)).trans HC.out.2.2.1
                have c2' := (HRl.out.cell (p := ⟨bb, o + k * 3 + 2, none⟩) HC.out.1 (by simp)).trans HC.out.2.2.2
                obtain ⟨⟨us, uk, uA, ucap, ul⟩, hcv⟩ : ∃ cv, cur.getD default = cv := ⟨_, rfl⟩
                rw [hcv] at HPBd
                clear hcv
                have HPBe := Lib.hid (show Blk wd zb 68 #[.string us, .int .i64 uk, .slice uA ul.length ucap] from HPBd.out)
                obtain ⟨r0, r1, r2, rl⟩ := HPBe.out.facts3
                have g0 := HPBe.out.frozen 0
                have g1 := HPBe.out.frozen 1
                have g2 := HPBe.out.frozen 2
                gi_wp2_with (fail)
                go_wp2_with (fail)
                go_roundw
                case rel => exact ⟨k, by go_num, by omega, by rw [HST.out]; rfl, Lib.hid (by rw [HST.out]; exact ((HPBe.out.set_ 0 (.string xs)).set_ 1 (.int .i64 xk)).set_ 2 (.slice xA xl.length xcap)), Lib.hid (((HWD.out.setCell (p := ⟨zb, 0, none⟩) (.inl (by simp)) (.string xs)).setCell (p := ⟨zb, 1, none⟩) (.inl (by simp)) (.int .i64 xk)).setCell (p := ⟨zb, 2, none⟩) (.inl (by simp)) (.slice xA xl.length xcap))⟩
                case measure => simp [intOf] <;> omega
          · obtain rfl : k = 0 := by omega
            rw [show ((0 : Nat) : Int) - 1 = -1 by omega]
            have HC0 := Lib.hid (show ports.find? (fun x => decide (Pr.s x = nm)) = cur by have h := HCUR.out; rw [List.drop_zero] at h; exact h)
            clear HCUR hlt hk
            have HXl := Lib.hid (HOl.out.blk HXp.out (by simp; omega))
            have HN9l := Lib.hid (HOl.out.blk HN9p.out (by simp; omega))
            have HRBl := Lib.hid (HOl.out.blk HRBp.out (by simp; omega))
            have H6l := Lib.hid (HOl.out.blk H6p.out (by simp; omega))
            have H7l := Lib.hid (HOl.out.blk H7p.out (by simp; omega))
            have H8l := Lib.hid (HOl.out.blk H8p.out (by simp; omega))
            obtain ⟨x0, x1, x2, x3, x4, xl⟩ := HXl.out.facts5
            obtain ⟨b0, b1, b2, b3, bl⟩ := HN9l.out.facts4
            obtain ⟨r0, r1, rl⟩ := HRBl.out.facts2
            have g0 := HRBl.out.frozen 0
            have g1 := HRBl.out.frozen 1
            cases cur with
            | none =>
              have HPP := Lib.hid (show pp = (noT, 10) by rw [HPI.out]; unfold ofPortK; rw [portK_fd, HC0.out]; cases bag <;> rfl)
              obtain ⟨s0, s1, sl⟩ := H6l.out.facts2
              go_wp2_with (fail)
              have hb5 := ((HRBl.out.set_ 0 (.int .i64 0)).set_ 1 (.slice none 0 0))
              obtain ⟨e0, e1, -⟩ := Blk.facts2 (a := .int .i64 0) (b := .slice none 0 0) hb5
              refine bodyPost_ret (v := .tuple #[.agg #[.int .i64 0, .slice none 0 0], .int .i64 10]) (by simp [results, Tryd.results22, go_sem, e0, e1]) rfl ?_
              clear e0 e1 hb5
              rw [HPP.out]
              have o7 := (((Only.refl [w.heap.size + 1 + 1] wr).setCell (p := ⟨w.heap.size + 1 + 1, 0, none⟩) (.inl (by simp)) (.int .i64 0)).setCell (p := ⟨w.heap.size + 1 + 1, 1, none⟩) (.inl (by simp)) (.slice none 0 0))
              exact ⟨0, none, 0, [], rfl, plain_TK _ _ _ ⟨by omega, by omega⟩ _, HOk.out.trans o7 (fun b hb => .inr (by simp at hb; omega))⟩
            | some v =>
              obtain ⟨vs, vk, vA, vcap, vl⟩ := v
              have HPV := Lib.hid (show Blk wr zb 68 #[.string vs, .int .i64 vk, .slice vA vl.length vcap] from HPBl.out)
              clear HPBl
              cases bag
              · have HPP := Lib.hid (show pp = (noT, 10) by rw [HPI.out]; unfold ofPortK; rw [portK_fd, HC0.out]; rfl)
                obtain ⟨s0, s1, sl⟩ := H6l.out.facts2
                go_wp2_with (fail)
                have hb5 := ((HRBl.out.set_ 0 (.int .i64 0)).set_ 1 (.slice none 0 0))
                obtain ⟨e0, e1, -⟩ := Blk.facts2 (a := .int .i64 0) (b := .slice none 0 0) hb5
                refine bodyPost_ret (v := .tuple #[.agg #[.int .i64 0, .slice none 0 0], .int .i64 10]) (by simp [results, Tryd.results22, go_sem, e0, e1]) rfl ?_
                clear e0 e1 hb5
                rw [HPP.out]
                have o7 := (((Only.refl [w.heap.size + 1 + 1] wr).setCell (p := ⟨w.heap.size + 1 + 1, 0, none⟩) (.inl (by simp)) (.int .i64 0)).setCell (p := ⟨w.heap.size + 1 + 1, 1, none⟩) (.inl (by simp)) (.slice none 0 0))
                exact ⟨0, none, 0, [], rfl, plain_TK _ _ _ ⟨by omega, by omega⟩ _, HOk.out.trans o7 (fun b hb => .inr (by simp at hb; omega))⟩
              · obtain ⟨z0, z1, z2, zl⟩ := HPV.out.facts3
                have HPP := Lib.hid (show pp = (boT, 0) by rw [HPI.out]; unfold ofPortK; rw [portK_fd, HC0.out]; rfl)
                obtain ⟨s0, s1, sl⟩ := H8l.out.facts2
                go_wp2_with (fail)
                have hb5 := ((HRBl.out.set_ 0 (.int .i64 1)).set_ 1 (.slice none 0 0))
                obtain ⟨e0, e1, -⟩ := Blk.facts2 (a := .int .i64 1) (b := .slice none 0 0) hb5
                refine bodyPost_ret (v := .tuple #[.agg #[.int .i64 1, .slice none 0 0], .int .i64 0]) (by simp [results, Tryd.results22, go_sem, e0, e1]) rfl ?_
                clear e0 e1 hb5
                rw [HPP.out]
                have o7 := (((Only.refl [w.heap.size + 1 + 1] wr).setCell (p := ⟨w.heap.size + 1 + 1, 0, none⟩) (.inl (by simp)) (.int .i64 1)).setCell (p := ⟨w.heap.size + 1 + 1, 1, none⟩) (.inl (by simp)) (.slice none 0 0))
                exact ⟨1, none, 0, [], rfl, plain_TK _ _ _ ⟨by omega, by omega⟩ _, HOk.out.trans o7 (fun b hb => .inr (by simp at hb; omega))⟩
      · have HPI := Lib.hid (show pp = ofPortK ⟨vars.map Vr.tr, ports.map Pr.tr, bag, of.map Vr.tr⟩ 9 nm (es.map Tx.tr) from HLEAF.out)
        have HLN := Lib.hid HOK.out.l2
        rw [HL2.out] at HLN
        have hln := HLN.out
        obtain ⟨wp, hwp⟩ : ∃ wp : World, wr.alloc (.cells #[.string ⟨#[]⟩, .int .i64 0, .slice none 0 0] 68) = wp := ⟨_, rfl⟩
        have HWP := Lib.hid hwp
        have HOP := Lib.hid (show Only [] wr wp by rw [← hwp]; exact (Only.refl [] wr).alloc _)
        have HPB := Lib.hid (show Blk wp wr.heap.size 68 #[.string ⟨#[]⟩, .int .i64 0, .slice none 0 0] by rw [← hwp]; exact Blk.new wr 68 _)
        clear hwp
        have HXp := Lib.hid (HOP.out.blk HX.out (by simp))
        have HN9p := Lib.hid (HOP.out.blk HN9.out (by simp))
        have HRBp := Lib.hid (HOP.out.blk HRB.out (by simp))
        have H6p := Lib.hid (HOP.out.blk H6.out (by simp))
        have H7p := Lib.hid (HOP.out.blk H7.out (by simp))
        have H8p := Lib.hid (HOP.out.blk H8.out (by simp))
        have HOW := Lib.hid (HOr.out.trans HOP.out (by simp))
        have hb6 := HB6.out
        obtain ⟨x0, x1, x2, x3, x4, xl⟩ := HX.out.facts5
        obtain ⟨b0, b1, b2, b3, bl⟩ := HN9.out.facts4
        go_wp2_with (fail)
        rw [HWP.out]
        obtain ⟨zb, hzb⟩ : ∃ zb, wr.heap.size = zb := ⟨_, rfl⟩
        rw [hzb] at HPB hb6 ⊢
        clear x0 x1 x2 x3 x4 xl b0 b1 b2 b3 bl HAA HLEAF HTSOK HQ
        go_loopw [17, 18] (fun t i wr => ∃ k : Nat, i = .int .i64 ((k : Int) - 1) ∧ k ≤ n2 ∧ t = .bool ((ports.drop k).find? (fun x => decide (Pr.s x = nm))).isSome ∧ Hid (Blk wr zb 68 (((ports.drop k).find? (fun x => decide (Pr.s x = nm))).getD default).cs.toArray) ∧ Hid (Only [zb] wp wr)) (fun _ i _ => (intOf i + 1).toNat)
        case atStart => exact ⟨n2, by go_num, Nat.le_refl _, by rw [List.drop_of_length_le (by rw [HL2.out]; exact Nat.le_refl _)]; rfl, Lib.hid (by rw [List.drop_of_length_le (by rw [HL2.out]; exact Nat.le_refl _)]; exact HPB.out), Lib.hid (Only.refl _ _)⟩
        case round =>
          obtain ⟨k, rfl, hk, rfl, HPBl, HOl⟩ := hrel
          obtain ⟨cur, hcur⟩ : ∃ cur, ((ports.drop k).find? (fun x => decide (Pr.s x = nm))) = cur := ⟨_, rfl⟩
          have HCUR := Lib.hid hcur
          rw [hcur] at HPBl ⊢
          clear hcur
          have HOk := Lib.hid (show Only [] w wr from HOW.out.trans HOl.out (fun x hx => .inr (by simp at hx; omega)))
          by_cases hlt : 0 < k
          · obtain ⟨k, rfl⟩ : ∃ j, k = j + 1 := ⟨k - 1, by omega⟩
            obtain ⟨e, he⟩ : ∃ e, ports[k]? = some e := ⟨_, List.getElem?_eq_getElem (by rw [HL2.out]; omega)⟩
            have HST := Lib.hid (show ((ports.drop k).find? (fun x => decide (Pr.s x = nm))) = if (fun x => decide (Pr.s x = nm)) e = true then some e else cur by
              have h1 := (List.getElem?_eq_some_iff.1 he)
              obtain ⟨h1, h2⟩ := h1
              rw [List.drop_eq_getElem_cons h1, h2, List.find?_cons, HCUR.out]
              by_cases hq : Pr.s e = nm <;> simp [hq])
            have hrow := (HNM.out.ports.row k _ he).keep HOk.out
            obtain ⟨pe, hpe⟩ : ∃ pe, (fun x => decide (Pr.s x = nm)) e = pe := ⟨_, rfl⟩
            rw [hpe] at HST
            rw [show (((k + 1 : Nat) : Int) - 1) = (k : Int) by omega]
            obtain ⟨xs, xk, xA, xcap, xl⟩ := e
            obtain ⟨bb, o, rfl, hbb, c0, c1, c2⟩ := hrow.cells
            have hpe' : decide (xs = nm) = pe := hpe
            have e1 := str_eq xs nm
            have e2 := str_eq2 xs nm
            rw [hpe'] at e1 e2
            clear hpe'
            have HC := Lib.hid (And.intro hbb (And.intro c0 (And.intro c1 c2)))
            have ik0 : (0 : Int) ≤ (k : Int) := by omega
            have ik1 : (k : Int) < (n2 : Int) := by omega
            have HXl := Lib.hid (HOl.out.blk HXp.out (by simp; omega))
            have HN9l := Lib.hid (HOl.out.blk HN9p.out (by simp; omega))
            obtain ⟨b0, b1, b2, b3, bl⟩ := HN9l.out.facts4
            clear he hpe hrow c0 c1 c2 hbb
            go_wp2_with (fail)
            clear b0 b1 b2 b3 bl
            refine (wpIn_wide (n := 9)).1 ?_
            refine wpIn_region_relR 9 (Only []) (fr := ?frp9) (tl := ?tlp9) (fun iq v wv => match iq with
              | 0 => v = .pointer (some ⟨w.heap.size + 1, 1, none⟩)
              | 1 => v = .slice (some ⟨bb, o, none⟩) n2 c2
              | 2 => v = .int .i64 (k : Int)
              | 3 => v = .pointer (some ⟨bb, o + k * 3, none⟩)
              | 4 => v = .pointer (some ⟨bb, o + k * 3, none⟩)
              | 5 => v = .string xs
              | 6 => v = .pointer (some ⟨w.heap.size, 2, none⟩)
              | 7 => v = .string nm
              | 8 => v = .bool pe
              | _ => True) (.inl rfl) (by kernel_rfl) (by kernel_rfl) (by kernel_rfl) (by kernel_rfl) (by kernel_rfl) (by kernel_rfl) (by decide) ?htlp9 ?hfrp9 (Only.refl _ _) (fun _ _ _ h k => h.trans k (fun _ hx => .inl hx)) ?stabp9 ?stepsp9 ?donep9
            case htlp9 => simp only [List.drop_succ_cons, List.drop_zero]; rfl
            case hfrp9 => intro vals; simp only [putAll, dstAt, Act.put, List.getElem?_toArray, List.getElem?_cons_zero, List.getElem?_cons_succ, Option.bind_some, List.setIfInBounds_toArray, List.set_cons_zero, List.set_cons_succ]; rfl
            case stabp9 =>
              intro i v wa wb h
              try dsimp only
              split <;> first | exact id
            case stepsp9 =>
              refine ⟨?_, ?_, ?_, ?_, ?_, ?_, ?_, ?_, ?_, trivial⟩
              · intro vals wr hR hp K hK
                dsimp only at hK ⊢
                clear hp
                unfold RunsOp
                go_simp
                exact hK.out _ _ ⟨_, rfl, Only.refl _ _, rfl⟩
              · intro vals wr hR hp K hK
                dsimp only at hK ⊢
                obtain ⟨p0, -⟩ := hp
                replace p0 := p0 rfl
                dsimp only at p0
                rw [p0] at hK ⊢
                clear p0
                unfold RunsOp
                obtain ⟨m0, m1, m2, m3, ml⟩ := (hR.blk (Blk.drew HN9l.out) (by simp)).facts4
                go_simp
                exact hK.out _ _ ⟨_, rfl, Only.refl _ _, rfl⟩
              · intro vals wr hR hp K hK
                dsimp only at hK ⊢
                clear hp
                unfold RunsOp
                go_simp
                exact hK.out _ _ ⟨_, rfl, Only.refl _ _, rfl⟩
              · intro vals wr hR hp K hK
                dsimp only at hK ⊢
                obtain ⟨p1, p2, -⟩ := hp
                replace p1 := p1 rfl
                replace p2 := p2 rfl
                dsimp only at p1 p2
                rw [p1, p2] at hK ⊢
                clear p1 p2
                unfold RunsOp
                go_simp
                exact hK.out _ _ ⟨_, rfl, Only.refl _ _, rfl⟩
              · intro vals wr hR hp K hK
                dsimp only at hK ⊢
                obtain ⟨p3, -⟩ := hp
                replace p3 := p3 rfl
                dsimp only at p3
                rw [p3] at hK ⊢
                clear p3
                unfold RunsOp
                go_simp
                exact hK.out _ _ ⟨_, rfl, Only.refl _ _, rfl⟩
              · intro vals wr hR hp K hK
                dsimp only at hK ⊢
                obtain ⟨p4, -⟩ := hp
                replace p4 := p4 rfl
                dsimp only at p4
                rw [p4] at hK ⊢
                clear p4
                unfold RunsOp
                have q0 := (hR.cell (p := ⟨bb, o + k * 3, none⟩) HC.out.1 (by simp)).trans HC.out.2.1
                go_simp
                exact hK.out _ _ ⟨_, rfl, Only.refl _ _, rfl⟩
              · intro vals wr hR hp K hK
                dsimp only at hK ⊢
                clear hp
                unfold RunsOp
                go_simp
                exact hK.out _ _ ⟨_, rfl, Only.refl _ _, rfl⟩
              · intro vals wr hR hp K hK
                dsimp only at hK ⊢
                obtain ⟨p6, -⟩ := hp
                replace p6 := p6 rfl
                dsimp only at p6
                rw [p6] at hK ⊢
                clear p6
                unfold RunsOp
                obtain ⟨x0, x1, x2, x3, x4, xl'⟩ := (hR.blk (Blk.drew HXl.out) (by simp)).facts5
                go_simp
                exact hK.out _ _ ⟨_, rfl, Only.refl _ _, rfl⟩
              · intro vals wr hR hp K hK
                dsimp only at hK ⊢
                obtain ⟨p5, p7, -⟩ := hp
                replace p5 := p5 rfl
                replace p7 := p7 rfl
                dsimp only at p5 p7
                rw [p5, p7] at hK ⊢
                clear p5 p7
                unfold RunsOp
                go_simp
                exact hK.out _ _ ⟨_, rfl, Only.refl _ _, rfl⟩
            case donep9 =>
              intro vals wd hR hF
              have f8 : vals 8 = .bool pe := hF 8 (by decide)
              rw [f8]
              clear f8
              have HRl := Lib.hid ((Only.refl [] _).drew.trans hR (by simp))
              have HWD := Lib.hid (HOl.out.trans HRl.out (by simp))
              have HPBd := Lib.hid (HRl.out.blk HPBl.out (by simp))
              clear hR hF
              cases pe
              · gi_wp2_with (fail)
                go_wp2_with (fail)
                go_roundw
                case rel => exact ⟨k, by go_num, by omega, by rw [HST.out]; rfl, Lib.hid (by rw [HST.out]; exact HPBd.out), HWD⟩
                case measure => simp [intOf] <;> omega
              · obtain ⟨b0, b1, b2, b3, bl⟩ := (HRl.out.blk HN9l.out (by simp)).facts4
                have c0 := (HRl.out.cell (p := ⟨bb, o + k * 3, none⟩) HC.out.1 (by simp)).trans HC.out.2.1
                have c1 := (HRl.out.cell (p := ⟨bb, o + k * 3 + 1, none⟩) HC.out.1 (by simp)).trans HC.out.2.2.1
                have c2' := (HRl.out.cell (p := ⟨bb, o + k * 3 + 2, none⟩) HC.out.1 (by simp)).trans HC.out.2.2.2
                obtain ⟨⟨us, uk, uA, ucap, ul⟩, hcv⟩ : ∃ cv, cur.getD default = cv := ⟨_, rfl⟩
                rw [hcv] at HPBd
                clear hcv
                have HPBe := Lib.hid (show Blk wd zb 68 #[.string us, .int .i64 uk, .slice uA ul.length ucap] from HPBd.out)
                obtain ⟨r0, r1, r2, rl⟩ := HPBe.out.facts3
                have g0 := HPBe.out.frozen 0
                have g1 := HPBe.out.frozen 1
                have g2 := HPBe.out.frozen 2
                gi_wp2_with (fail)
                go_wp2_with (fail)
                go_roundw
                case rel => exact ⟨k, by go_num, by omega, by rw [HST.out]; rfl, Lib.hid (by rw [HST.out]; exact ((HPBe.out.set_ 0 (.string xs)).set_ 1 (.int .i64 xk)).set_ 2 (.slice xA xl.length xcap)), Lib.hid (((HWD.out.setCell (p := ⟨zb, 0, none⟩) (.inl (by simp)) (.string xs)).setCell (p := ⟨zb, 1, none⟩) (.inl (by simp)) (.int .i64 xk)).setCell (p := ⟨zb, 2, none⟩) (.inl (by simp)) (.slice xA xl.length xcap))⟩
                case measure => simp [intOf] <;> omega
          · obtain rfl : k = 0 := by omega
            rw [show ((0 : Nat) : Int) - 1 = -1 by omega]
            have HC0 := Lib.hid (show ports.find? (fun x => decide (Pr.s x = nm)) = cur by have h := HCUR.out; rw [List.drop_zero] at h; exact h)
            clear HCUR hlt hk
            have HXl := Lib.hid (HOl.out.blk HXp.out (by simp; omega))
            have HN9l := Lib.hid (HOl.out.blk HN9p.out (by simp; omega))
            have HRBl := Lib.hid (HOl.out.blk HRBp.out (by simp; omega))
            have H6l := Lib.hid (HOl.out.blk H6p.out (by simp; omega))
            have H7l := Lib.hid (HOl.out.blk H7p.out (by simp; omega))
            have H8l := Lib.hid (HOl.out.blk H8p.out (by simp; omega))
            obtain ⟨x0, x1, x2, x3, x4, xl⟩ := HXl.out.facts5
            obtain ⟨b0, b1, b2, b3, bl⟩ := HN9l.out.facts4
            obtain ⟨r0, r1, rl⟩ := HRBl.out.facts2
            have g0 := HRBl.out.frozen 0
            have g1 := HRBl.out.frozen 1
            cases cur with
            | none =>
              have HPP := Lib.hid (show pp = (noT, 10) by rw [HPI.out]; unfold ofPortK; rw [portK_fd, HC0.out]; cases bag <;> rfl)
              obtain ⟨s0, s1, sl⟩ := H6l.out.facts2
              go_wp2_with (fail)
              have hb5 := ((HRBl.out.set_ 0 (.int .i64 0)).set_ 1 (.slice none 0 0))
              obtain ⟨e0, e1, -⟩ := Blk.facts2 (a := .int .i64 0) (b := .slice none 0 0) hb5
              refine bodyPost_ret (v := .tuple #[.agg #[.int .i64 0, .slice none 0 0], .int .i64 10]) (by simp [results, Tryd.results22, go_sem, e0, e1]) rfl ?_
              clear e0 e1 hb5
              rw [HPP.out]
              have o7 := (((Only.refl [w.heap.size + 1 + 1] wr).setCell (p := ⟨w.heap.size + 1 + 1, 0, none⟩) (.inl (by simp)) (.int .i64 0)).setCell (p := ⟨w.heap.size + 1 + 1, 1, none⟩) (.inl (by simp)) (.slice none 0 0))
              exact ⟨0, none, 0, [], rfl, plain_TK _ _ _ ⟨by omega, by omega⟩ _, HOk.out.trans o7 (fun b hb => .inr (by simp at hb; omega))⟩
            | some v =>
              obtain ⟨vs, vk, vA, vcap, vl⟩ := v
              have HPV := Lib.hid (show Blk wr zb 68 #[.string vs, .int .i64 vk, .slice vA vl.length vcap] from HPBl.out)
              clear HPBl
              cases bag
              · have HPP := Lib.hid (show pp = (noT, 10) by rw [HPI.out]; unfold ofPortK; rw [portK_fd, HC0.out]; rfl)
                obtain ⟨s0, s1, sl⟩ := H6l.out.facts2
                go_wp2_with (fail)
                have hb5 := ((HRBl.out.set_ 0 (.int .i64 0)).set_ 1 (.slice none 0 0))
                obtain ⟨e0, e1, -⟩ := Blk.facts2 (a := .int .i64 0) (b := .slice none 0 0) hb5
                refine bodyPost_ret (v := .tuple #[.agg #[.int .i64 0, .slice none 0 0], .int .i64 10]) (by simp [results, Tryd.results22, go_sem, e0, e1]) rfl ?_
                clear e0 e1 hb5
                rw [HPP.out]
                have o7 := (((Only.refl [w.heap.size + 1 + 1] wr).setCell (p := ⟨w.heap.size + 1 + 1, 0, none⟩) (.inl (by simp)) (.int .i64 0)).setCell (p := ⟨w.heap.size + 1 + 1, 1, none⟩) (.inl (by simp)) (.slice none 0 0))
                exact ⟨0, none, 0, [], rfl, plain_TK _ _ _ ⟨by omega, by omega⟩ _, HOk.out.trans o7 (fun b hb => .inr (by simp at hb; omega))⟩
              · obtain ⟨z0, z1, z2, zl⟩ := HPV.out.facts3
                by_cases hv : vk = 0
                · subst hv
                  have HPP := Lib.hid (show pp = (inT, 0) by rw [HPI.out]; unfold ofPortK; rw [portK_fd, HC0.out]; simp [Pr.t, Tx.tr_mk, Go.Val.Tt.k])
                  obtain ⟨s0, s1, sl⟩ := H7l.out.facts2
                  go_wp2_with (fail)
                  have hb5 := ((HRBl.out.set_ 0 (.int .i64 0)).set_ 1 (.slice none 0 0))
                  obtain ⟨e0, e1, -⟩ := Blk.facts2 (a := .int .i64 0) (b := .slice none 0 0) hb5
                  refine bodyPost_ret (v := .tuple #[.agg #[.int .i64 0, .slice none 0 0], .int .i64 0]) (by simp [results, Tryd.results22, go_sem, e0, e1]) rfl ?_
                  clear e0 e1 hb5
                  rw [HPP.out]
                  have o7 := (((Only.refl [w.heap.size + 1 + 1] wr).setCell (p := ⟨w.heap.size + 1 + 1, 0, none⟩) (.inl (by simp)) (.int .i64 0)).setCell (p := ⟨w.heap.size + 1 + 1, 1, none⟩) (.inl (by simp)) (.slice none 0 0))
                  exact ⟨0, none, 0, [], rfl, plain_TK _ _ _ ⟨by omega, by omega⟩ _, HOk.out.trans o7 (fun b hb => .inr (by simp at hb; omega))⟩
                · have dv : (vk == 0) = false := by simp [hv]
                  have HPP := Lib.hid (show pp = (noT, 12) by rw [HPI.out]; unfold ofPortK; rw [portK_fd, HC0.out]; simp [Pr.t, Tx.tr_mk, Go.Val.Tt.k, hv])
                  clear hv
                  obtain ⟨s0, s1, sl⟩ := H6l.out.facts2
                  go_wp2_with (fail)
                  have hb5 := ((HRBl.out.set_ 0 (.int .i64 0)).set_ 1 (.slice none 0 0))
                  obtain ⟨e0, e1, -⟩ := Blk.facts2 (a := .int .i64 0) (b := .slice none 0 0) hb5
                  refine bodyPost_ret (v := .tuple #[.agg #[.int .i64 0, .slice none 0 0], .int .i64 12]) (by simp [results, Tryd.results22, go_sem, e0, e1]) rfl ?_
                  clear e0 e1 hb5
                  rw [HPP.out]
                  have o7 := (((Only.refl [w.heap.size + 1 + 1] wr).setCell (p := ⟨w.heap.size + 1 + 1, 0, none⟩) (.inl (by simp)) (.int .i64 0)).setCell (p := ⟨w.heap.size + 1 + 1, 1, none⟩) (.inl (by simp)) (.slice none 0 0))
                  exact ⟨0, none, 0, [], rfl, plain_TK _ _ _ ⟨by omega, by omega⟩ _, HOk.out.trans o7 (fun b hb => .inr (by simp at hb; omega))⟩
      · have HPI := Lib.hid (show pp = ofPortK ⟨vars.map Vr.tr, ports.map Pr.tr, bag, of.map Vr.tr⟩ 10 nm (es.map Tx.tr) from HLEAF.out)
        have HLN := Lib.hid HOK.out.l2
        rw [HL2.out] at HLN
        have hln := HLN.out
        obtain ⟨wp, hwp⟩ : ∃ wp : World, wr.alloc (.cells #[.string ⟨#[]⟩, .int .i64 0, .slice none 0 0] 68) = wp := ⟨_, rfl⟩
        have HWP := Lib.hid hwp
        have HOP := Lib.hid (show Only [] wr wp by rw [← hwp]; exact (Only.refl [] wr).alloc _)
        have HPB := Lib.hid (show Blk wp wr.heap.size 68 #[.string ⟨#[]⟩, .int .i64 0, .slice none 0 0] by rw [← hwp]; exact Blk.new wr 68 _)
        clear hwp
        have HXp := Lib.hid (HOP.out.blk HX.out (by simp))
        have HN9p := Lib.hid (HOP.out.blk HN9.out (by simp))
        have HRBp := Lib.hid (HOP.out.blk HRB.out (by simp))
        have H6p := Lib.hid (HOP.out.blk H6.out (by simp))
        have H7p := Lib.hid (HOP.out.blk H7.out (by simp))
        have H8p := Lib.hid (HOP.out.blk H8.out (by simp))
        have HOW := Lib.hid (HOr.out.trans HOP.out (by simp))
        have hb6 := HB6.out
        have HAAp := Lib.hid (HAA.out.keep HOP.out)
        have HLT := Lib.hid (show (∀ e ∈ es, ∀ x ∈ e.bks, x < wr.heap.size) ∧ ∀ e, es[0]? = some e → ∀ p, A2' = some p → p.block < wr.heap.size from ⟨fun e he x hx => (HAA.out.row.sub e he).lt x hx, fun e he p hp => by obtain ⟨b, o, h1, h2, -⟩ := HAA.out.row.row 0 e he; rw [h1] at hp; injection hp with hp; subst hp; exact h2⟩)
        obtain ⟨x0, x1, x2, x3, x4, xl⟩ := HX.out.facts5
        obtain ⟨b0, b1, b2, b3, bl⟩ := HN9.out.facts4
        go_wp2_with (fail)
        rw [HWP.out]
        obtain ⟨zb, hzb⟩ : ∃ zb, wr.heap.size = zb := ⟨_, rfl⟩
        rw [hzb] at HPB hb6 HLT ⊢
        clear x0 x1 x2 x3 x4 xl b0 b1 b2 b3 bl HAA HLEAF HTSOK HQ
        go_loopw [17, 18] (fun t i wr => ∃ k : Nat, i = .int .i64 ((k : Int) - 1) ∧ k ≤ n2 ∧ t = .bool ((ports.drop k).find? (fun x => decide (Pr.s x = nm))).isSome ∧ Hid (Blk wr zb 68 (((ports.drop k).find? (fun x => decide (Pr.s x = nm))).getD default).cs.toArray) ∧ Hid (Only [zb] wp wr)) (fun _ i _ => (intOf i + 1).toNat)
        case atStart => exact ⟨n2, by go_num, Nat.le_refl _, by rw [List.drop_of_length_le (by rw [HL2.out]; exact Nat.le_refl _)]; rfl, Lib.hid (by rw [List.drop_of_length_le (by rw [HL2.out]; exact Nat.le_refl _)]; exact HPB.out), Lib.hid (Only.refl _ _)⟩
        case round =>
          obtain ⟨k, rfl, hk, rfl, HPBl, HOl⟩ := hrel
          obtain ⟨cur, hcur⟩ : ∃ cur, ((ports.drop k).find? (fun x => decide (Pr.s x = nm))) = cur := ⟨_, rfl⟩
          have HCUR := Lib.hid hcur
          rw [hcur] at HPBl ⊢
          clear hcur
          have HOk := Lib.hid (show Only [] w wr from HOW.out.trans HOl.out (fun x hx => .inr (by simp at hx; omega)))
          by_cases hlt : 0 < k
          · obtain ⟨k, rfl⟩ : ∃ j, k = j + 1 := ⟨k - 1, by omega⟩
            obtain ⟨e, he⟩ : ∃ e, ports[k]? = some e := ⟨_, List.getElem?_eq_getElem (by rw [HL2.out]; omega)⟩
            have HST := Lib.hid (show ((ports.drop k).find? (fun x => decide (Pr.s x = nm))) = if (fun x => decide (Pr.s x = nm)) e = true then some e else cur by
              have h1 := (List.getElem?_eq_some_iff.1 he)
              obtain ⟨h1, h2⟩ := h1
              rw [List.drop_eq_getElem_cons h1, h2, List.find?_cons, HCUR.out]
              by_cases hq : Pr.s e = nm <;> simp [hq])
            have hrow := (HNM.out.ports.row k _ he).keep HOk.out
            obtain ⟨pe, hpe⟩ : ∃ pe, (fun x => decide (Pr.s x = nm)) e = pe := ⟨_, rfl⟩
            rw [hpe] at HST
            rw [show (((k + 1 : Nat) : Int) - 1) = (k : Int) by omega]
            obtain ⟨xs, xk, xA, xcap, xl⟩ := e
            obtain ⟨bb, o, rfl, hbb, c0, c1, c2⟩ := hrow.cells
            have hpe' : decide (xs = nm) = pe := hpe
            have e1 := str_eq xs nm
            have e2 := str_eq2 xs nm
            rw [hpe'] at e1 e2
            clear hpe'
            have HC := Lib.hid (And.intro hbb (And.intro c0 (And.intro c1 c2)))
            have ik0 : (0 : Int) ≤ (k : Int) := by omega
            have ik1 : (k : Int) < (n2 : Int) := by omega
            have HXl := Lib.hid (HOl.out.blk HXp.out (by simp; omega))
            have HN9l := Lib.hid (HOl.out.blk HN9p.out (by simp; omega))
            obtain ⟨b0, b1, b2, b3, bl⟩ := HN9l.out.facts4
            clear he hpe hrow c0 c1 c2 hbb
            go_wp2_with (fail)
            clear b0 b1 b2 b3 bl
            refine (wpIn_wide (n := 9)).1 ?_
            refine wpIn_region_relR 9 (Only []) (fr := ?frp10) (tl := ?tlp10) (fun iq v wv => match iq with
              | 0 => v = .pointer (some ⟨w.heap.size + 1, 1, none⟩)
              | 1 => v = .slice (some ⟨bb, o, none⟩) n2 c2
              | 2 => v = .int .i64 (k : Int)
              | 3 => v = .pointer (some ⟨bb, o + k * 3, none⟩)
              | 4 => v = .pointer (some ⟨bb, o + k * 3, none⟩)
              | 5 => v = .string xs
              | 6 => v = .pointer (some ⟨w.heap.size, 2, none⟩)
              | 7 => v = .string nm
              | 8 => v = .bool pe
              | _ => True) (.inl rfl) (by kernel_rfl) (by kernel_rfl) (by kernel_rfl) (by kernel_rfl) (by kernel_rfl) (by kernel_rfl) (by decide) ?htlp10 ?hfrp10 (Only.refl _ _) (fun _ _ _ h k => h.trans k (fun _ hx => .inl hx)) ?stabp10 ?stepsp10 ?donep10
            case htlp10 => simp only [List.drop_succ_cons, List.drop_zero]; rfl
            case hfrp10 => intro vals; simp only [putAll, dstAt, Act.put, List.getElem?_toArray, List.getElem?_cons_zero, List.getElem?_cons_succ, Option.bind_some, List.setIfInBounds_toArray, List.set_cons_zero, List.set_cons_succ]; rfl
            case stabp10 =>
              intro i v wa wb h
              try dsimp only
              split <;> first | exact id
            case stepsp10 =>
              refine ⟨?_, ?_, ?_, ?_, ?_, ?_, ?_, ?_, ?_, trivial⟩
              · intro vals wr hR hp K hK
                dsimp only at hK ⊢
                clear hp
                unfold RunsOp
                go_simp
                exact hK.out _ _ ⟨_, rfl, Only.refl _ _, rfl⟩
              · intro vals wr hR hp K hK
                dsimp only at hK ⊢
                obtain ⟨p0, -⟩ := hp
                replace p0 := p0 rfl
                dsimp only at p0
                rw [p0] at hK ⊢
                clear p0
                unfold RunsOp
                obtain ⟨m0, m1, m2, m3, ml⟩ := (hR.blk (Blk.drew HN9l.out) (by simp)).facts4
                go_simp
                exact hK.out _ _ ⟨_, rfl, Only.refl _ _, rfl⟩
              · intro vals wr hR hp K hK
                dsimp only at hK ⊢
                clear hp
                unfold RunsOp
                go_simp
                exact hK.out _ _ ⟨_, rfl, Only.refl _ _, rfl⟩
              · intro vals wr hR hp K hK
                dsimp only at hK ⊢
                obtain ⟨p1, p2, -⟩ := hp
                replace p1 := p1 rfl
                replace p2 := p2 rfl
                dsimp only at p1 p2
                rw [p1, p2] at hK ⊢
                clear p1 p2
                unfold RunsOp
                go_simp
                exact hK.out _ _ ⟨_, rfl, Only.refl _ _, rfl⟩
              · intro vals wr hR hp K hK
                dsimp only at hK ⊢
                obtain ⟨p3, -⟩ := hp
                replace p3 := p3 rfl
                dsimp only at p3
                rw [p3] at hK ⊢
                clear p3
                unfold RunsOp
                go_simp
                exact hK.out _ _ ⟨_, rfl, Only.refl _ _, rfl⟩
              · intro vals wr hR hp K hK
                dsimp only at hK ⊢
                obtain ⟨p4, -⟩ := hp
                replace p4 := p4 rfl
                dsimp only at p4
                rw [p4] at hK ⊢
                clear p4
                unfold RunsOp
                have q0 := (hR.cell (p := ⟨bb, o + k * 3, none⟩) HC.out.1 (by simp)).trans HC.out.2.1
                go_simp
                exact hK.out _ _ ⟨_, rfl, Only.refl _ _, rfl⟩
              · intro vals wr hR hp K hK
                dsimp only at hK ⊢
                clear hp
                unfold RunsOp
                go_simp
                exact hK.out _ _ ⟨_, rfl, Only.refl _ _, rfl⟩
              · intro vals wr hR hp K hK
                dsimp only at hK ⊢
                obtain ⟨p6, -⟩ := hp
                replace p6 := p6 rfl
                dsimp only at p6
                rw [p6] at hK ⊢
                clear p6
                unfold RunsOp
                obtain ⟨x0, x1, x2, x3, x4, xl'⟩ := (hR.blk (Blk.drew HXl.out) (by simp)).facts5
                go_simp
                exact hK.out _ _ ⟨_, rfl, Only.refl _ _, rfl⟩
              · intro vals wr hR hp K hK
                dsimp only at hK ⊢
                obtain ⟨p5, p7, -⟩ := hp
                replace p5 := p5 rfl
                replace p7 := p7 rfl
                dsimp only at p5 p7
                rw [p5, p7] at hK ⊢
                clear p5 p7
                unfold RunsOp
                go_simp
                exact hK.out _ _ ⟨_, rfl, Only.refl _ _, rfl⟩
            case donep10 =>
              intro vals wd hR hF
              have f8 : vals 8 = .bool pe := hF 8 (by decide)
              rw [f8]
              clear f8
              have HRl := Lib.hid ((Only.refl [] _).drew.trans hR (by simp))
              have HWD := Lib.hid (HOl.out.trans HRl.out (by simp))
              have HPBd := Lib.hid (HRl.out.blk HPBl.out (by simp))
              clear hR hF
              cases pe
              · gi_wp2_with (fail)
                go_wp2_with (fail)
                go_roundw
                case rel => exact ⟨k, by go_num, by omega, by rw [HST.out]; rfl, Lib.hid (by rw [HST.out]; exact HPBd.out), HWD⟩
                case measure => simp [intOf] <;> omega
              · obtain ⟨b0, b1, b2, b3, bl⟩ := (HRl.out.blk HN9l.out (by simp)).facts4
                have c0 := (HRl.out.cell (p := ⟨bb, o + k * 3, none⟩) HC.out.1 (by simp)).trans HC.out.2.1
                have c1 := (HRl.out.cell (p := ⟨bb, o + k * 3 + 1, none⟩) HC.out.1 (by simp)).trans HC.out.2.2.1
                have c2' := (HRl.out.cell (p := ⟨bb, o + k * 3 + 2, none⟩) HC.out.1 (by simp)).trans HC.out.2.2.2
                obtain ⟨⟨us, uk, uA, ucap, ul⟩, hcv⟩ : ∃ cv, cur.getD default = cv := ⟨_, rfl⟩
                rw [hcv] at HPBd
                clear hcv
                have HPBe := Lib.hid (show Blk wd zb 68 #[.string us, .int .i64 uk, .slice uA ul.length ucap] from HPBd.out)
                obtain ⟨r0, r1, r2, rl⟩ := HPBe.out.facts3
                have g0 := HPBe.out.frozen 0
                have g1 := HPBe.out.frozen 1
                have g2 := HPBe.out.frozen 2
                gi_wp2_with (fail)
                go_wp2_with (fail)
                go_roundw
                case rel => exact ⟨k, by go_num, by omega, by rw [HST.out]; rfl, Lib.hid (by rw [HST.out]; exact ((HPBe.out.set_ 0 (.string xs)).set_ 1 (.int .i64 xk)).set_ 2 (.slice xA xl.length xcap)), Lib.hid (((HWD.out.setCell (p := ⟨zb, 0, none⟩) (.inl (by simp)) (.string xs)).setCell (p := ⟨zb, 1, none⟩) (.inl (by simp)) (.int .i64 xk)).setCell (p := ⟨zb, 2, none⟩) (.inl (by simp)) (.slice xA xl.length xcap))⟩
                case measure => simp [intOf] <;> omega
          · obtain rfl : k = 0 := by omega
            rw [show ((0 : Nat) : Int) - 1 = -1 by omega]
            have HC0 := Lib.hid (show ports.find? (fun x => decide (Pr.s x = nm)) = cur by have h := HCUR.out; rw [List.drop_zero] at h; exact h)
            clear HCUR hlt hk
            have HXl := Lib.hid (HOl.out.blk HXp.out (by simp; omega))
            have HN9l := Lib.hid (HOl.out.blk HN9p.out (by simp; omega))
            have HRBl := Lib.hid (HOl.out.blk HRBp.out (by simp; omega))
            have H6l := Lib.hid (HOl.out.blk H6p.out (by simp; omega))
            have H7l := Lib.hid (HOl.out.blk H7p.out (by simp; omega))
            have H8l := Lib.hid (HOl.out.blk H8p.out (by simp; omega))
            obtain ⟨x0, x1, x2, x3, x4, xl⟩ := HXl.out.facts5
            obtain ⟨b0, b1, b2, b3, bl⟩ := HN9l.out.facts4
            obtain ⟨r0, r1, rl⟩ := HRBl.out.facts2
            have g0 := HRBl.out.frozen 0
            have g1 := HRBl.out.frozen 1
            cases cur with
            | none =>
              have HPP := Lib.hid (show pp = (noT, 10) by rw [HPI.out]; unfold ofPortK; rw [portK_fd, HC0.out]; cases bag <;> rfl)
              obtain ⟨s0, s1, sl⟩ := H6l.out.facts2
              go_wp2_with (fail)
              have hb5 := ((HRBl.out.set_ 0 (.int .i64 0)).set_ 1 (.slice none 0 0))
              obtain ⟨e0, e1, -⟩ := Blk.facts2 (a := .int .i64 0) (b := .slice none 0 0) hb5
              refine bodyPost_ret (v := .tuple #[.agg #[.int .i64 0, .slice none 0 0], .int .i64 10]) (by simp [results, Tryd.results22, go_sem, e0, e1]) rfl ?_
              clear e0 e1 hb5
              rw [HPP.out]
              have o7 := (((Only.refl [w.heap.size + 1 + 1] wr).setCell (p := ⟨w.heap.size + 1 + 1, 0, none⟩) (.inl (by simp)) (.int .i64 0)).setCell (p := ⟨w.heap.size + 1 + 1, 1, none⟩) (.inl (by simp)) (.slice none 0 0))
              exact ⟨0, none, 0, [], rfl, plain_TK _ _ _ ⟨by omega, by omega⟩ _, HOk.out.trans o7 (fun b hb => .inr (by simp at hb; omega))⟩
            | some v =>
              obtain ⟨vs, vk, vA, vcap, vl⟩ := v
              have HPV := Lib.hid (show Blk wr zb 68 #[.string vs, .int .i64 vk, .slice vA vl.length vcap] from HPBl.out)
              clear HPBl
              cases bag
              · have HPP := Lib.hid (show pp = (noT, 10) by rw [HPI.out]; unfold ofPortK; rw [portK_fd, HC0.out]; rfl)
                obtain ⟨s0, s1, sl⟩ := H6l.out.facts2
                go_wp2_with (fail)
                have hb5 := ((HRBl.out.set_ 0 (.int .i64 0)).set_ 1 (.slice none 0 0))
                obtain ⟨e0, e1, -⟩ := Blk.facts2 (a := .int .i64 0) (b := .slice none 0 0) hb5
                refine bodyPost_ret (v := .tuple #[.agg #[.int .i64 0, .slice none 0 0], .int .i64 10]) (by simp [results, Tryd.results22, go_sem, e0, e1]) rfl ?_
                clear e0 e1 hb5
                rw [HPP.out]
                have o7 := (((Only.refl [w.heap.size + 1 + 1] wr).setCell (p := ⟨w.heap.size + 1 + 1, 0, none⟩) (.inl (by simp)) (.int .i64 0)).setCell (p := ⟨w.heap.size + 1 + 1, 1, none⟩) (.inl (by simp)) (.slice none 0 0))
                exact ⟨0, none, 0, [], rfl, plain_TK _ _ _ ⟨by omega, by omega⟩ _, HOk.out.trans o7 (fun b hb => .inr (by simp at hb; omega))⟩
              · obtain ⟨z0, z1, z2, zl⟩ := HPV.out.facts3
                have hmem := List.mem_of_find?_eq_some HC0.out
                have HTV := Lib.hid (fun W (o : Only [] w W) => (⟨rfl, (HNM.out.ports.sub _ hmem).1.keep o, fun b hb => .inl (HLOW.out.ports _ hmem b hb)⟩ : TK B0 (w.heap.size + 6) W (Tx.mk vk vA vcap vl).tr (.mk vk vA vcap vl)))
                clear hmem
                have h10 := HAR.out.h10 rfl
                obtain ⟨a, as', hes⟩ : ∃ a as', es = a :: as' := by cases hh : es with | nil => (have := HEL.out; rw [hh] at this; simp at this; omega) | cons a l => exact ⟨a, l, rfl⟩
                have HAr := Lib.hid (HAAp.out.row)
                have hra := HAr.out.row 0 a (by rw [hes]; rfl)
                have HLa := Lib.hid (HAr.out.sub a (by rw [hes]; simp))
                have hra2 := HAAp.out.at_
                have HHD := Lib.hid (show (es.map Tx.tr).headD noT = a.tr by rw [hes]; rfl)
                have HZ := Lib.hid (HLT.out.1 a (by rw [hes]; simp))
                have HNA := Lib.hid (HLT.out.2 a (by rw [hes]; rfl))
                clear hes
                obtain ⟨sm, hsm⟩ : ∃ sm, a.tr.same (Tx.mk vk vA vcap vl).tr = sm := ⟨_, rfl⟩
                have HSA := Lib.hid (fun W (o : Only [zb] wp W) (o' : Only [] w W) => refsameT a (.mk vk vA vcap vl) W (HLa.out.only o (fun x hx hm => by simp at hm; have := HZ.out x hx; omega)) (HTV.out W o').lies)
                rw [hsm] at HSA
                have HPS := Lib.hid (show pp = (if sm = true then ((Tx.mk vk vA vcap vl).tr, 0) else (noT, 12)) by rw [HPI.out]; unfold ofPortK; rw [portK_fd, HC0.out, HHD.out, ← hsm, Tt_comm a.tr]; rfl)
                clear hsm HHD
                obtain ⟨ak, aA, acap, al⟩ := a
                obtain ⟨b, oo, rfl, hbb, c0, c1'⟩ := hra.cells
                simp only [Nat.zero_mul, Nat.add_zero] at c0 c1'
                have HC := Lib.hid (And.intro hbb (And.intro c0 (And.intro c1' (show b ≠ zb from Nat.ne_of_lt (HNA.out _ rfl)))))
                have HSB := Lib.hid (show ∀ W, Only [] wr W → Calls Tryd.prog 12 #[.agg #[.int .i64 ak, .slice aA al.length acap], .agg #[.int .i64 vk, .slice vA vl.length vcap]] W fun r w' => r = .returned (.bool sm) ∧ Only [] W w' from fun W o => HSA.out W (HOl.out.trans o (by simp)) (HOk.out.trans o (by simp)))
                have hm1 : (0 : Int) < (ne : Int) := by omega
                have hm2 : 0 < ne := by omega
                clear hbb c0 c1' hra HSA h10
                go_wp2_with (fail)
                clear z0 z1 z2 zl x0 x1 x2 x3 x4 xl b0 b1 b2 b3 bl r0 r1 rl g0 g1
                refine (wpIn_wide (n := 9)).1 ?_
                refine wpIn_region_relR 6 (Only []) (fr := ?frp10b) (tl := ?tlp10b) (fun iq v wv => match iq with
                  | 0 => v = (.slice (some ⟨b, oo, none⟩) ne c2')
                  | 1 => v = .pointer (some ⟨b, oo, none⟩)
                  | 2 => v = .agg #[.int .i64 ak, .slice aA al.length acap]
                  | 3 => v = .pointer (some ⟨zb, 1, none⟩)
                  | 4 => v = .agg #[.int .i64 vk, .slice vA vl.length vcap]
                  | 5 => v = .bool sm
                  | _ => True) (.inl rfl) (by kernel_rfl) (by kernel_rfl) (by kernel_rfl) (by kernel_rfl) (by kernel_rfl) (by kernel_rfl) (by decide) ?htlp10b ?hfrp10b (Only.refl _ _) (fun _ _ _ h k => h.trans k (fun _ hx => .inl hx)) ?stabp10b ?stepsp10b ?donep10b
                case htlp10b => simp only [List.drop_succ_cons, List.drop_zero]; rfl
                case hfrp10b => intro vals; simp only [putAll, dstAt, Act.put, List.getElem?_toArray, List.getElem?_cons_zero, List.getElem?_cons_succ, Option.bind_some, List.setIfInBounds_toArray, List.set_cons_zero, List.set_cons_succ]; rfl
                case stabp10b =>
                  intro i v wa wb h
                  try dsimp only
                  split <;> first | exact id
                case stepsp10b =>
                  refine ⟨?_, ?_, ?_, ?_, ?_, ?_, trivial⟩
                  · intro vals wr hR hp K hK
                    dsimp only at hK ⊢
                    clear hp
                    unfold RunsOp
                    go_simp
                    exact hK.out _ _ ⟨_, rfl, Only.refl _ _, rfl⟩
                  · intro vals wr hR hp K hK
                    dsimp only at hK ⊢
                    obtain ⟨p0, -⟩ := hp
                    replace p0 := p0 rfl
                    dsimp only at p0
                    rw [p0] at hK ⊢
                    clear p0
                    unfold RunsOp
                    go_simp
                    exact hK.out _ _ ⟨_, rfl, Only.refl _ _, rfl⟩
                  · intro vals wr hR hp K hK
                    dsimp only at hK ⊢
                    obtain ⟨p1, -⟩ := hp
                    replace p1 := p1 rfl
                    dsimp only at p1
                    rw [p1] at hK ⊢
                    clear p1
                    unfold RunsOp
                    have c0 := ((HOl.out.trans ((Only.refl [] _).drew.trans hR (by simp)) (by simp)).cell (p := ⟨b, oo, none⟩) HC.out.1 (by simpa using HC.out.2.2.2)).trans HC.out.2.1
                    have c1 := ((HOl.out.trans ((Only.refl [] _).drew.trans hR (by simp)) (by simp)).cell (p := ⟨b, oo + 1, none⟩) HC.out.1 (by simpa using HC.out.2.2.2)).trans HC.out.2.2.1
                    go_simp
                    exact hK.out _ _ ⟨_, rfl, Only.refl _ _, rfl⟩
                  · intro vals wr hR hp K hK
                    dsimp only at hK ⊢
                    clear hp
                    unfold RunsOp
                    go_simp
                    exact hK.out _ _ ⟨_, rfl, Only.refl _ _, rfl⟩
                  · intro vals wr hR hp K hK
                    dsimp only at hK ⊢
                    obtain ⟨p3, -⟩ := hp
                    replace p3 := p3 rfl
                    dsimp only at p3
                    rw [p3] at hK ⊢
                    clear p3
                    unfold RunsOp
                    obtain ⟨z0, z1, z2, zl⟩ := (hR.blk (Blk.drew HPV.out) (by simp)).facts3
                    go_simp
                    exact hK.out _ _ ⟨_, rfl, Only.refl _ _, rfl⟩
                  · intro vals wr hR hp K hK
                    dsimp only at hK ⊢
                    obtain ⟨p2, p4, -⟩ := hp
                    replace p2 := p2 rfl
                    replace p4 := p4 rfl
                    dsimp only at p2 p4
                    rw [p2, p4] at hK ⊢
                    clear p2 p4
                    unfold RunsOp
                    go_simp
                    refine (HSB.out _ ((Only.refl [] _).drew.trans hR (by simp))).mono ?_
                    rintro e' w2 ⟨rfl, o2⟩
                    exact hK.out _ _ ⟨_, rfl, o2, rfl⟩
                case donep10b =>
                  intro vals wd hR hF
                  have f5 : (vals 5) = .bool sm := hF 5 (by decide)
                  rw [show vals 5 = .bool sm from f5]
                  clear f5
                  have HWE := Lib.hid ((Only.refl [] _).drew.trans hR (by simp))
                  have O4 := Lib.hid (HOk.out.trans HWE.out (by simp))
                  clear hR hF
                  have HRBe := Lib.hid (HWE.out.blk HRBl.out (by simp))
                  have H6e := Lib.hid (HWE.out.blk H6l.out (by simp))
                  have HPVe := Lib.hid (HWE.out.blk HPV.out (by simp))
                  obtain ⟨r0, r1, rl⟩ := HRBe.out.facts2
                  have g0 := HRBe.out.frozen 0
                  have g1 := HRBe.out.frozen 1
                  cases sm
                  · have HPP := Lib.hid (show pp = (noT, 12) from HPS.out)
                    obtain ⟨s0, s1, sl⟩ := H6e.out.facts2
                    gi_wp2_with (fail)
                    go_wp2_with (fail)
                    have hb5 := ((HRBe.out.set_ 0 (.int .i64 0)).set_ 1 (.slice none 0 0))
                    obtain ⟨e0, e1, -⟩ := Blk.facts2 (a := .int .i64 0) (b := .slice none 0 0) hb5
                    refine bodyPost_ret (v := .tuple #[.agg #[.int .i64 0, .slice none 0 0], .int .i64 12]) (by simp [results, Tryd.results22, go_sem, e0, e1]) rfl ?_
                    clear e0 e1 hb5
                    rw [HPP.out]
                    have o7 := (((Only.refl [w.heap.size + 1 + 1] wd).setCell (p := ⟨w.heap.size + 1 + 1, 0, none⟩) (.inl (by simp)) (.int .i64 0)).setCell (p := ⟨w.heap.size + 1 + 1, 1, none⟩) (.inl (by simp)) (.slice none 0 0))
                    exact ⟨0, none, 0, [], rfl, plain_TK _ _ _ ⟨by omega, by omega⟩ _, O4.out.trans o7 (fun b hb => .inr (by simp at hb; omega))⟩
                  · obtain ⟨z0, z1, z2, zl⟩ := HPVe.out.facts3
                    have HPP := Lib.hid (show pp = ((Tx.mk vk vA vcap vl).tr, 0) from HPS.out)
                    gi_wp2_with (fail)
                    go_wp2_with (fail)
                    have hb5 := ((HRBe.out.set_ 0 (.int .i64 vk)).set_ 1 (.slice vA vl.length vcap))
                    obtain ⟨e0, e1, -⟩ := Blk.facts2 (a := .int .i64 vk) (b := .slice vA vl.length vcap) hb5
                    refine bodyPost_ret (v := .tuple #[.agg #[.int .i64 vk, .slice vA vl.length vcap], .int .i64 0]) (by simp [results, Tryd.results22, go_sem, e0, e1]) rfl ?_
                    clear e0 e1 hb5
                    rw [HPP.out]
                    have o7 := (((Only.refl [w.heap.size + 1 + 1] wd).setCell (p := ⟨w.heap.size + 1 + 1, 0, none⟩) (.inl (by simp)) (.int .i64 vk)).setCell (p := ⟨w.heap.size + 1 + 1, 1, none⟩) (.inl (by simp)) (.slice vA vl.length vcap))
                    exact ⟨vk, vA, vcap, vl, rfl, ((HTV.out _ O4.out).only o7 (by have := HB0.out; simp; omega)).low (by omega), O4.out.trans o7 (fun b hb => .inr (by simp at hb; omega))⟩
end Go.Proofs.YtjhpckeoackblaaDoor
