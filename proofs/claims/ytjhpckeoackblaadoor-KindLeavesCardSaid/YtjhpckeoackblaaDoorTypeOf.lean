/- typeOf. -/
import Derived.Test.YtjhpckeoackblaaDoorSign
import Derived.Test.YtjhpckeoackblaaDoorOfPort
namespace Go.Proofs.YtjhpckeoackblaaDoor
open Go.RowKit Go.Kx
open Go.Val (Tt)
set_option maxRecDepth 100000
/-- how many parts, by the sign -/
structure Ar (op n : Int) (len : Nat) : Prop where
  op0 : 0 ≤ op ∧ op ≤ 25
  le4 : len ≤ 4
  h6 : op = 6 → 1 ≤ len
  h10 : op = 10 → 1 ≤ len
  h12 : op = 12 → 1 ≤ len ∧ 0 ≤ n ∧ n < 4
  h2 : op = 20 ∨ op = 21 ∨ op = 22 → len = 2
  h3 : op = 25 → len = 3
theorem ar_of {op n : Int} {nm sb : ByteArray} {len : Nat} (h : nodeB op n nm sb len = true) : Ar op n len := by
  unfold nodeB at h
  have key : ∀ {b1 b2 b3 : Bool} {l m : Nat}, fB n nm sb len b1 b2 b3 l m = true → l ≤ len ∧ len ≤ m := fun h => by
    unfold fB at h
    simp at h
    exact ⟨h.1.2, h.2⟩
  split at h
  · rw [Bool.and_eq_true] at h; have := key h.1; exact ⟨by omega, by omega, by omega, by omega, by omega, by omega, by omega⟩
  split at h
  · have := key h; exact ⟨by omega, by omega, by omega, by omega, by omega, by omega, by omega⟩
  split at h
  · rw [Bool.and_eq_true] at h; have := key h.1; exact ⟨by omega, by omega, by omega, by omega, by omega, by omega, by omega⟩
  split at h
  · rw [Bool.and_eq_true] at h; have := key h.1; exact ⟨by omega, by omega, by omega, by omega, by omega, by omega, by omega⟩
  split at h
  · rw [Bool.and_eq_true, Bool.and_eq_true] at h; have := key h.1.1; exact ⟨by omega, by omega, by omega, by omega, by omega, by omega, by omega⟩
  split at h
  · have := key h; exact ⟨by omega, by omega, by omega, by omega, by omega, by omega, by omega⟩
  split at h
  · rw [Bool.and_eq_true] at h; have := key h.1; exact ⟨by omega, by omega, by omega, by omega, by omega, by omega, by omega⟩
  split at h
  · rw [Bool.and_eq_true, Bool.and_eq_true] at h
    have := key h.1.1
    have h1 := h.1.2
    have h2 := h.2
    simp at h1 h2
    exact ⟨by omega, by omega, by omega, by omega, fun _ => ⟨by omega, h1, h2⟩, by omega, by omega⟩
  split at h
  · have := key h; exact ⟨by omega, by omega, by omega, by omega, by omega, by omega, by omega⟩
  split at h
  · have := key h; exact ⟨by omega, by omega, by omega, by omega, by omega, by omega, by omega⟩
  split at h
  · have := key h; exact ⟨by omega, by omega, by omega, by omega, by omega, by omega, by omega⟩
  · cases h
/-- all its types right -/
structure OkN (vars : List Vr) (ports : List Pr) (of : List Vr) : Prop where
  fv : ∀ v ∈ vars, v.t.tr.ok 3 = true
  fp : ∀ v ∈ ports, v.t.tr.ok 3 = true
  fo : ∀ v ∈ of, v.t.tr.ok 3 = true
  l1 : vars.length ≤ 1000000
  l2 : ports.length ≤ 1000000
  l3 : of.length ≤ 1000000
theorem OkN.nm {vars : List Vr} {ports : List Pr} {of : List Vr} (h : OkN vars ports of) (bag : Bool) : (Nm.mk (vars.map Vr.tr) (ports.map Pr.tr) bag (of.map Vr.tr)).ok :=
  ⟨fun v hv => by obtain ⟨x, hx, rfl⟩ := List.mem_map.1 hv; have := h.fv x hx; cases x; exact this,
   fun v hv => by obtain ⟨x, hx, rfl⟩ := List.mem_map.1 hv; have := h.fp x hx; cases x; exact this,
   fun v hv => by obtain ⟨x, hx, rfl⟩ := List.mem_map.1 hv; have := h.fo x hx; cases x; exact this⟩
theorem extr_mk (op n : Int) (nm sb : ByteArray) (A : Option Addr) (cap : Nat) (args : List Ex) : (Ex.mk op n nm sb A cap args).tr = .mk op n nm sb (args.map Ex.tr) := by rw [Ex.tr]
theorem kind_err {nm : Nm} {op n : Int} {s u : ByteArray} {A : Option Addr} {cap : Nat} {args : List Ex} {k : Nat} {a : Ex} {p : Tt × Int} (h : errK ((args.take k).map fun x => x.tr.kind nm) = none) (ha : args[k]? = some a) (hp : a.tr.kind nm = p) (h0 : p.2 ≠ 0) :
    (Ex.mk op n s u A cap args).tr.kind nm = (noT, p.2) := by
  rw [extr_mk, Tr.kind_mk, List.map_map]
  have hl := (List.getElem?_eq_some_iff.1 ha).1
  have e : args.map (Tr.kind nm ∘ Ex.tr) = ((args.take k).map fun x => x.tr.kind nm) ++ (p :: (args.drop (k + 1)).map fun x => x.tr.kind nm) := by
    conv => lhs; rw [← List.take_append_drop k args, List.drop_eq_getElem_cons hl]
    rw [List.map_append, List.map_cons]
    congr 2
    rw [← hp]
    show (args[k]).tr.kind nm = _
    rw [(List.getElem?_eq_some_iff.1 ha).2]
  rw [e, errK_app _ _ h, errK, if_neg h0]
theorem kind_leaf {nm : Nm} {op n : Int} {s u : ByteArray} {A : Option Addr} {cap : Nat} {args : List Ex} (h : errK (args.map fun x => x.tr.kind nm) = none) :
    (Ex.mk op n s u A cap args).tr.kind nm = leafK nm op n s u (args.map fun x => (x.tr.kind nm).1) := by
  rw [extr_mk, Tr.kind_mk, List.map_map]
  rw [show (Tr.kind nm ∘ Ex.tr) = fun x => x.tr.kind nm from rfl, h, List.map_map]
  rfl
theorem errK_snoc {l : List (Tt × Int)} {p : Tt × Int} (h : errK l = none) (hp : p.2 = 0) : errK (l ++ [p]) = none := by rw [errK_app _ _ h, errK, if_pos hp]; rfl
theorem row_inin {w : World} {g : Nat} (h : Blk w g 34 #[.int .i64 0, .slice none 0 0, .int .i64 0, .slice none 0 0]) : ∀ (i : Nat) (e : Tx), [Tx.mk 0 none 0 [], .mk 0 none 0 []][i]? = some e → RowAtT w (some ⟨g, 0, none⟩) i e := by
  intro i e hi
  match i, hi with
  | 0, hi =>
    simp at hi; subst hi
    exact ⟨g, 0, rfl, h.lt, fun j v hv => (h.cell _).trans (by match j, hv with | 0, hv => exact hv | 1, hv => exact hv)⟩
  | 1, hi =>
    simp at hi; subst hi
    exact ⟨g, 0, rfl, h.lt, fun j v hv => (h.cell _).trans (by match j, hv with | 0, hv => exact hv | 1, hv => exact hv)⟩
  | i + 2, hi => simp at hi
set_option maxHeartbeats 16000000 in
theorem typeof_any {B0 : Nat} {A1 : Option Addr} {c1 : Nat} {vars : List Vr} {A2 : Option Addr} {c2 : Nat} {ports : List Pr} {bag : Bool} {A3 : Option Addr} {c3 : Nat} {of : List Vr} (hok : OkN vars ports of) : ∀ (e : Ex) (w : World), B0 ≤ w.heap.size → Lies w e → e.tr.right = true → LiesN w A1 vars A2 ports A3 of →
    Calls Tryd.prog 18 #[e.val, .agg #[.slice A1 vars.length c1, .slice A2 ports.length c2, .bool bag, .slice A3 of.length c3]] w fun r w' => RK B0 w (e.tr.kind ⟨vars.map Vr.tr, ports.map Pr.tr, bag, of.map Vr.tr⟩) r w' := by
  refine Ex.ind (fun e ih => ?_)
  intro w hB hL hr hN
  obtain ⟨op, n, nm, sb, A, cap, args⟩ := e
  obtain ⟨-, -, hlen, hrow, hsub⟩ := hL.inv
  rw [right_mk, Bool.and_eq_true] at hr
  have har := ar_of hr.1
  have hra := List.all_eq_true.1 hr.2
  have HR := Lib.hid hrow
  have HS := Lib.hid hsub
  have HI := Lib.hid ih
  have HRA := Lib.hid hra
  have HNM := Lib.hid hN
  have HOK := Lib.hid hok
  have HB0 := Lib.hid hB
  obtain ⟨pp, hpp⟩ : ∃ pp, (Ex.mk op n nm sb A cap args).tr.kind ⟨vars.map Vr.tr, ports.map Pr.tr, bag, of.map Vr.tr⟩ = pp := ⟨_, rfl⟩
  have HERR := Lib.hid (fun k a p => fun h1 h2 h3 h4 => (kind_err (nm := ⟨vars.map Vr.tr, ports.map Pr.tr, bag, of.map Vr.tr⟩) (op := op) (n := n) (s := nm) (u := sb) (A := A) (cap := cap) (args := args) (k := k) (a := a) (p := p) h1 h2 h3 h4).symm.trans hpp)
  have HLF0 := Lib.hid (fun h => hpp.symm.trans (kind_leaf (nm := ⟨vars.map Vr.tr, ports.map Pr.tr, bag, of.map Vr.tr⟩) (op := op) (n := n) (s := nm) (u := sb) (A := A) (cap := cap) (args := args) h))
  rw [hpp]
  clear hpp
  obtain ⟨ne, hne⟩ : ∃ ne, args.length = ne := ⟨_, rfl⟩
  obtain ⟨n1, hn1⟩ : ∃ n1, vars.length = n1 := ⟨_, rfl⟩
  obtain ⟨n2, hn2⟩ : ∃ n2, ports.length = n2 := ⟨_, rfl⟩
  obtain ⟨n3, hn3⟩ : ∃ n3, of.length = n3 := ⟨_, rfl⟩
  rw [hne] at har
  have HNE := Lib.hid hne
  have HL1 := Lib.hid hn1
  have HL2 := Lib.hid hn2
  have HL3 := Lib.hid hn3
  have HAR := Lib.hid har
  have hle4 := har.le4
  show Calls Tryd.prog 18 #[.agg #[.int .i64 op, .int .i64 n, .string nm, .string sb, .slice A args.length cap], .agg #[.slice A1 vars.length c1, .slice A2 ports.length c2, .bool bag, .slice A3 of.length c3]] w _
  rw [hne, hn1, hn2, hn3]
  have h0 := Blk.new w 24 #[.int .i64 op, .int .i64 n, .string nm, .string sb, .slice A ne cap]
  have h1 := Blk.new (w.alloc (.cells #[.int .i64 op, .int .i64 n, .string nm, .string sb, .slice A ne cap] 24)) 40 #[.slice A1 n1 c1, .slice A2 n2 c2, .bool bag, .slice A3 n3 c3]
  have h2 := Blk.new ((w.alloc (.cells #[.int .i64 op, .int .i64 n, .string nm, .string sb, .slice A ne cap] 24)).alloc (.cells #[.slice A1 n1 c1, .slice A2 n2 c2, .bool bag, .slice A3 n3 c3] 40)) 34 #[.int .i64 0, .slice none 0 0]
  simp only [World.size_alloc] at h1 h2
  have HX0 := Lib.hid (show Blk (((w.alloc (.cells #[.int .i64 op, .int .i64 n, .string nm, .string sb, .slice A ne cap] 24)).alloc (.cells #[.slice A1 n1 c1, .slice A2 n2 c2, .bool bag, .slice A3 n3 c3] 40)).alloc (.cells #[.int .i64 0, .slice none 0 0] 34)) w.heap.size 24 #[.int .i64 op, .int .i64 n, .string nm, .string sb, .slice A ne cap] from Blk.alloc (Blk.alloc h0 _) _)
  have HN0 := Lib.hid (show Blk (((w.alloc (.cells #[.int .i64 op, .int .i64 n, .string nm, .string sb, .slice A ne cap] 24)).alloc (.cells #[.slice A1 n1 c1, .slice A2 n2 c2, .bool bag, .slice A3 n3 c3] 40)).alloc (.cells #[.int .i64 0, .slice none 0 0] 34)) (w.heap.size + 1) 40 #[.slice A1 n1 c1, .slice A2 n2 c2, .bool bag, .slice A3 n3 c3] from Blk.alloc h1 _)
  have HR0 := Lib.hid h2
  have HO0 := Lib.hid (show Only [] w (((w.alloc (.cells #[.int .i64 op, .int .i64 n, .string nm, .string sb, .slice A ne cap] 24)).alloc (.cells #[.slice A1 n1 c1, .slice A2 n2 c2, .bool bag, .slice A3 n3 c3] 40)).alloc (.cells #[.int .i64 0, .slice none 0 0] 34)) from (((Only.refl [] w).alloc _).alloc _).alloc _)
  clear hL hlen hrow hsub hr har hra ih hB hN hok h0 h1 h2 hne hn1 hn2 hn3
  obtain ⟨x0, x1, x2, x3, x4, xl⟩ := HX0.out.facts5
  go_enter Tryd.func18, Tryd.ntmps18
  go_wp2_with (fail)
  clear x0 x1 x2 x3 x4 xl
  go_loopw [6, 14] (fun v i wr => ∃ (k : Nat) (A2' : Option Addr) (c2' : Nat) (es : List Tx), i = .int .i64 k ∧ v = .slice A2' k c2' ∧ k ≤ ne ∧ Hid (es.length = k) ∧ Hid (errK ((args.take k).map fun x => x.tr.kind ⟨vars.map Vr.tr, ports.map Pr.tr, bag, of.map Vr.tr⟩) = none) ∧ Hid (es.map Tx.tr = (args.take k).map fun x => (x.tr.kind ⟨vars.map Vr.tr, ports.map Pr.tr, bag, of.map Vr.tr⟩).1) ∧ Hid (ArgsT (w.heap.size + 3) wr A2' c2' es) ∧ Hid (∀ e ∈ es, ∀ b ∈ e.bks, b < B0 ∨ w.heap.size + 3 ≤ b) ∧ Hid (Blk wr w.heap.size 24 #[.int .i64 op, .int .i64 n, .string nm, .string sb, .slice A ne cap]) ∧ Hid (Blk wr (w.heap.size + 1) 40 #[.slice A1 n1 c1, .slice A2 n2 c2, .bool bag, .slice A3 n3 c3]) ∧ Hid (Blk wr (w.heap.size + 1 + 1) 34 #[.int .i64 0, .slice none 0 0]) ∧ Hid (Only [] w wr)) (fun _ i _ => ne - (intOf i).toNat)
  case atStart => exact ⟨0, none, 0, [], rfl, rfl, Nat.zero_le _, Lib.hid rfl, Lib.hid rfl, Lib.hid rfl, Lib.hid (ArgsT.nil _ _), Lib.hid (fun e h => by simp at h), HX0, HN0, HR0, HO0⟩
  case round =>
    obtain ⟨k, A2', c2', es, rfl, rfl, hk, HEL, HER, HETR, HARG, HEO, HX, HN9, HRB, HOr⟩ := hrel
    by_cases hlt : k < ne
    · obtain ⟨e, he⟩ : ∃ e, args[k]? = some e := ⟨_, List.getElem?_eq_getElem (by rw [HNE.out]; exact hlt)⟩
      have hmem : e ∈ args := List.mem_of_getElem? he
      have HE := Lib.hid he
      have HLe := Lib.hid ((HS.out e hmem).keep HOr.out)
      have hre := HRA.out e hmem
      have hcall := HI.out e (by simpa [Ex.args] using hmem)
      have hrowk := (HR.out k _ he).only HOr.out (by simp)
      have HTK1 := Lib.hid (show (args.take (k + 1)).map (fun x => x.tr.kind ⟨vars.map Vr.tr, ports.map Pr.tr, bag, of.map Vr.tr⟩) = (args.take k).map (fun x => x.tr.kind ⟨vars.map Vr.tr, ports.map Pr.tr, bag, of.map Vr.tr⟩) ++ [e.tr.kind ⟨vars.map Vr.tr, ports.map Pr.tr, bag, of.map Vr.tr⟩] by rw [List.take_add_one, he, List.map_append]; rfl)
      have HTK2 := Lib.hid (show (args.take (k + 1)).map (fun x => (x.tr.kind ⟨vars.map Vr.tr, ports.map Pr.tr, bag, of.map Vr.tr⟩).1) = (args.take k).map (fun x => (x.tr.kind ⟨vars.map Vr.tr, ports.map Pr.tr, bag, of.map Vr.tr⟩).1) ++ [(e.tr.kind ⟨vars.map Vr.tr, ports.map Pr.tr, bag, of.map Vr.tr⟩).1] by rw [List.take_add_one, he, List.map_append]; rfl)
      have HERRk := Lib.hid (fun p h3 h4 => HERR.out k e p HER.out he h3 h4)
      have HCA0 := Lib.hid (fun W (o : Only [] wr W) => hcall W (Nat.le_trans HB0.out (HOr.out.trans o (by simp)).size) (HLe.out.keep o) hre (HNM.out.keep (HOr.out.trans o (by simp))))
      obtain ⟨pe, hpe⟩ : ∃ pe, e.tr.kind ⟨vars.map Vr.tr, ports.map Pr.tr, bag, of.map Vr.tr⟩ = pe := ⟨_, rfl⟩
      have HERRp := Lib.hid (HERRk.out pe hpe)
      rw [hpe] at HTK1 HTK2
      simp only [hpe] at HCA0
      rw [HL1.out, HL2.out, HL3.out] at HCA0
      clear hpe HERRk
      obtain ⟨xop, xn, xnm, xsb, xA, xcap, xargs⟩ := e
      obtain ⟨b, o, rfl, hbb, c0, c1', c2'', c3', c4⟩ := hrowk.cells
      have HCA := Lib.hid (show ∀ W, Only [] wr W → Calls Tryd.prog 18 #[.agg #[.int .i64 xop, .int .i64 xn, .string xnm, .string xsb, .slice xA xargs.length xcap], .agg #[.slice A1 n1 c1, .slice A2 n2 c2, .bool bag, .slice A3 n3 c3]] W fun r w' => RK B0 W pe r w' from HCA0.out)
      have HOA := Lib.hid (show Only [] wr (wr.alloc (.cells #[.int .i64 xop, .int .i64 xn, .string xnm, .string xsb, .slice xA xargs.length xcap] 24)) from (Only.refl _ _).alloc _)
      obtain ⟨b0, b1, b2, b3, bl⟩ := HN9.out.facts4
      have ik0 : (0 : Int) ≤ (k : Int) := by omega
      have ik1 : (k : Int) < (ne : Int) := by omega
      clear he hmem hre hcall hrowk HCA0
      go_wp2_with (fail)
      refine (HCA.out _ HOA.out).mono ?_
      rintro r w3 ⟨yk, yA, ycap, yl, rfl, hc, o3⟩
      have HO13 := Lib.hid (HOA.out.trans o3 (by simp))
      have HTK := Lib.hid (hc.low (B' := wr.heap.size) HOA.out.size)
      clear hc o3 c0 c1' c2'' c3' c4 b0 b1 b2 b3 bl hbb
      by_cases h0 : pe.2 = 0
      · have d0 : (pe.2 != 0) = false := by rw [h0]; rfl
        have H0 := Lib.hid h0
        clear h0
        obtain ⟨wz, hwz⟩ : ∃ wz : World, (w3.alloc (.cells #[.int .i64 yk, .slice yA yl.length ycap] 34)).alloc (.cells #[.int .i64 yk, .slice yA yl.length ycap] 34) = wz := ⟨_, rfl⟩
        have HWZ := Lib.hid hwz
        have HZ := Lib.hid (show Blk wz (w3.heap.size + 1) 34 #[.int .i64 yk, .slice yA yl.length ycap] by
          rw [← hwz]
          have h := Blk.new (w3.alloc (.cells #[.int .i64 yk, .slice yA yl.length ycap] 34)) 34 #[.int .i64 yk, .slice yA yl.length ycap]
          simp only [World.size_alloc] at h
          exact h)
        have HO3Z := Lib.hid (show Only [] w3 wz by rw [← hwz]; exact ((Only.refl _ _).alloc _).alloc _)
        have HRZ := Lib.hid (HO13.out.trans HO3Z.out (by simp))
        obtain ⟨A5, c5, w5, hrun, ho5, oo5, hA5⟩ := run_appT (w := wz) (M := [.mk yk yA ycap yl]) (by have h := (HARG.out.keep HRZ.out).own; rw [HEL.out] at h; exact h) (z := w3.heap.size + 1) (cz := 1) (fun j u hj => by rw [HZ.out.cell]; simpa [flat2, Tx.cs] using hj) (by simp; omega) (by have := HRB.out.lt; have := HRZ.out.size; omega)
        have hne := HARG.out.blk
        have HX5 := Lib.hid (oo5.blk (HRZ.out.blk HX.out (by simp)) (fun h => by have := (hne _ h).1; omega))
        have HN5 := Lib.hid (oo5.blk (HRZ.out.blk HN9.out (by simp)) (fun h => by have := (hne _ h).1; omega))
        have HR5 := Lib.hid (oo5.blk (HRZ.out.blk HRB.out (by simp)) (fun h => by have := (hne _ h).1; omega))
        have HSTEP := Lib.hid (HARG.out.step (B0 := B0) (y := .mk yk yA ycap yl) (by have := HB0.out; omega) (by have := HRB.out.lt; omega) HRZ.out (HTK.out.lies.keep HO3Z.out) HTK.out.off oo5 (by rw [HEL.out]; exact ho5) hA5 (Only.refl [] w5) (by simp))
        have HNEW := Lib.hid (show (∀ e ∈ es ++ [Tx.mk yk yA ycap yl], ∀ b ∈ e.bks, b < B0 ∨ w.heap.size + 3 ≤ b) from fun e he b hb => by
          rcases List.mem_append.1 he with he | he
          · exact HEO.out e he b hb
          · simp at he; subst he; exact (HTK.out.off b hb).imp id (fun h => by have := HRB.out.lt; omega))
        have HO5 := Lib.hid ((HOr.out.trans HRZ.out (by simp)).trans oo5 (fun x hx => .inr (by have := (hne x hx).1; omega)))
        clear ho5 oo5 hA5 hne hwz
        go_wp2_with (at_builtin; rw [HWZ.out]; refine wpList_append_run hrun rfl _ _ rfl rfl rfl rfl ?_)
        go_roundw
        case rel => exact ⟨k + 1, A5, c5, _, by go_num, rfl, by omega, Lib.hid (by rw [List.length_append, HEL.out]; rfl), Lib.hid (by rw [HTK1.out]; exact errK_snoc HER.out H0.out), Lib.hid (by rw [HTK2.out, List.map_append, HETR.out, ← HTK.out.tr]; rfl), HSTEP, HNEW, HX5, HN5, HR5, HO5⟩
        case measure => simp [intOf]; omega
      · have d0 : (pe.2 != 0) = true := by simp [h0]
        have hpp := HERRp.out h0
        have HPP := Lib.hid hpp
        clear h0 hpp
        have O4 := Lib.hid ((HOr.out.trans HO13.out (by simp)).alloc (.cells #[.int .i64 yk, .slice yA yl.length ycap] 34))
        have R3 := Lib.hid (HO13.out.blk HRB.out (by simp))
        obtain ⟨r0, r1, rl⟩ := R3.out.facts2
        have g0 := R3.out.frozen 0
        have g1 := R3.out.frozen 1
        go_wp2_with (fail)
        have hb4 := Blk.alloc ((R3.out.set_ 0 (.int .i64 0)).set_ 1 (.slice none 0 0)) (.cells #[.int .i64 yk, .slice yA yl.length ycap] 34)
        obtain ⟨q0, q1, -⟩ := Blk.facts2 (a := .int .i64 0) (b := .slice none 0 0) hb4
        refine bodyPost_ret (v := .tuple #[.agg #[.int .i64 0, .slice none 0 0], .int .i64 pe.2]) (by simp [results, Tryd.results18, go_sem, q0, q1]) rfl ?_
        have o7 : Only [w.heap.size + 1 + 1] w3 _ := (((Only.refl [w.heap.size + 1 + 1] w3).setCell (p := ⟨w.heap.size + 1 + 1, 0, none⟩) (.inl (by simp)) (.int .i64 0)).setCell (p := ⟨w.heap.size + 1 + 1, 1, none⟩) (.inl (by simp)) (.slice none 0 0)).alloc (.cells #[.int .i64 yk, .slice yA yl.length ycap] 34)
        rw [← HPP.out]
        exact ⟨0, none, 0, [], rfl, none_TK _ _ _, (HOr.out.trans HO13.out (by simp)).trans o7 (fun b hb => .inr (by simp at hb; omega))⟩
    · have hke : k = ne := by omega
      have iz : ¬ (ne : Int) < (ne : Int) := by omega
      have HLEAF := Lib.hid (show pp = leafK ⟨vars.map Vr.tr, ports.map Pr.tr, bag, of.map Vr.tr⟩ op n nm sb (es.map Tx.tr) by
        have h1 := HER.out
        have h2 := HETR.out
        rw [hke, List.take_of_length_le (by rw [HNE.out]; exact Nat.le_refl _)] at h1 h2
        rw [h2]
        exact HLF0.out h1)
      have HAA := Lib.hid (show AR B0 (w.heap.size + 3) wr A2' es from ⟨HARG.out.row (by rw [HEL.out]; omega), fun p hp => (HARG.out.blk p.block (by rw [hp]; simp)).1, HEO.out⟩)
      replace HEL := Lib.hid (HEL.out.trans hke)
      clear HARG HEO HER HETR HERR HLF0 HI HRA HS HR
      rw [hke]
      clear hke hlt hk
      have hop := HAR.out.op0
      have hops : op = 0 ∨ op = 1 ∨ op = 2 ∨ op = 3 ∨ op = 4 ∨ op = 5 ∨ op = 6 ∨ op = 7 ∨ op = 8 ∨ op = 9 ∨ op = 10 ∨ op = 11 ∨ op = 12 ∨ op = 13 ∨ op = 14 ∨ op = 15 ∨ op = 16 ∨ op = 17 ∨ op = 18 ∨ op = 19 ∨ op = 20 ∨ op = 21 ∨ op = 22 ∨ op = 23 ∨ op = 24 ∨ op = 25 := by omega
      clear hop
      rcases hops with rfl | rfl | rfl | rfl | rfl | rfl | rfl | rfl | rfl | rfl | rfl | rfl | rfl | rfl | rfl | rfl | rfl | rfl | rfl | rfl | rfl | rfl | rfl | rfl | rfl | rfl
      · have HLF := Lib.hid (HLEAF.out)
        obtain ⟨x0, x1, x2, x3, x4, xl⟩ := HX.out.facts5
        obtain ⟨b0, b1, b2, b3, bl⟩ := HN9.out.facts4
        go_wp2_with (fail)
        refine (plain_any 0 _).mono ?_
        rintro r w4 ⟨rfl, o4⟩
        have O4 := Lib.hid (HOr.out.trans o4 (by simp))
        have R4 := Lib.hid (o4.blk HRB.out (by simp))
        clear o4
        clear x0 x1 x2 x3 x4 xl b0 b1 b2 b3 bl
        obtain ⟨r0, r1, rl⟩ := R4.out.facts2
        have g0 := R4.out.frozen 0
        have g1 := R4.out.frozen 1
        go_wp2_with (fail)
        have hb5 := (R4.out.set_ 0 (.int .i64 0)).set_ 1 (.slice none 0 0)
        obtain ⟨e0, e1, -⟩ := Blk.facts2 (a := .int .i64 0) (b := .slice none 0 0) hb5
        refine bodyPost_ret (v := .tuple #[.agg #[.int .i64 0, .slice none 0 0], .int .i64 0]) (by simp [results, Tryd.results18, go_sem, e0, e1]) rfl ?_
        clear e0 e1 hb5
        have o7 : Only [w.heap.size + 1 + 1] w4 _ := ((Only.refl _ w4).setCell (p := ⟨w.heap.size + 1 + 1, 0, none⟩) (.inl (by simp)) (.int .i64 0)).setCell (p := ⟨w.heap.size + 1 + 1, 1, none⟩) (.inl (by simp)) (.slice none 0 0)
        rw [show leafK ⟨vars.map Vr.tr, ports.map Pr.tr, bag, of.map Vr.tr⟩ 0 n nm sb (es.map Tx.tr) = (.mk 0 [], 0) from by simp [leafK, inT]] at HLF
        rw [HLF.out]
        exact ⟨0, none, 0, [], rfl, plain_TK _ _ 0 ⟨by omega, by omega⟩ _, O4.out.trans o7 (fun b hb => .inr (by simp at hb; omega))⟩
      · have HLF := Lib.hid (HLEAF.out)
        obtain ⟨x0, x1, x2, x3, x4, xl⟩ := HX.out.facts5
        obtain ⟨b0, b1, b2, b3, bl⟩ := HN9.out.facts4
        go_wp2_with (fail)
        refine (plain_any 1 _).mono ?_
        rintro r w4 ⟨rfl, o4⟩
        have O4 := Lib.hid (HOr.out.trans o4 (by simp))
        have R4 := Lib.hid (o4.blk HRB.out (by simp))
        clear o4
        clear x0 x1 x2 x3 x4 xl b0 b1 b2 b3 bl
        obtain ⟨r0, r1, rl⟩ := R4.out.facts2
        have g0 := R4.out.frozen 0
        have g1 := R4.out.frozen 1
        go_wp2_with (fail)
        have hb5 := (R4.out.set_ 0 (.int .i64 1)).set_ 1 (.slice none 0 0)
        obtain ⟨e0, e1, -⟩ := Blk.facts2 (a := .int .i64 1) (b := .slice none 0 0) hb5
        refine bodyPost_ret (v := .tuple #[.agg #[.int .i64 1, .slice none 0 0], .int .i64 0]) (by simp [results, Tryd.results18, go_sem, e0, e1]) rfl ?_
        clear e0 e1 hb5
        have o7 : Only [w.heap.size + 1 + 1] w4 _ := ((Only.refl _ w4).setCell (p := ⟨w.heap.size + 1 + 1, 0, none⟩) (.inl (by simp)) (.int .i64 1)).setCell (p := ⟨w.heap.size + 1 + 1, 1, none⟩) (.inl (by simp)) (.slice none 0 0)
        rw [show leafK ⟨vars.map Vr.tr, ports.map Pr.tr, bag, of.map Vr.tr⟩ 1 n nm sb (es.map Tx.tr) = (.mk 1 [], 0) from by simp [leafK, boT]] at HLF
        rw [HLF.out]
        exact ⟨1, none, 0, [], rfl, plain_TK _ _ 1 ⟨by omega, by omega⟩ _, O4.out.trans o7 (fun b hb => .inr (by simp at hb; omega))⟩
      · have HLF := Lib.hid (HLEAF.out)
        obtain ⟨x0, x1, x2, x3, x4, xl⟩ := HX.out.facts5
        obtain ⟨b0, b1, b2, b3, bl⟩ := HN9.out.facts4
        go_wp2_with (fail)
        refine (plain_any 1 _).mono ?_
        rintro r w4 ⟨rfl, o4⟩
        have O4 := Lib.hid (HOr.out.trans o4 (by simp))
        have R4 := Lib.hid (o4.blk HRB.out (by simp))
        clear o4
        clear x0 x1 x2 x3 x4 xl b0 b1 b2 b3 bl
        obtain ⟨r0, r1, rl⟩ := R4.out.facts2
        have g0 := R4.out.frozen 0
        have g1 := R4.out.frozen 1
        go_wp2_with (fail)
        have hb5 := (R4.out.set_ 0 (.int .i64 1)).set_ 1 (.slice none 0 0)
        obtain ⟨e0, e1, -⟩ := Blk.facts2 (a := .int .i64 1) (b := .slice none 0 0) hb5
        refine bodyPost_ret (v := .tuple #[.agg #[.int .i64 1, .slice none 0 0], .int .i64 0]) (by simp [results, Tryd.results18, go_sem, e0, e1]) rfl ?_
        clear e0 e1 hb5
        have o7 : Only [w.heap.size + 1 + 1] w4 _ := ((Only.refl _ w4).setCell (p := ⟨w.heap.size + 1 + 1, 0, none⟩) (.inl (by simp)) (.int .i64 1)).setCell (p := ⟨w.heap.size + 1 + 1, 1, none⟩) (.inl (by simp)) (.slice none 0 0)
        rw [show leafK ⟨vars.map Vr.tr, ports.map Pr.tr, bag, of.map Vr.tr⟩ 2 n nm sb (es.map Tx.tr) = (.mk 1 [], 0) from by simp [leafK, boT]] at HLF
        rw [HLF.out]
        exact ⟨1, none, 0, [], rfl, plain_TK _ _ 1 ⟨by omega, by omega⟩ _, O4.out.trans o7 (fun b hb => .inr (by simp at hb; omega))⟩
      · have HLF := Lib.hid (HLEAF.out)
        obtain ⟨x0, x1, x2, x3, x4, xl⟩ := HX.out.facts5
        obtain ⟨b0, b1, b2, b3, bl⟩ := HN9.out.facts4
        go_wp2_with (fail)
        refine (plain_any 2 _).mono ?_
        rintro r w4 ⟨rfl, o4⟩
        have O4 := Lib.hid (HOr.out.trans o4 (by simp))
        have R4 := Lib.hid (o4.blk HRB.out (by simp))
        clear o4
        clear x0 x1 x2 x3 x4 xl b0 b1 b2 b3 bl
        obtain ⟨r0, r1, rl⟩ := R4.out.facts2
        have g0 := R4.out.frozen 0
        have g1 := R4.out.frozen 1
        go_wp2_with (fail)
        have hb5 := (R4.out.set_ 0 (.int .i64 2)).set_ 1 (.slice none 0 0)
        obtain ⟨e0, e1, -⟩ := Blk.facts2 (a := .int .i64 2) (b := .slice none 0 0) hb5
        refine bodyPost_ret (v := .tuple #[.agg #[.int .i64 2, .slice none 0 0], .int .i64 0]) (by simp [results, Tryd.results18, go_sem, e0, e1]) rfl ?_
        clear e0 e1 hb5
        have o7 : Only [w.heap.size + 1 + 1] w4 _ := ((Only.refl _ w4).setCell (p := ⟨w.heap.size + 1 + 1, 0, none⟩) (.inl (by simp)) (.int .i64 2)).setCell (p := ⟨w.heap.size + 1 + 1, 1, none⟩) (.inl (by simp)) (.slice none 0 0)
        rw [show leafK ⟨vars.map Vr.tr, ports.map Pr.tr, bag, of.map Vr.tr⟩ 3 n nm sb (es.map Tx.tr) = (.mk 2 [], 0) from by simp [leafK, syT]] at HLF
        rw [HLF.out]
        exact ⟨2, none, 0, [], rfl, plain_TK _ _ 2 ⟨by omega, by omega⟩ _, O4.out.trans o7 (fun b hb => .inr (by simp at hb; omega))⟩
      · have HLF := Lib.hid (HLEAF.out)
        obtain ⟨x0, x1, x2, x3, x4, xl⟩ := HX.out.facts5
        obtain ⟨b0, b1, b2, b3, bl⟩ := HN9.out.facts4
        have CV := Lib.hid ((variable_any (B0 := B0) (c1 := c1) (c2 := c2) (bag := bag) (c3 := c3) (name := nm) (w := wr) (Nat.le_trans HB0.out HOr.out.size) (HNM.out.keep HOr.out) HOK.out.fv HOK.out.l1).mono fun r w' ⟨yk, yA, ycap, yl, h1, h2, h3⟩ => (⟨yk, yA, ycap, yl, h1, h2.low (by have := HRB.out.lt; omega), h3⟩ : RG B0 (w.heap.size + 3) wr _ r w'))
        rw [HL1.out, HL2.out, HL3.out] at CV
        go_wp2_with (fail)
        refine (CV.out).mono ?_
        rintro r w4 ⟨yk, yA, ycap, yl, rfl, hc, o4⟩
        have O4 := Lib.hid (HOr.out.trans o4 (by simp))
        have R4 := Lib.hid (o4.blk HRB.out (by simp))
        have HC4 := Lib.hid hc
        clear o4 hc
        clear x0 x1 x2 x3 x4 xl b0 b1 b2 b3 bl
        generalize hpe : varK ⟨vars.map Vr.tr, ports.map Pr.tr, bag, of.map Vr.tr⟩ nm = pe at HC4
        have HPE := Lib.hid hpe
        clear hpe
        obtain ⟨r0, r1, rl⟩ := R4.out.facts2
        have g0 := R4.out.frozen 0
        have g1 := R4.out.frozen 1
        go_wp2_with (fail)
        have hb5 := (R4.out.set_ 0 (.int .i64 yk)).set_ 1 (.slice yA yl.length ycap)
        obtain ⟨e0, e1, -⟩ := Blk.facts2 (a := .int .i64 yk) (b := .slice yA yl.length ycap) hb5
        refine bodyPost_ret (v := .tuple #[.agg #[.int .i64 yk, .slice yA yl.length ycap], .int .i64 pe.2]) (by simp [results, Tryd.results18, go_sem, e0, e1]) rfl ?_
        clear e0 e1 hb5
        have o7 : Only [w.heap.size + 1 + 1] w4 _ := ((Only.refl _ w4).setCell (p := ⟨w.heap.size + 1 + 1, 0, none⟩) (.inl (by simp)) (.int .i64 yk)).setCell (p := ⟨w.heap.size + 1 + 1, 1, none⟩) (.inl (by simp)) (.slice yA yl.length ycap)
        rw [show leafK ⟨vars.map Vr.tr, ports.map Pr.tr, bag, of.map Vr.tr⟩ 4 n nm sb (es.map Tx.tr) = pe from by rw [← HPE.out]; simp [leafK]] at HLF
        rw [HLF.out]
        exact ⟨yk, yA, ycap, yl, rfl, (HC4.out.only o7 (by have := HB0.out; simp; omega)).low (by omega), O4.out.trans o7 (fun b hb => .inr (by simp at hb; omega))⟩
      · have HLF := Lib.hid (HLEAF.out)
        obtain ⟨x0, x1, x2, x3, x4, xl⟩ := HX.out.facts5
        obtain ⟨b0, b1, b2, b3, bl⟩ := HN9.out.facts4
        have CV := Lib.hid ((other_any (B0 := B0) (c1 := c1) (c2 := c2) (bag := bag) (c3 := c3) (part := nm) (name := sb) (w := wr) (Nat.le_trans HB0.out HOr.out.size) (HNM.out.keep HOr.out) HOK.out.fo HOK.out.l3).mono fun r w' ⟨yk, yA, ycap, yl, h1, h2, h3⟩ => (⟨yk, yA, ycap, yl, h1, h2.low (by have := HRB.out.lt; omega), h3⟩ : RG B0 (w.heap.size + 3) wr _ r w'))
        rw [HL1.out, HL2.out, HL3.out] at CV
        go_wp2_with (fail)
        refine (CV.out).mono ?_
        rintro r w4 ⟨yk, yA, ycap, yl, rfl, hc, o4⟩
        have O4 := Lib.hid (HOr.out.trans o4 (by simp))
        have R4 := Lib.hid (o4.blk HRB.out (by simp))
        have HC4 := Lib.hid hc
        clear o4 hc
        clear x0 x1 x2 x3 x4 xl b0 b1 b2 b3 bl
        generalize hpe : ofK ⟨vars.map Vr.tr, ports.map Pr.tr, bag, of.map Vr.tr⟩ nm sb = pe at HC4
        have HPE := Lib.hid hpe
        clear hpe
        obtain ⟨r0, r1, rl⟩ := R4.out.facts2
        have g0 := R4.out.frozen 0
        have g1 := R4.out.frozen 1
        go_wp2_with (fail)
        have hb5 := (R4.out.set_ 0 (.int .i64 yk)).set_ 1 (.slice yA yl.length ycap)
        obtain ⟨e0, e1, -⟩ := Blk.facts2 (a := .int .i64 yk) (b := .slice yA yl.length ycap) hb5
        refine bodyPost_ret (v := .tuple #[.agg #[.int .i64 yk, .slice yA yl.length ycap], .int .i64 pe.2]) (by simp [results, Tryd.results18, go_sem, e0, e1]) rfl ?_
        clear e0 e1 hb5
        have o7 : Only [w.heap.size + 1 + 1] w4 _ := ((Only.refl _ w4).setCell (p := ⟨w.heap.size + 1 + 1, 0, none⟩) (.inl (by simp)) (.int .i64 yk)).setCell (p := ⟨w.heap.size + 1 + 1, 1, none⟩) (.inl (by simp)) (.slice yA yl.length ycap)
        rw [show leafK ⟨vars.map Vr.tr, ports.map Pr.tr, bag, of.map Vr.tr⟩ 5 n nm sb (es.map Tx.tr) = pe from by rw [← HPE.out]; simp [leafK]] at HLF
        rw [HLF.out]
        exact ⟨yk, yA, ycap, yl, rfl, (HC4.out.only o7 (by have := HB0.out; simp; omega)).low (by omega), O4.out.trans o7 (fun b hb => .inr (by simp at hb; omega))⟩
      · have HLF := Lib.hid (HLEAF.out)
        obtain ⟨x0, x1, x2, x3, x4, xl⟩ := HX.out.facts5
        obtain ⟨b0, b1, b2, b3, bl⟩ := HN9.out.facts4
        have CV := Lib.hid (tuple_any (B0 := B0) (cap := c2') (w := wr) HAA.out (Nat.le_trans HB0.out HOr.out.size) (by have := HRB.out.lt; omega))
        rw [HEL.out] at CV
        go_wp2_with (fail)
        refine (CV.out).mono ?_
        rintro r w4 ⟨yk, yA, ycap, yl, rfl, hc, o4⟩
        have O4 := Lib.hid (HOr.out.trans o4 (by simp))
        have R4 := Lib.hid (o4.blk HRB.out (by simp))
        have HC4 := Lib.hid hc
        clear o4 hc
        clear x0 x1 x2 x3 x4 xl b0 b1 b2 b3 bl
        generalize hpe : tupleK (es.map Tx.tr) = pe at HC4
        have HPE := Lib.hid hpe
        clear hpe
        obtain ⟨r0, r1, rl⟩ := R4.out.facts2
        have g0 := R4.out.frozen 0
        have g1 := R4.out.frozen 1
        go_wp2_with (fail)
        have hb5 := (R4.out.set_ 0 (.int .i64 yk)).set_ 1 (.slice yA yl.length ycap)
        obtain ⟨e0, e1, -⟩ := Blk.facts2 (a := .int .i64 yk) (b := .slice yA yl.length ycap) hb5
        refine bodyPost_ret (v := .tuple #[.agg #[.int .i64 yk, .slice yA yl.length ycap], .int .i64 pe.2]) (by simp [results, Tryd.results18, go_sem, e0, e1]) rfl ?_
        clear e0 e1 hb5
        have o7 : Only [w.heap.size + 1 + 1] w4 _ := ((Only.refl _ w4).setCell (p := ⟨w.heap.size + 1 + 1, 0, none⟩) (.inl (by simp)) (.int .i64 yk)).setCell (p := ⟨w.heap.size + 1 + 1, 1, none⟩) (.inl (by simp)) (.slice yA yl.length ycap)
        rw [show leafK ⟨vars.map Vr.tr, ports.map Pr.tr, bag, of.map Vr.tr⟩ 6 n nm sb (es.map Tx.tr) = pe from by rw [← HPE.out]; simp [leafK]] at HLF
        rw [HLF.out]
        exact ⟨yk, yA, ycap, yl, rfl, (HC4.out.only o7 (by have := HB0.out; simp; omega)).low (by omega), O4.out.trans o7 (fun b hb => .inr (by simp at hb; omega))⟩
      · have HLF := Lib.hid (HLEAF.out)
        obtain ⟨x0, x1, x2, x3, x4, xl⟩ := HX.out.facts5
        obtain ⟨b0, b1, b2, b3, bl⟩ := HN9.out.facts4
        have CV := Lib.hid (ofport7 (B0 := B0) (n := n) (nm := nm) (sb := sb) (A := A) (cap := cap) (args := args) (ac := c2') (c1 := c1) (c2 := c2) (bag := bag) (c3 := c3) (w := wr) HAA.out (Nat.le_trans HB0.out HOr.out.size) (by have := HRB.out.lt; omega) (HNM.out.keep HOr.out) HOK.out.fp HOK.out.l2)
        rw [HL1.out, HL2.out, HL3.out, HNE.out, HEL.out] at CV
        go_wp2_with (fail)
        refine (CV.out).mono ?_
        rintro r w4 ⟨yk, yA, ycap, yl, rfl, hc, o4⟩
        have O4 := Lib.hid (HOr.out.trans o4 (by simp))
        have R4 := Lib.hid (o4.blk HRB.out (by simp))
        have HC4 := Lib.hid hc
        clear o4 hc
        clear x0 x1 x2 x3 x4 xl b0 b1 b2 b3 bl
        generalize hpe : ofPortK ⟨vars.map Vr.tr, ports.map Pr.tr, bag, of.map Vr.tr⟩ 7 nm (es.map Tx.tr) = pe at HC4
        have HPE := Lib.hid hpe
        clear hpe
        obtain ⟨r0, r1, rl⟩ := R4.out.facts2
        have g0 := R4.out.frozen 0
        have g1 := R4.out.frozen 1
        go_wp2_with (fail)
        have hb5 := (R4.out.set_ 0 (.int .i64 yk)).set_ 1 (.slice yA yl.length ycap)
        obtain ⟨e0, e1, -⟩ := Blk.facts2 (a := .int .i64 yk) (b := .slice yA yl.length ycap) hb5
        refine bodyPost_ret (v := .tuple #[.agg #[.int .i64 yk, .slice yA yl.length ycap], .int .i64 pe.2]) (by simp [results, Tryd.results18, go_sem, e0, e1]) rfl ?_
        clear e0 e1 hb5
        have o7 : Only [w.heap.size + 1 + 1] w4 _ := ((Only.refl _ w4).setCell (p := ⟨w.heap.size + 1 + 1, 0, none⟩) (.inl (by simp)) (.int .i64 yk)).setCell (p := ⟨w.heap.size + 1 + 1, 1, none⟩) (.inl (by simp)) (.slice yA yl.length ycap)
        rw [show leafK ⟨vars.map Vr.tr, ports.map Pr.tr, bag, of.map Vr.tr⟩ 7 n nm sb (es.map Tx.tr) = pe from by rw [← HPE.out]; simp [leafK]] at HLF
        rw [HLF.out]
        exact ⟨yk, yA, ycap, yl, rfl, (HC4.out.only o7 (by have := HB0.out; simp; omega)).low (by omega), O4.out.trans o7 (fun b hb => .inr (by simp at hb; omega))⟩
      · have HLF := Lib.hid (HLEAF.out)
        obtain ⟨x0, x1, x2, x3, x4, xl⟩ := HX.out.facts5
        obtain ⟨b0, b1, b2, b3, bl⟩ := HN9.out.facts4
        have CV := Lib.hid (ofport8 (B0 := B0) (n := n) (nm := nm) (sb := sb) (A := A) (cap := cap) (args := args) (ac := c2') (c1 := c1) (c2 := c2) (bag := bag) (c3 := c3) (w := wr) HAA.out (Nat.le_trans HB0.out HOr.out.size) (by have := HRB.out.lt; omega) (HNM.out.keep HOr.out) HOK.out.fp HOK.out.l2)
        rw [HL1.out, HL2.out, HL3.out, HNE.out, HEL.out] at CV
        go_wp2_with (fail)
        refine (CV.out).mono ?_
        rintro r w4 ⟨yk, yA, ycap, yl, rfl, hc, o4⟩
        have O4 := Lib.hid (HOr.out.trans o4 (by simp))
        have R4 := Lib.hid (o4.blk HRB.out (by simp))
        have HC4 := Lib.hid hc
        clear o4 hc
        clear x0 x1 x2 x3 x4 xl b0 b1 b2 b3 bl
        generalize hpe : ofPortK ⟨vars.map Vr.tr, ports.map Pr.tr, bag, of.map Vr.tr⟩ 8 nm (es.map Tx.tr) = pe at HC4
        have HPE := Lib.hid hpe
        clear hpe
        obtain ⟨r0, r1, rl⟩ := R4.out.facts2
        have g0 := R4.out.frozen 0
        have g1 := R4.out.frozen 1
        go_wp2_with (fail)
        have hb5 := (R4.out.set_ 0 (.int .i64 yk)).set_ 1 (.slice yA yl.length ycap)
        obtain ⟨e0, e1, -⟩ := Blk.facts2 (a := .int .i64 yk) (b := .slice yA yl.length ycap) hb5
        refine bodyPost_ret (v := .tuple #[.agg #[.int .i64 yk, .slice yA yl.length ycap], .int .i64 pe.2]) (by simp [results, Tryd.results18, go_sem, e0, e1]) rfl ?_
        clear e0 e1 hb5
        have o7 : Only [w.heap.size + 1 + 1] w4 _ := ((Only.refl _ w4).setCell (p := ⟨w.heap.size + 1 + 1, 0, none⟩) (.inl (by simp)) (.int .i64 yk)).setCell (p := ⟨w.heap.size + 1 + 1, 1, none⟩) (.inl (by simp)) (.slice yA yl.length ycap)
        rw [show leafK ⟨vars.map Vr.tr, ports.map Pr.tr, bag, of.map Vr.tr⟩ 8 n nm sb (es.map Tx.tr) = pe from by rw [← HPE.out]; simp [leafK]] at HLF
        rw [HLF.out]
        exact ⟨yk, yA, ycap, yl, rfl, (HC4.out.only o7 (by have := HB0.out; simp; omega)).low (by omega), O4.out.trans o7 (fun b hb => .inr (by simp at hb; omega))⟩
      · have HLF := Lib.hid (HLEAF.out)
        obtain ⟨x0, x1, x2, x3, x4, xl⟩ := HX.out.facts5
        obtain ⟨b0, b1, b2, b3, bl⟩ := HN9.out.facts4
        have CV := Lib.hid (ofport9 (B0 := B0) (n := n) (nm := nm) (sb := sb) (A := A) (cap := cap) (args := args) (ac := c2') (c1 := c1) (c2 := c2) (bag := bag) (c3 := c3) (w := wr) HAA.out (Nat.le_trans HB0.out HOr.out.size) (by have := HRB.out.lt; omega) (HNM.out.keep HOr.out) HOK.out.fp HOK.out.l2)
        rw [HL1.out, HL2.out, HL3.out, HNE.out, HEL.out] at CV
        go_wp2_with (fail)
        refine (CV.out).mono ?_
        rintro r w4 ⟨yk, yA, ycap, yl, rfl, hc, o4⟩
        have O4 := Lib.hid (HOr.out.trans o4 (by simp))
        have R4 := Lib.hid (o4.blk HRB.out (by simp))
        have HC4 := Lib.hid hc
        clear o4 hc
        clear x0 x1 x2 x3 x4 xl b0 b1 b2 b3 bl
        generalize hpe : ofPortK ⟨vars.map Vr.tr, ports.map Pr.tr, bag, of.map Vr.tr⟩ 9 nm (es.map Tx.tr) = pe at HC4
        have HPE := Lib.hid hpe
        clear hpe
        obtain ⟨r0, r1, rl⟩ := R4.out.facts2
        have g0 := R4.out.frozen 0
        have g1 := R4.out.frozen 1
        go_wp2_with (fail)
        have hb5 := (R4.out.set_ 0 (.int .i64 yk)).set_ 1 (.slice yA yl.length ycap)
        obtain ⟨e0, e1, -⟩ := Blk.facts2 (a := .int .i64 yk) (b := .slice yA yl.length ycap) hb5
        refine bodyPost_ret (v := .tuple #[.agg #[.int .i64 yk, .slice yA yl.length ycap], .int .i64 pe.2]) (by simp [results, Tryd.results18, go_sem, e0, e1]) rfl ?_
        clear e0 e1 hb5
        have o7 : Only [w.heap.size + 1 + 1] w4 _ := ((Only.refl _ w4).setCell (p := ⟨w.heap.size + 1 + 1, 0, none⟩) (.inl (by simp)) (.int .i64 yk)).setCell (p := ⟨w.heap.size + 1 + 1, 1, none⟩) (.inl (by simp)) (.slice yA yl.length ycap)
        rw [show leafK ⟨vars.map Vr.tr, ports.map Pr.tr, bag, of.map Vr.tr⟩ 9 n nm sb (es.map Tx.tr) = pe from by rw [← HPE.out]; simp [leafK]] at HLF
        rw [HLF.out]
        exact ⟨yk, yA, ycap, yl, rfl, (HC4.out.only o7 (by have := HB0.out; simp; omega)).low (by omega), O4.out.trans o7 (fun b hb => .inr (by simp at hb; omega))⟩
      · have HLF := Lib.hid (HLEAF.out)
        obtain ⟨x0, x1, x2, x3, x4, xl⟩ := HX.out.facts5
        obtain ⟨b0, b1, b2, b3, bl⟩ := HN9.out.facts4
        have CV := Lib.hid (ofport10 (B0 := B0) (n := n) (nm := nm) (sb := sb) (A := A) (cap := cap) (args := args) (ac := c2') (c1 := c1) (c2 := c2) (bag := bag) (c3 := c3) (w := wr) HAA.out (Nat.le_trans HB0.out HOr.out.size) (by have := HRB.out.lt; omega) (HNM.out.keep HOr.out) HOK.out.fp HOK.out.l2 (by rw [HEL.out]; exact HAR.out.h10 rfl))
        rw [HL1.out, HL2.out, HL3.out, HNE.out, HEL.out] at CV
        go_wp2_with (fail)
        refine (CV.out).mono ?_
        rintro r w4 ⟨yk, yA, ycap, yl, rfl, hc, o4⟩
        have O4 := Lib.hid (HOr.out.trans o4 (by simp))
        have R4 := Lib.hid (o4.blk HRB.out (by simp))
        have HC4 := Lib.hid hc
        clear o4 hc
        clear x0 x1 x2 x3 x4 xl b0 b1 b2 b3 bl
        generalize hpe : ofPortK ⟨vars.map Vr.tr, ports.map Pr.tr, bag, of.map Vr.tr⟩ 10 nm (es.map Tx.tr) = pe at HC4
        have HPE := Lib.hid hpe
        clear hpe
        obtain ⟨r0, r1, rl⟩ := R4.out.facts2
        have g0 := R4.out.frozen 0
        have g1 := R4.out.frozen 1
        go_wp2_with (fail)
        have hb5 := (R4.out.set_ 0 (.int .i64 yk)).set_ 1 (.slice yA yl.length ycap)
        obtain ⟨e0, e1, -⟩ := Blk.facts2 (a := .int .i64 yk) (b := .slice yA yl.length ycap) hb5
        refine bodyPost_ret (v := .tuple #[.agg #[.int .i64 yk, .slice yA yl.length ycap], .int .i64 pe.2]) (by simp [results, Tryd.results18, go_sem, e0, e1]) rfl ?_
        clear e0 e1 hb5
        have o7 : Only [w.heap.size + 1 + 1] w4 _ := ((Only.refl _ w4).setCell (p := ⟨w.heap.size + 1 + 1, 0, none⟩) (.inl (by simp)) (.int .i64 yk)).setCell (p := ⟨w.heap.size + 1 + 1, 1, none⟩) (.inl (by simp)) (.slice yA yl.length ycap)
        rw [show leafK ⟨vars.map Vr.tr, ports.map Pr.tr, bag, of.map Vr.tr⟩ 10 n nm sb (es.map Tx.tr) = pe from by rw [← HPE.out]; simp [leafK]] at HLF
        rw [HLF.out]
        exact ⟨yk, yA, ycap, yl, rfl, (HC4.out.only o7 (by have := HB0.out; simp; omega)).low (by omega), O4.out.trans o7 (fun b hb => .inr (by simp at hb; omega))⟩
      · have HLF := Lib.hid (HLEAF.out)
        obtain ⟨x0, x1, x2, x3, x4, xl⟩ := HX.out.facts5
        obtain ⟨b0, b1, b2, b3, bl⟩ := HN9.out.facts4
        cases bag with
        | false =>
          obtain ⟨r0, r1, rl⟩ := HRB.out.facts2
          have g0 := HRB.out.frozen 0
          have g1 := HRB.out.frozen 1
          go_wp2_with (fail)
          have hb5 := (HRB.out.set_ 0 (.int .i64 0)).set_ 1 (.slice none 0 0)
          obtain ⟨e0, e1, -⟩ := Blk.facts2 (a := .int .i64 0) (b := .slice none 0 0) hb5
          refine bodyPost_ret (v := .tuple #[.agg #[.int .i64 0, .slice none 0 0], .int .i64 10]) (by simp [results, Tryd.results18, go_sem, e0, e1]) rfl ?_
          clear e0 e1 hb5
          have o7 : Only [w.heap.size + 1 + 1] wr _ := ((Only.refl _ wr).setCell (p := ⟨w.heap.size + 1 + 1, 0, none⟩) (.inl (by simp)) (.int .i64 0)).setCell (p := ⟨w.heap.size + 1 + 1, 1, none⟩) (.inl (by simp)) (.slice none 0 0)
          rw [show leafK ⟨vars.map Vr.tr, ports.map Pr.tr, false, of.map Vr.tr⟩ 11 n nm sb (es.map Tx.tr) = (noT, 10) from by simp [leafK]] at HLF
          rw [HLF.out]
          exact ⟨0, none, 0, [], rfl, plain_TK _ _ 0 ⟨by omega, by omega⟩ _, HOr.out.trans o7 (fun b hb => .inr (by simp at hb; omega))⟩
        | true =>
          go_wp2_with (fail)
          refine (plain_any 0 _).mono ?_
          rintro r w4 ⟨rfl, o4⟩
          have O4 := Lib.hid (HOr.out.trans o4 (by simp))
          have R4 := Lib.hid (o4.blk HRB.out (by simp))
          clear o4
          clear x0 x1 x2 x3 x4 xl b0 b1 b2 b3 bl
          go_wp2_with (fail)
          refine (plain_any 0 _).mono ?_
          rintro r w5 ⟨rfl, o5⟩
          have O5 := Lib.hid (O4.out.trans o5 (by simp))
          have R5 := Lib.hid (o5.blk R4.out (by simp))
          clear o5
          have O6 := Lib.hid (O5.out.alloc (.cells #[.int .i64 0, .slice none 0 0, .int .i64 0, .slice none 0 0] 34))
          have R6 := Lib.hid (Blk.alloc R5.out (.cells #[.int .i64 0, .slice none 0 0, .int .i64 0, .slice none 0 0] 34))
          have HZ := Lib.hid (Blk.new w5 34 #[.int .i64 0, .slice none 0 0, .int .i64 0, .slice none 0 0])
          generalize hw6 : w5.alloc (.cells #[.int .i64 0, .slice none 0 0, .int .i64 0, .slice none 0 0] 34) = w6 at O6 R6 HZ
          have HW6 := Lib.hid hw6
          clear hw6
          obtain ⟨r0, r1, rl⟩ := R5.out.facts2
          have g0 := R5.out.frozen 0
          have g1 := R5.out.frozen 1
          go_wp2_with (fail)
          have HL5 := Lib.hid (show w.heap.size + 1 + 1 < w5.heap.size from R5.out.lt)
          have hb5 := Blk.alloc ((R5.out.set_ 0 (.int .i64 3)).set_ 1 (.slice (some ⟨w5.heap.size, 0, none⟩) 2 2)) (.cells #[.int .i64 0, .slice none 0 0, .int .i64 0, .slice none 0 0] 34)
          obtain ⟨e0, e1, -⟩ := Blk.facts2 (a := .int .i64 3) (b := .slice (some ⟨w5.heap.size, 0, none⟩) 2 2) hb5
          refine bodyPost_ret (v := .tuple #[.agg #[.int .i64 3, .slice (some ⟨w5.heap.size, 0, none⟩) 2 2], .int .i64 0]) (by simp [results, Tryd.results18, go_sem, e0, e1]) rfl ?_
          clear e0 e1
          have hnz := Blk.new ((w5.setCell ⟨w.heap.size + 1 + 1, 0, none⟩ (.int .i64 3)).setCell ⟨w.heap.size + 1 + 1, 1, none⟩ (.slice (some ⟨w5.heap.size, 0, none⟩) 2 2)) 34 #[.int .i64 0, .slice none 0 0, .int .i64 0, .slice none 0 0]
          rw [show ((w5.setCell ⟨w.heap.size + 1 + 1, 0, none⟩ (.int .i64 3)).setCell ⟨w.heap.size + 1 + 1, 1, none⟩ (.slice (some ⟨w5.heap.size, 0, none⟩) 2 2)).heap.size = w5.heap.size by simp] at hnz
          have o7 : Only [w.heap.size + 1 + 1] w5 _ := (((Only.refl [w.heap.size + 1 + 1] w5).setCell (p := ⟨w.heap.size + 1 + 1, 0, none⟩) (.inl (by simp)) (.int .i64 3)).setCell (p := ⟨w.heap.size + 1 + 1, 1, none⟩) (.inl (by simp)) (.slice (some ⟨w5.heap.size, 0, none⟩) 2 2)).alloc (.cells #[.int .i64 0, .slice none 0 0, .int .i64 0, .slice none 0 0] 34)
          rw [show leafK ⟨vars.map Vr.tr, ports.map Pr.tr, true, of.map Vr.tr⟩ 11 n nm sb (es.map Tx.tr) = (.mk 3 [inT, inT], 0) from by simp [leafK]] at HLF
          rw [HLF.out]
          refine ⟨3, some ⟨w5.heap.size, 0, none⟩, 2, [.mk 0 none 0 [], .mk 0 none 0 []], rfl, ⟨by rw [Tx.tr_mk]; simp [Tx.tr_mk, inT], .mk ⟨by omega, by omega⟩ (by simp) (row_inin hnz) (fun e he => by simp at he; subst he; exact plain_lies 0 ⟨by omega, by omega⟩ _), fun b hb => .inr ?_⟩, O5.out.trans o7 (fun b hb => .inr (by simp at hb; omega))⟩
          rcases bks_cases hb with ⟨p, e, hp, -, rfl⟩ | ⟨a, ha, hb⟩
          · injection hp with hp; subst hp; exact Nat.le_of_lt (Nat.lt_of_le_of_lt (by omega) HL5.out)
          · simp at ha; subst ha; simp [Tx.bks_mk, hdB] at hb
      · have HLF := Lib.hid (HLEAF.out)
        obtain ⟨x0, x1, x2, x3, x4, xl⟩ := HX.out.facts5
        obtain ⟨b0, b1, b2, b3, bl⟩ := HN9.out.facts4
        have h12 := HAR.out.h12 rfl
        obtain ⟨a, as', hes⟩ : ∃ a as', es = a :: as' := by cases hh : es with | nil => (have := HEL.out; rw [hh] at this; simp at this; omega) | cons a l => exact ⟨a, l, rfl⟩
        have HA := Lib.hid (HAA.out.el (e := a) (by rw [hes]; simp))
        have hra := HAA.out.row.row 0 a (by rw [hes]; rfl)
        have HHD := Lib.hid (show (es.map Tx.tr).headD noT = a.tr by rw [hes]; rfl)
        clear hes
        obtain ⟨vk, vA, vcap, vl⟩ := a
        obtain ⟨b, oo, rfl, hbb, c0, c1'⟩ := hra.cells
        simp only [Nat.zero_mul, Nat.add_zero] at c0 c1'
        have HC := Lib.hid (And.intro hbb (And.intro c0 c1'))
        have HP := Lib.hid (show 1 ≤ ne from h12.1)
        have HN4 := Lib.hid h12.2
        clear hbb c0 c1' hra h12
        have CI := Lib.hid (fun W (o : Only [] wr W) => item_any (B0 := B0) (B := w.heap.size + 3) (n := n) (k := vk) (A := vA) (cap := vcap) (l := vl) (w := W) ⟨HN4.out.1, by have := HN4.out.2; omega⟩ (HA.out.keep o) (by have := HRB.out.lt; have := o.size; omega))
        generalize hpe : itemK n (Tx.mk vk vA vcap vl).tr = pe at CI
        have HPE := Lib.hid hpe
        clear hpe
        go_wp2_with (fail)
        clear x0 x1 x2 x3 x4 xl b0 b1 b2 b3 bl
        refine (wpIn_wide (n := 9)).1 ?_
        refine wpIn_region_relR 8 (Only []) (fr := ?frgt12) (tl := ?tlgt12) (fun iq v wv => match iq with
          | 0 => v = .pointer (some ⟨w.heap.size, 1, none⟩)
          | 1 => v = .int .i64 n
          | 2 => v = (.slice (some ⟨b, oo, none⟩) ne c2')
          | 3 => v = .pointer (some ⟨b, oo, none⟩)
          | 4 => v = .agg #[.int .i64 vk, .slice vA vl.length vcap]
          | 5 => ∃ yk yA ycap yl, v = .tuple #[.agg #[.int .i64 yk, .slice yA (List.length yl) ycap], .int .i64 pe.2] ∧ TK B0 (w.heap.size + 3) wv pe.1 (.mk yk yA ycap yl)
          | 6 => ∃ yk yA ycap yl, v = .agg #[.int .i64 yk, .slice yA (List.length yl) ycap] ∧ TK B0 (w.heap.size + 3) wv pe.1 (.mk yk yA ycap yl)
          | 7 => v = .int .i64 pe.2
          | _ => True) (.inl rfl) (by kernel_rfl) (by kernel_rfl) (by kernel_rfl) (by kernel_rfl) (by kernel_rfl) (by kernel_rfl) (by decide) ?htlgt12 ?hfrgt12 (Only.refl _ _) (fun _ _ _ h k => h.trans k (fun _ hx => .inl hx)) ?stabgt12 ?stepsgt12 ?donegt12
        case htlgt12 => simp only [List.drop_succ_cons, List.drop_zero]; rfl
        case hfrgt12 => intro vals; simp only [putAll, dstAt, Act.put, List.getElem?_toArray, List.getElem?_cons_zero, List.getElem?_cons_succ, Option.bind_some, List.setIfInBounds_toArray, List.set_cons_zero, List.set_cons_succ]; rfl
        case stabgt12 =>
          intro i v wa wb h
          try dsimp only
          split <;> first | exact id | (rintro ⟨yk, yA, ycap, yl, h1, h2⟩; exact ⟨yk, yA, ycap, yl, h1, h2.keep h⟩)
        case stepsgt12 =>
          refine ⟨?_, ?_, ?_, ?_, ?_, ?_, ?_, ?_, trivial⟩
          · intro vals wr hR hp K hK
            dsimp only at hK ⊢
            clear hp
            unfold RunsOp
            go_simp
            exact hK.out _ _ ⟨_, rfl, Only.refl _ _, rfl⟩
          · intro vals wr hR hp K hK
            dsimp only at hK ⊢
            obtain ⟨p0, -⟩ := hp
            replace p0 := p0 rfl
            dsimp only at p0
            rw [p0] at hK ⊢
            clear p0
            unfold RunsOp
            obtain ⟨k0, k1, k2, k3, k4, kl⟩ := (hR.blk (Blk.drew HX.out) (by simp)).facts5
            go_simp
            exact hK.out _ _ ⟨_, rfl, Only.refl _ _, rfl⟩
          · intro vals wr hR hp K hK
            dsimp only at hK ⊢
            clear hp
            unfold RunsOp
            go_simp
            exact hK.out _ _ ⟨_, rfl, Only.refl _ _, rfl⟩
          · intro vals wr hR hp K hK
            dsimp only at hK ⊢
            obtain ⟨p2, -⟩ := hp
            replace p2 := p2 rfl
            dsimp only at p2
            rw [p2] at hK ⊢
            clear p2
            unfold RunsOp
            have hm1 : (0 : Int) < (ne : Int) := by have := HP.out; omega
            have hm2 : 0 < ne := by have := HP.out; omega
            go_simp
            exact hK.out _ _ ⟨_, rfl, Only.refl _ _, rfl⟩
          · intro vals wr hR hp K hK
            dsimp only at hK ⊢
            obtain ⟨p3, -⟩ := hp
            replace p3 := p3 rfl
            dsimp only at p3
            rw [p3] at hK ⊢
            clear p3
            unfold RunsOp
            have c0 := (hR.cell (p := ⟨b, oo, none⟩) HC.out.1 (by simp)).trans HC.out.2.1
            have c1 := (hR.cell (p := ⟨b, oo + 1, none⟩) HC.out.1 (by simp)).trans HC.out.2.2
            go_simp
            exact hK.out _ _ ⟨_, rfl, Only.refl _ _, rfl⟩
          · intro vals wr hR hp K hK
            dsimp only at hK ⊢
            obtain ⟨p1, p4, -⟩ := hp
            replace p1 := p1 rfl
            replace p4 := p4 rfl
            dsimp only at p1 p4
            rw [p1, p4] at hK ⊢
            clear p1 p4
            unfold RunsOp
            go_simp
            refine (CI.out _ ((Only.refl [] _).drew.trans hR (by simp))).mono ?_
            rintro e w2 ⟨yk, yA, ycap, yl, rfl, hc, o2⟩
            exact hK.out _ _ ⟨_, rfl, o2, yk, yA, ycap, yl, rfl, hc⟩
          · intro vals wr hR hp K hK
            dsimp only at hK ⊢
            obtain ⟨p5, -⟩ := hp
            replace p5 := p5 rfl
            dsimp only at p5
            obtain ⟨yk, yA, ycap, yl, e5, hc5⟩ := p5
            rw [e5] at hK ⊢
            clear e5
            unfold RunsOp
            have HC5 := Lib.hid hc5
            clear hc5
            go_simp
            exact hK.out _ _ ⟨_, rfl, Only.refl _ _, yk, yA, ycap, yl, rfl, HC5.out⟩
          · intro vals wr hR hp K hK
            dsimp only at hK ⊢
            obtain ⟨p5, -⟩ := hp
            replace p5 := p5 rfl
            dsimp only at p5
            obtain ⟨yk, yA, ycap, yl, e5, hc5⟩ := p5
            rw [e5] at hK ⊢
            clear e5
            unfold RunsOp
            clear hc5
            go_simp
            exact hK.out _ _ ⟨_, rfl, Only.refl _ _, rfl⟩
        case donegt12 =>
          intro vals wd hR hF
          have f0 : vals 0 = .pointer (some ⟨w.heap.size, 1, none⟩) := hF 0 (by decide)
          have f1 : vals 1 = .int .i64 n := hF 1 (by decide)
          have f2 : vals 2 = (.slice (some ⟨b, oo, none⟩) ne c2') := hF 2 (by decide)
          have f3 : vals 3 = .pointer (some ⟨b, oo, none⟩) := hF 3 (by decide)
          have f4 : vals 4 = .agg #[.int .i64 vk, .slice vA vl.length vcap] := hF 4 (by decide)
          have f5 : ∃ yk yA ycap yl, (vals 5) = .tuple #[.agg #[.int .i64 yk, .slice yA (List.length yl) ycap], .int .i64 pe.2] ∧ TK B0 (w.heap.size + 3) wd pe.1 (.mk yk yA ycap yl) := hF 5 (by decide)
          have f6 : ∃ yk yA ycap yl, (vals 6) = .agg #[.int .i64 yk, .slice yA (List.length yl) ycap] ∧ TK B0 (w.heap.size + 3) wd pe.1 (.mk yk yA ycap yl) := hF 6 (by decide)
          have f7 : (vals 7) = .int .i64 pe.2 := hF 7 (by decide)
          rw [f0, f1, f2, f3, f4]
          clear f0 f1 f2 f3 f4
          obtain ⟨yk, yA, ycap, yl, f6, hc6⟩ := f6
          rw [f6, f7]
          clear f5 f6 f7
          have O4 := Lib.hid (HOr.out.trans ((Only.refl [] wr).drew.trans hR (by simp)) (by simp))
          have R4 := Lib.hid (hR.blk (Blk.drew HRB.out) (by simp))
          have HC4 := Lib.hid hc6
          clear hR hF hc6
          obtain ⟨r0, r1, rl⟩ := R4.out.facts2
          have g0 := R4.out.frozen 0
          have g1 := R4.out.frozen 1
          gi_wp2_with (fail)
          go_wp2_with (fail)
          have hb5 := (R4.out.set_ 0 (.int .i64 yk)).set_ 1 (.slice yA yl.length ycap)
          obtain ⟨e0, e1, -⟩ := Blk.facts2 (a := .int .i64 yk) (b := .slice yA yl.length ycap) hb5
          refine bodyPost_ret (v := .tuple #[.agg #[.int .i64 yk, .slice yA yl.length ycap], .int .i64 pe.2]) (by simp [results, Tryd.results18, go_sem, e0, e1]) rfl ?_
          clear e0 e1 hb5
          have o7 : Only [w.heap.size + 1 + 1] wd _ := ((Only.refl _ wd).setCell (p := ⟨w.heap.size + 1 + 1, 0, none⟩) (.inl (by simp)) (.int .i64 yk)).setCell (p := ⟨w.heap.size + 1 + 1, 1, none⟩) (.inl (by simp)) (.slice yA yl.length ycap)
          rw [show leafK ⟨vars.map Vr.tr, ports.map Pr.tr, bag, of.map Vr.tr⟩ 12 n nm sb (es.map Tx.tr) = pe from by rw [← HPE.out, ← HHD.out]; simp [leafK]] at HLF
          rw [HLF.out]
          exact ⟨yk, yA, ycap, yl, rfl, (HC4.out.only o7 (by have := HB0.out; simp; omega)).low (by omega), O4.out.trans o7 (fun b hb => .inr (by simp at hb; omega))⟩
      · have HLF := Lib.hid (HLEAF.out)
        obtain ⟨x0, x1, x2, x3, x4, xl⟩ := HX.out.facts5
        obtain ⟨b0, b1, b2, b3, bl⟩ := HN9.out.facts4
        have CV := Lib.hid (sign_any (B0 := B0) (op := 13) (cap := c2') (w := wr) HAA.out (Nat.le_trans HB0.out HOr.out.size) (by have := HRB.out.lt; omega) (by omega) (by omega) (fun h => by omega) (fun h => by omega))
        rw [HEL.out] at CV
        go_wp2_with (fail)
        refine (CV.out).mono ?_
        rintro r w4 ⟨yk, yA, ycap, yl, rfl, hc, o4⟩
        have O4 := Lib.hid (HOr.out.trans o4 (by simp))
        have R4 := Lib.hid (o4.blk HRB.out (by simp))
        have HC4 := Lib.hid hc
        clear o4 hc
        clear x0 x1 x2 x3 x4 xl b0 b1 b2 b3 bl
        generalize hpe : signK 13 (es.map Tx.tr) = pe at HC4
        have HPE := Lib.hid hpe
        clear hpe
        obtain ⟨r0, r1, rl⟩ := R4.out.facts2
        have g0 := R4.out.frozen 0
        have g1 := R4.out.frozen 1
        go_wp2_with (fail)
        have hb5 := (R4.out.set_ 0 (.int .i64 yk)).set_ 1 (.slice yA yl.length ycap)
        obtain ⟨e0, e1, -⟩ := Blk.facts2 (a := .int .i64 yk) (b := .slice yA yl.length ycap) hb5
        refine bodyPost_ret (v := .tuple #[.agg #[.int .i64 yk, .slice yA yl.length ycap], .int .i64 pe.2]) (by simp [results, Tryd.results18, go_sem, e0, e1]) rfl ?_
        clear e0 e1 hb5
        have o7 : Only [w.heap.size + 1 + 1] w4 _ := ((Only.refl _ w4).setCell (p := ⟨w.heap.size + 1 + 1, 0, none⟩) (.inl (by simp)) (.int .i64 yk)).setCell (p := ⟨w.heap.size + 1 + 1, 1, none⟩) (.inl (by simp)) (.slice yA yl.length ycap)
        rw [show leafK ⟨vars.map Vr.tr, ports.map Pr.tr, bag, of.map Vr.tr⟩ 13 n nm sb (es.map Tx.tr) = pe from by rw [← HPE.out]; simp [leafK]] at HLF
        rw [HLF.out]
        exact ⟨yk, yA, ycap, yl, rfl, (HC4.out.only o7 (by have := HB0.out; simp; omega)).low (by omega), O4.out.trans o7 (fun b hb => .inr (by simp at hb; omega))⟩
      · have HLF := Lib.hid (HLEAF.out)
        obtain ⟨x0, x1, x2, x3, x4, xl⟩ := HX.out.facts5
        obtain ⟨b0, b1, b2, b3, bl⟩ := HN9.out.facts4
        have CV := Lib.hid (sign_any (B0 := B0) (op := 14) (cap := c2') (w := wr) HAA.out (Nat.le_trans HB0.out HOr.out.size) (by have := HRB.out.lt; omega) (by omega) (by omega) (fun h => by omega) (fun h => by omega))
        rw [HEL.out] at CV
        go_wp2_with (fail)
        refine (CV.out).mono ?_
        rintro r w4 ⟨yk, yA, ycap, yl, rfl, hc, o4⟩
        have O4 := Lib.hid (HOr.out.trans o4 (by simp))
        have R4 := Lib.hid (o4.blk HRB.out (by simp))
        have HC4 := Lib.hid hc
        clear o4 hc
        clear x0 x1 x2 x3 x4 xl b0 b1 b2 b3 bl
        generalize hpe : signK 14 (es.map Tx.tr) = pe at HC4
        have HPE := Lib.hid hpe
        clear hpe
        obtain ⟨r0, r1, rl⟩ := R4.out.facts2
        have g0 := R4.out.frozen 0
        have g1 := R4.out.frozen 1
        go_wp2_with (fail)
        have hb5 := (R4.out.set_ 0 (.int .i64 yk)).set_ 1 (.slice yA yl.length ycap)
        obtain ⟨e0, e1, -⟩ := Blk.facts2 (a := .int .i64 yk) (b := .slice yA yl.length ycap) hb5
        refine bodyPost_ret (v := .tuple #[.agg #[.int .i64 yk, .slice yA yl.length ycap], .int .i64 pe.2]) (by simp [results, Tryd.results18, go_sem, e0, e1]) rfl ?_
        clear e0 e1 hb5
        have o7 : Only [w.heap.size + 1 + 1] w4 _ := ((Only.refl _ w4).setCell (p := ⟨w.heap.size + 1 + 1, 0, none⟩) (.inl (by simp)) (.int .i64 yk)).setCell (p := ⟨w.heap.size + 1 + 1, 1, none⟩) (.inl (by simp)) (.slice yA yl.length ycap)
        rw [show leafK ⟨vars.map Vr.tr, ports.map Pr.tr, bag, of.map Vr.tr⟩ 14 n nm sb (es.map Tx.tr) = pe from by rw [← HPE.out]; simp [leafK]] at HLF
        rw [HLF.out]
        exact ⟨yk, yA, ycap, yl, rfl, (HC4.out.only o7 (by have := HB0.out; simp; omega)).low (by omega), O4.out.trans o7 (fun b hb => .inr (by simp at hb; omega))⟩
      · have HLF := Lib.hid (HLEAF.out)
        obtain ⟨x0, x1, x2, x3, x4, xl⟩ := HX.out.facts5
        obtain ⟨b0, b1, b2, b3, bl⟩ := HN9.out.facts4
        have CV := Lib.hid (sign_any (B0 := B0) (op := 15) (cap := c2') (w := wr) HAA.out (Nat.le_trans HB0.out HOr.out.size) (by have := HRB.out.lt; omega) (by omega) (by omega) (fun h => by omega) (fun h => by omega))
        rw [HEL.out] at CV
        go_wp2_with (fail)
        refine (CV.out).mono ?_
        rintro r w4 ⟨yk, yA, ycap, yl, rfl, hc, o4⟩
        have O4 := Lib.hid (HOr.out.trans o4 (by simp))
        have R4 := Lib.hid (o4.blk HRB.out (by simp))
        have HC4 := Lib.hid hc
        clear o4 hc
        clear x0 x1 x2 x3 x4 xl b0 b1 b2 b3 bl
        generalize hpe : signK 15 (es.map Tx.tr) = pe at HC4
        have HPE := Lib.hid hpe
        clear hpe
        obtain ⟨r0, r1, rl⟩ := R4.out.facts2
        have g0 := R4.out.frozen 0
        have g1 := R4.out.frozen 1
        go_wp2_with (fail)
        have hb5 := (R4.out.set_ 0 (.int .i64 yk)).set_ 1 (.slice yA yl.length ycap)
        obtain ⟨e0, e1, -⟩ := Blk.facts2 (a := .int .i64 yk) (b := .slice yA yl.length ycap) hb5
        refine bodyPost_ret (v := .tuple #[.agg #[.int .i64 yk, .slice yA yl.length ycap], .int .i64 pe.2]) (by simp [results, Tryd.results18, go_sem, e0, e1]) rfl ?_
        clear e0 e1 hb5
        have o7 : Only [w.heap.size + 1 + 1] w4 _ := ((Only.refl _ w4).setCell (p := ⟨w.heap.size + 1 + 1, 0, none⟩) (.inl (by simp)) (.int .i64 yk)).setCell (p := ⟨w.heap.size + 1 + 1, 1, none⟩) (.inl (by simp)) (.slice yA yl.length ycap)
        rw [show leafK ⟨vars.map Vr.tr, ports.map Pr.tr, bag, of.map Vr.tr⟩ 15 n nm sb (es.map Tx.tr) = pe from by rw [← HPE.out]; simp [leafK]] at HLF
        rw [HLF.out]
        exact ⟨yk, yA, ycap, yl, rfl, (HC4.out.only o7 (by have := HB0.out; simp; omega)).low (by omega), O4.out.trans o7 (fun b hb => .inr (by simp at hb; omega))⟩
      · have HLF := Lib.hid (HLEAF.out)
        obtain ⟨x0, x1, x2, x3, x4, xl⟩ := HX.out.facts5
        obtain ⟨b0, b1, b2, b3, bl⟩ := HN9.out.facts4
        have CV := Lib.hid (sign_any (B0 := B0) (op := 16) (cap := c2') (w := wr) HAA.out (Nat.le_trans HB0.out HOr.out.size) (by have := HRB.out.lt; omega) (by omega) (by omega) (fun h => by omega) (fun h => by omega))
        rw [HEL.out] at CV
        go_wp2_with (fail)
        refine (CV.out).mono ?_
        rintro r w4 ⟨yk, yA, ycap, yl, rfl, hc, o4⟩
        have O4 := Lib.hid (HOr.out.trans o4 (by simp))
        have R4 := Lib.hid (o4.blk HRB.out (by simp))
        have HC4 := Lib.hid hc
        clear o4 hc
        clear x0 x1 x2 x3 x4 xl b0 b1 b2 b3 bl
        generalize hpe : signK 16 (es.map Tx.tr) = pe at HC4
        have HPE := Lib.hid hpe
        clear hpe
        obtain ⟨r0, r1, rl⟩ := R4.out.facts2
        have g0 := R4.out.frozen 0
        have g1 := R4.out.frozen 1
        go_wp2_with (fail)
        have hb5 := (R4.out.set_ 0 (.int .i64 yk)).set_ 1 (.slice yA yl.length ycap)
        obtain ⟨e0, e1, -⟩ := Blk.facts2 (a := .int .i64 yk) (b := .slice yA yl.length ycap) hb5
        refine bodyPost_ret (v := .tuple #[.agg #[.int .i64 yk, .slice yA yl.length ycap], .int .i64 pe.2]) (by simp [results, Tryd.results18, go_sem, e0, e1]) rfl ?_
        clear e0 e1 hb5
        have o7 : Only [w.heap.size + 1 + 1] w4 _ := ((Only.refl _ w4).setCell (p := ⟨w.heap.size + 1 + 1, 0, none⟩) (.inl (by simp)) (.int .i64 yk)).setCell (p := ⟨w.heap.size + 1 + 1, 1, none⟩) (.inl (by simp)) (.slice yA yl.length ycap)
        rw [show leafK ⟨vars.map Vr.tr, ports.map Pr.tr, bag, of.map Vr.tr⟩ 16 n nm sb (es.map Tx.tr) = pe from by rw [← HPE.out]; simp [leafK]] at HLF
        rw [HLF.out]
        exact ⟨yk, yA, ycap, yl, rfl, (HC4.out.only o7 (by have := HB0.out; simp; omega)).low (by omega), O4.out.trans o7 (fun b hb => .inr (by simp at hb; omega))⟩
      · have HLF := Lib.hid (HLEAF.out)
        obtain ⟨x0, x1, x2, x3, x4, xl⟩ := HX.out.facts5
        obtain ⟨b0, b1, b2, b3, bl⟩ := HN9.out.facts4
        have CV := Lib.hid (sign_any (B0 := B0) (op := 17) (cap := c2') (w := wr) HAA.out (Nat.le_trans HB0.out HOr.out.size) (by have := HRB.out.lt; omega) (by omega) (by omega) (fun h => by omega) (fun h => by omega))
        rw [HEL.out] at CV
        go_wp2_with (fail)
        refine (CV.out).mono ?_
        rintro r w4 ⟨yk, yA, ycap, yl, rfl, hc, o4⟩
        have O4 := Lib.hid (HOr.out.trans o4 (by simp))
        have R4 := Lib.hid (o4.blk HRB.out (by simp))
        have HC4 := Lib.hid hc
        clear o4 hc
        clear x0 x1 x2 x3 x4 xl b0 b1 b2 b3 bl
        generalize hpe : signK 17 (es.map Tx.tr) = pe at HC4
        have HPE := Lib.hid hpe
        clear hpe
        obtain ⟨r0, r1, rl⟩ := R4.out.facts2
        have g0 := R4.out.frozen 0
        have g1 := R4.out.frozen 1
        go_wp2_with (fail)
        have hb5 := (R4.out.set_ 0 (.int .i64 yk)).set_ 1 (.slice yA yl.length ycap)
        obtain ⟨e0, e1, -⟩ := Blk.facts2 (a := .int .i64 yk) (b := .slice yA yl.length ycap) hb5
        refine bodyPost_ret (v := .tuple #[.agg #[.int .i64 yk, .slice yA yl.length ycap], .int .i64 pe.2]) (by simp [results, Tryd.results18, go_sem, e0, e1]) rfl ?_
        clear e0 e1 hb5
        have o7 : Only [w.heap.size + 1 + 1] w4 _ := ((Only.refl _ w4).setCell (p := ⟨w.heap.size + 1 + 1, 0, none⟩) (.inl (by simp)) (.int .i64 yk)).setCell (p := ⟨w.heap.size + 1 + 1, 1, none⟩) (.inl (by simp)) (.slice yA yl.length ycap)
        rw [show leafK ⟨vars.map Vr.tr, ports.map Pr.tr, bag, of.map Vr.tr⟩ 17 n nm sb (es.map Tx.tr) = pe from by rw [← HPE.out]; simp [leafK]] at HLF
        rw [HLF.out]
        exact ⟨yk, yA, ycap, yl, rfl, (HC4.out.only o7 (by have := HB0.out; simp; omega)).low (by omega), O4.out.trans o7 (fun b hb => .inr (by simp at hb; omega))⟩
      · have HLF := Lib.hid (HLEAF.out)
        obtain ⟨x0, x1, x2, x3, x4, xl⟩ := HX.out.facts5
        obtain ⟨b0, b1, b2, b3, bl⟩ := HN9.out.facts4
        have CV := Lib.hid (sign_any (B0 := B0) (op := 18) (cap := c2') (w := wr) HAA.out (Nat.le_trans HB0.out HOr.out.size) (by have := HRB.out.lt; omega) (by omega) (by omega) (fun h => by omega) (fun h => by omega))
        rw [HEL.out] at CV
        go_wp2_with (fail)
        refine (CV.out).mono ?_
        rintro r w4 ⟨yk, yA, ycap, yl, rfl, hc, o4⟩
        have O4 := Lib.hid (HOr.out.trans o4 (by simp))
        have R4 := Lib.hid (o4.blk HRB.out (by simp))
        have HC4 := Lib.hid hc
        clear o4 hc
        clear x0 x1 x2 x3 x4 xl b0 b1 b2 b3 bl
        generalize hpe : signK 18 (es.map Tx.tr) = pe at HC4
        have HPE := Lib.hid hpe
        clear hpe
        obtain ⟨r0, r1, rl⟩ := R4.out.facts2
        have g0 := R4.out.frozen 0
        have g1 := R4.out.frozen 1
        go_wp2_with (fail)
        have hb5 := (R4.out.set_ 0 (.int .i64 yk)).set_ 1 (.slice yA yl.length ycap)
        obtain ⟨e0, e1, -⟩ := Blk.facts2 (a := .int .i64 yk) (b := .slice yA yl.length ycap) hb5
        refine bodyPost_ret (v := .tuple #[.agg #[.int .i64 yk, .slice yA yl.length ycap], .int .i64 pe.2]) (by simp [results, Tryd.results18, go_sem, e0, e1]) rfl ?_
        clear e0 e1 hb5
        have o7 : Only [w.heap.size + 1 + 1] w4 _ := ((Only.refl _ w4).setCell (p := ⟨w.heap.size + 1 + 1, 0, none⟩) (.inl (by simp)) (.int .i64 yk)).setCell (p := ⟨w.heap.size + 1 + 1, 1, none⟩) (.inl (by simp)) (.slice yA yl.length ycap)
        rw [show leafK ⟨vars.map Vr.tr, ports.map Pr.tr, bag, of.map Vr.tr⟩ 18 n nm sb (es.map Tx.tr) = pe from by rw [← HPE.out]; simp [leafK]] at HLF
        rw [HLF.out]
        exact ⟨yk, yA, ycap, yl, rfl, (HC4.out.only o7 (by have := HB0.out; simp; omega)).low (by omega), O4.out.trans o7 (fun b hb => .inr (by simp at hb; omega))⟩
      · have HLF := Lib.hid (HLEAF.out)
        obtain ⟨x0, x1, x2, x3, x4, xl⟩ := HX.out.facts5
        obtain ⟨b0, b1, b2, b3, bl⟩ := HN9.out.facts4
        have CV := Lib.hid (sign_any (B0 := B0) (op := 19) (cap := c2') (w := wr) HAA.out (Nat.le_trans HB0.out HOr.out.size) (by have := HRB.out.lt; omega) (by omega) (by omega) (fun h => by omega) (fun h => by omega))
        rw [HEL.out] at CV
        go_wp2_with (fail)
        refine (CV.out).mono ?_
        rintro r w4 ⟨yk, yA, ycap, yl, rfl, hc, o4⟩
        have O4 := Lib.hid (HOr.out.trans o4 (by simp))
        have R4 := Lib.hid (o4.blk HRB.out (by simp))
        have HC4 := Lib.hid hc
        clear o4 hc
        clear x0 x1 x2 x3 x4 xl b0 b1 b2 b3 bl
        generalize hpe : signK 19 (es.map Tx.tr) = pe at HC4
        have HPE := Lib.hid hpe
        clear hpe
        obtain ⟨r0, r1, rl⟩ := R4.out.facts2
        have g0 := R4.out.frozen 0
        have g1 := R4.out.frozen 1
        go_wp2_with (fail)
        have hb5 := (R4.out.set_ 0 (.int .i64 yk)).set_ 1 (.slice yA yl.length ycap)
        obtain ⟨e0, e1, -⟩ := Blk.facts2 (a := .int .i64 yk) (b := .slice yA yl.length ycap) hb5
        refine bodyPost_ret (v := .tuple #[.agg #[.int .i64 yk, .slice yA yl.length ycap], .int .i64 pe.2]) (by simp [results, Tryd.results18, go_sem, e0, e1]) rfl ?_
        clear e0 e1 hb5
        have o7 : Only [w.heap.size + 1 + 1] w4 _ := ((Only.refl _ w4).setCell (p := ⟨w.heap.size + 1 + 1, 0, none⟩) (.inl (by simp)) (.int .i64 yk)).setCell (p := ⟨w.heap.size + 1 + 1, 1, none⟩) (.inl (by simp)) (.slice yA yl.length ycap)
        rw [show leafK ⟨vars.map Vr.tr, ports.map Pr.tr, bag, of.map Vr.tr⟩ 19 n nm sb (es.map Tx.tr) = pe from by rw [← HPE.out]; simp [leafK]] at HLF
        rw [HLF.out]
        exact ⟨yk, yA, ycap, yl, rfl, (HC4.out.only o7 (by have := HB0.out; simp; omega)).low (by omega), O4.out.trans o7 (fun b hb => .inr (by simp at hb; omega))⟩
      · have HLF := Lib.hid (HLEAF.out)
        obtain ⟨x0, x1, x2, x3, x4, xl⟩ := HX.out.facts5
        obtain ⟨b0, b1, b2, b3, bl⟩ := HN9.out.facts4
        have CV := Lib.hid (sign_any (B0 := B0) (op := 20) (cap := c2') (w := wr) HAA.out (Nat.le_trans HB0.out HOr.out.size) (by have := HRB.out.lt; omega) (by omega) (by omega) (fun _ => by rw [HEL.out]; exact HAR.out.h2 (by omega)) (fun h => by omega))
        rw [HEL.out] at CV
        go_wp2_with (fail)
        refine (CV.out).mono ?_
        rintro r w4 ⟨yk, yA, ycap, yl, rfl, hc, o4⟩
        have O4 := Lib.hid (HOr.out.trans o4 (by simp))
        have R4 := Lib.hid (o4.blk HRB.out (by simp))
        have HC4 := Lib.hid hc
        clear o4 hc
        clear x0 x1 x2 x3 x4 xl b0 b1 b2 b3 bl
        generalize hpe : signK 20 (es.map Tx.tr) = pe at HC4
        have HPE := Lib.hid hpe
        clear hpe
        obtain ⟨r0, r1, rl⟩ := R4.out.facts2
        have g0 := R4.out.frozen 0
        have g1 := R4.out.frozen 1
        go_wp2_with (fail)
        have hb5 := (R4.out.set_ 0 (.int .i64 yk)).set_ 1 (.slice yA yl.length ycap)
        obtain ⟨e0, e1, -⟩ := Blk.facts2 (a := .int .i64 yk) (b := .slice yA yl.length ycap) hb5
        refine bodyPost_ret (v := .tuple #[.agg #[.int .i64 yk, .slice yA yl.length ycap], .int .i64 pe.2]) (by simp [results, Tryd.results18, go_sem, e0, e1]) rfl ?_
        clear e0 e1 hb5
        have o7 : Only [w.heap.size + 1 + 1] w4 _ := ((Only.refl _ w4).setCell (p := ⟨w.heap.size + 1 + 1, 0, none⟩) (.inl (by simp)) (.int .i64 yk)).setCell (p := ⟨w.heap.size + 1 + 1, 1, none⟩) (.inl (by simp)) (.slice yA yl.length ycap)
        rw [show leafK ⟨vars.map Vr.tr, ports.map Pr.tr, bag, of.map Vr.tr⟩ 20 n nm sb (es.map Tx.tr) = pe from by rw [← HPE.out]; simp [leafK]] at HLF
        rw [HLF.out]
        exact ⟨yk, yA, ycap, yl, rfl, (HC4.out.only o7 (by have := HB0.out; simp; omega)).low (by omega), O4.out.trans o7 (fun b hb => .inr (by simp at hb; omega))⟩
      · have HLF := Lib.hid (HLEAF.out)
        obtain ⟨x0, x1, x2, x3, x4, xl⟩ := HX.out.facts5
        obtain ⟨b0, b1, b2, b3, bl⟩ := HN9.out.facts4
        have CV := Lib.hid (sign_any (B0 := B0) (op := 21) (cap := c2') (w := wr) HAA.out (Nat.le_trans HB0.out HOr.out.size) (by have := HRB.out.lt; omega) (by omega) (by omega) (fun _ => by rw [HEL.out]; exact HAR.out.h2 (by omega)) (fun h => by omega))
        rw [HEL.out] at CV
        go_wp2_with (fail)
        refine (CV.out).mono ?_
        rintro r w4 ⟨yk, yA, ycap, yl, rfl, hc, o4⟩
        have O4 := Lib.hid (HOr.out.trans o4 (by simp))
        have R4 := Lib.hid (o4.blk HRB.out (by simp))
        have HC4 := Lib.hid hc
        clear o4 hc
        clear x0 x1 x2 x3 x4 xl b0 b1 b2 b3 bl
        generalize hpe : signK 21 (es.map Tx.tr) = pe at HC4
        have HPE := Lib.hid hpe
        clear hpe
        obtain ⟨r0, r1, rl⟩ := R4.out.facts2
        have g0 := R4.out.frozen 0
        have g1 := R4.out.frozen 1
        go_wp2_with (fail)
        have hb5 := (R4.out.set_ 0 (.int .i64 yk)).set_ 1 (.slice yA yl.length ycap)
        obtain ⟨e0, e1, -⟩ := Blk.facts2 (a := .int .i64 yk) (b := .slice yA yl.length ycap) hb5
        refine bodyPost_ret (v := .tuple #[.agg #[.int .i64 yk, .slice yA yl.length ycap], .int .i64 pe.2]) (by simp [results, Tryd.results18, go_sem, e0, e1]) rfl ?_
        clear e0 e1 hb5
        have o7 : Only [w.heap.size + 1 + 1] w4 _ := ((Only.refl _ w4).setCell (p := ⟨w.heap.size + 1 + 1, 0, none⟩) (.inl (by simp)) (.int .i64 yk)).setCell (p := ⟨w.heap.size + 1 + 1, 1, none⟩) (.inl (by simp)) (.slice yA yl.length ycap)
        rw [show leafK ⟨vars.map Vr.tr, ports.map Pr.tr, bag, of.map Vr.tr⟩ 21 n nm sb (es.map Tx.tr) = pe from by rw [← HPE.out]; simp [leafK]] at HLF
        rw [HLF.out]
        exact ⟨yk, yA, ycap, yl, rfl, (HC4.out.only o7 (by have := HB0.out; simp; omega)).low (by omega), O4.out.trans o7 (fun b hb => .inr (by simp at hb; omega))⟩
      · have HLF := Lib.hid (HLEAF.out)
        obtain ⟨x0, x1, x2, x3, x4, xl⟩ := HX.out.facts5
        obtain ⟨b0, b1, b2, b3, bl⟩ := HN9.out.facts4
        have CV := Lib.hid (sign_any (B0 := B0) (op := 22) (cap := c2') (w := wr) HAA.out (Nat.le_trans HB0.out HOr.out.size) (by have := HRB.out.lt; omega) (by omega) (by omega) (fun _ => by rw [HEL.out]; exact HAR.out.h2 (by omega)) (fun h => by omega))
        rw [HEL.out] at CV
        go_wp2_with (fail)
        refine (CV.out).mono ?_
        rintro r w4 ⟨yk, yA, ycap, yl, rfl, hc, o4⟩
        have O4 := Lib.hid (HOr.out.trans o4 (by simp))
        have R4 := Lib.hid (o4.blk HRB.out (by simp))
        have HC4 := Lib.hid hc
        clear o4 hc
        clear x0 x1 x2 x3 x4 xl b0 b1 b2 b3 bl
        generalize hpe : signK 22 (es.map Tx.tr) = pe at HC4
        have HPE := Lib.hid hpe
        clear hpe
        obtain ⟨r0, r1, rl⟩ := R4.out.facts2
        have g0 := R4.out.frozen 0
        have g1 := R4.out.frozen 1
        go_wp2_with (fail)
        have hb5 := (R4.out.set_ 0 (.int .i64 yk)).set_ 1 (.slice yA yl.length ycap)
        obtain ⟨e0, e1, -⟩ := Blk.facts2 (a := .int .i64 yk) (b := .slice yA yl.length ycap) hb5
        refine bodyPost_ret (v := .tuple #[.agg #[.int .i64 yk, .slice yA yl.length ycap], .int .i64 pe.2]) (by simp [results, Tryd.results18, go_sem, e0, e1]) rfl ?_
        clear e0 e1 hb5
        have o7 : Only [w.heap.size + 1 + 1] w4 _ := ((Only.refl _ w4).setCell (p := ⟨w.heap.size + 1 + 1, 0, none⟩) (.inl (by simp)) (.int .i64 yk)).setCell (p := ⟨w.heap.size + 1 + 1, 1, none⟩) (.inl (by simp)) (.slice yA yl.length ycap)
        rw [show leafK ⟨vars.map Vr.tr, ports.map Pr.tr, bag, of.map Vr.tr⟩ 22 n nm sb (es.map Tx.tr) = pe from by rw [← HPE.out]; simp [leafK]] at HLF
        rw [HLF.out]
        exact ⟨yk, yA, ycap, yl, rfl, (HC4.out.only o7 (by have := HB0.out; simp; omega)).low (by omega), O4.out.trans o7 (fun b hb => .inr (by simp at hb; omega))⟩
      · have HLF := Lib.hid (HLEAF.out)
        obtain ⟨x0, x1, x2, x3, x4, xl⟩ := HX.out.facts5
        obtain ⟨b0, b1, b2, b3, bl⟩ := HN9.out.facts4
        have CV := Lib.hid (sign_any (B0 := B0) (op := 23) (cap := c2') (w := wr) HAA.out (Nat.le_trans HB0.out HOr.out.size) (by have := HRB.out.lt; omega) (by omega) (by omega) (fun h => by omega) (fun h => by omega))
        rw [HEL.out] at CV
        go_wp2_with (fail)
        refine (CV.out).mono ?_
        rintro r w4 ⟨yk, yA, ycap, yl, rfl, hc, o4⟩
        have O4 := Lib.hid (HOr.out.trans o4 (by simp))
        have R4 := Lib.hid (o4.blk HRB.out (by simp))
        have HC4 := Lib.hid hc
        clear o4 hc
        clear x0 x1 x2 x3 x4 xl b0 b1 b2 b3 bl
        generalize hpe : signK 23 (es.map Tx.tr) = pe at HC4
        have HPE := Lib.hid hpe
        clear hpe
        obtain ⟨r0, r1, rl⟩ := R4.out.facts2
        have g0 := R4.out.frozen 0
        have g1 := R4.out.frozen 1
        go_wp2_with (fail)
        have hb5 := (R4.out.set_ 0 (.int .i64 yk)).set_ 1 (.slice yA yl.length ycap)
        obtain ⟨e0, e1, -⟩ := Blk.facts2 (a := .int .i64 yk) (b := .slice yA yl.length ycap) hb5
        refine bodyPost_ret (v := .tuple #[.agg #[.int .i64 yk, .slice yA yl.length ycap], .int .i64 pe.2]) (by simp [results, Tryd.results18, go_sem, e0, e1]) rfl ?_
        clear e0 e1 hb5
        have o7 : Only [w.heap.size + 1 + 1] w4 _ := ((Only.refl _ w4).setCell (p := ⟨w.heap.size + 1 + 1, 0, none⟩) (.inl (by simp)) (.int .i64 yk)).setCell (p := ⟨w.heap.size + 1 + 1, 1, none⟩) (.inl (by simp)) (.slice yA yl.length ycap)
        rw [show leafK ⟨vars.map Vr.tr, ports.map Pr.tr, bag, of.map Vr.tr⟩ 23 n nm sb (es.map Tx.tr) = pe from by rw [← HPE.out]; simp [leafK]] at HLF
        rw [HLF.out]
        exact ⟨yk, yA, ycap, yl, rfl, (HC4.out.only o7 (by have := HB0.out; simp; omega)).low (by omega), O4.out.trans o7 (fun b hb => .inr (by simp at hb; omega))⟩
      · have HLF := Lib.hid (HLEAF.out)
        obtain ⟨x0, x1, x2, x3, x4, xl⟩ := HX.out.facts5
        obtain ⟨b0, b1, b2, b3, bl⟩ := HN9.out.facts4
        have CV := Lib.hid (sign_any (B0 := B0) (op := 24) (cap := c2') (w := wr) HAA.out (Nat.le_trans HB0.out HOr.out.size) (by have := HRB.out.lt; omega) (by omega) (by omega) (fun h => by omega) (fun h => by omega))
        rw [HEL.out] at CV
        go_wp2_with (fail)
        refine (CV.out).mono ?_
        rintro r w4 ⟨yk, yA, ycap, yl, rfl, hc, o4⟩
        have O4 := Lib.hid (HOr.out.trans o4 (by simp))
        have R4 := Lib.hid (o4.blk HRB.out (by simp))
        have HC4 := Lib.hid hc
        clear o4 hc
        clear x0 x1 x2 x3 x4 xl b0 b1 b2 b3 bl
        generalize hpe : signK 24 (es.map Tx.tr) = pe at HC4
        have HPE := Lib.hid hpe
        clear hpe
        obtain ⟨r0, r1, rl⟩ := R4.out.facts2
        have g0 := R4.out.frozen 0
        have g1 := R4.out.frozen 1
        go_wp2_with (fail)
        have hb5 := (R4.out.set_ 0 (.int .i64 yk)).set_ 1 (.slice yA yl.length ycap)
        obtain ⟨e0, e1, -⟩ := Blk.facts2 (a := .int .i64 yk) (b := .slice yA yl.length ycap) hb5
        refine bodyPost_ret (v := .tuple #[.agg #[.int .i64 yk, .slice yA yl.length ycap], .int .i64 pe.2]) (by simp [results, Tryd.results18, go_sem, e0, e1]) rfl ?_
        clear e0 e1 hb5
        have o7 : Only [w.heap.size + 1 + 1] w4 _ := ((Only.refl _ w4).setCell (p := ⟨w.heap.size + 1 + 1, 0, none⟩) (.inl (by simp)) (.int .i64 yk)).setCell (p := ⟨w.heap.size + 1 + 1, 1, none⟩) (.inl (by simp)) (.slice yA yl.length ycap)
        rw [show leafK ⟨vars.map Vr.tr, ports.map Pr.tr, bag, of.map Vr.tr⟩ 24 n nm sb (es.map Tx.tr) = pe from by rw [← HPE.out]; simp [leafK]] at HLF
        rw [HLF.out]
        exact ⟨yk, yA, ycap, yl, rfl, (HC4.out.only o7 (by have := HB0.out; simp; omega)).low (by omega), O4.out.trans o7 (fun b hb => .inr (by simp at hb; omega))⟩
      · have HLF := Lib.hid (HLEAF.out)
        obtain ⟨x0, x1, x2, x3, x4, xl⟩ := HX.out.facts5
        obtain ⟨b0, b1, b2, b3, bl⟩ := HN9.out.facts4
        have CV := Lib.hid (sign_any (B0 := B0) (op := 25) (cap := c2') (w := wr) HAA.out (Nat.le_trans HB0.out HOr.out.size) (by have := HRB.out.lt; omega) (by omega) (by omega) (fun h => by omega) (fun _ => by rw [HEL.out]; exact HAR.out.h3 rfl))
        rw [HEL.out] at CV
        go_wp2_with (fail)
        refine (CV.out).mono ?_
        rintro r w4 ⟨yk, yA, ycap, yl, rfl, hc, o4⟩
        have O4 := Lib.hid (HOr.out.trans o4 (by simp))
        have R4 := Lib.hid (o4.blk HRB.out (by simp))
        have HC4 := Lib.hid hc
        clear o4 hc
        clear x0 x1 x2 x3 x4 xl b0 b1 b2 b3 bl
        generalize hpe : signK 25 (es.map Tx.tr) = pe at HC4
        have HPE := Lib.hid hpe
        clear hpe
        obtain ⟨r0, r1, rl⟩ := R4.out.facts2
        have g0 := R4.out.frozen 0
        have g1 := R4.out.frozen 1
        go_wp2_with (fail)
        have hb5 := (R4.out.set_ 0 (.int .i64 yk)).set_ 1 (.slice yA yl.length ycap)
        obtain ⟨e0, e1, -⟩ := Blk.facts2 (a := .int .i64 yk) (b := .slice yA yl.length ycap) hb5
        refine bodyPost_ret (v := .tuple #[.agg #[.int .i64 yk, .slice yA yl.length ycap], .int .i64 pe.2]) (by simp [results, Tryd.results18, go_sem, e0, e1]) rfl ?_
        clear e0 e1 hb5
        have o7 : Only [w.heap.size + 1 + 1] w4 _ := ((Only.refl _ w4).setCell (p := ⟨w.heap.size + 1 + 1, 0, none⟩) (.inl (by simp)) (.int .i64 yk)).setCell (p := ⟨w.heap.size + 1 + 1, 1, none⟩) (.inl (by simp)) (.slice yA yl.length ycap)
        rw [show leafK ⟨vars.map Vr.tr, ports.map Pr.tr, bag, of.map Vr.tr⟩ 25 n nm sb (es.map Tx.tr) = pe from by rw [← HPE.out]; simp [leafK]] at HLF
        rw [HLF.out]
        exact ⟨yk, yA, ycap, yl, rfl, (HC4.out.only o7 (by have := HB0.out; simp; omega)).low (by omega), O4.out.trans o7 (fun b hb => .inr (by simp at hb; omega))⟩
end Go.Proofs.YtjhpckeoackblaaDoor
