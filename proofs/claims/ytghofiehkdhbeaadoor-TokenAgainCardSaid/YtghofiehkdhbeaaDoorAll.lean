/- All: the words of a text are handed out. -/
import Derived.Test.YtghofiehkdhbeaaDoorWord
import Derived.Test.YtghofiehkdhbeaaDoorFactsR
import Derived.Test.YtghofiehkdhbeaaDoorFacts2
import Derived.Test.YtghofiehkdhbeaaDoorRangeP
namespace Go.Proofs.YtghofiehkdhbeaaDoor
open Go.RowKit Go.Kx Go.Tok
set_option maxRecDepth 100000

def tokC (w : Word) : Value := .agg #[.int .i64 w.t.kind, .string ⟨w.t.s.toArray⟩, .int .i64 w.t.n, .int .i64 w.at_]
def badC (p : Nat) : Value := .agg #[.int .i64 0, .string ⟨#[]⟩, .int .i64 0, .int .i64 p]
def okT (w : Word) : Array Value := #[tokC w, .int .i64 0]
def badT (p e : Nat) : Array Value := #[badC p, .int .i64 e]
def vsOf (o : Out) : List (Array Value) := o.1.map okT ++ match o.2 with | none => [] | some (p, e) => [badT p e]
/-- what All hands out -/
def outs (s : ByteArray) : List (Array Value) := if 16384 < s.size then [badT 0 9] else vsOf (scanL s.data.toList 0)
theorem vs_bad {l : List UInt8} {p e : Nat} (h : wordW (l.drop (sk false l)) = .bad e) : vsOf (scanL l p) = [badT (p + sk false l) e] := by
  rw [scanL_eq, h]; rfl
theorem vs_eof {l : List UInt8} {p n : Nat} {t : Tok} (h : wordW (l.drop (sk false l)) = .ok t n) (h4 : t.kind = 4) : vsOf (scanL l p) = [okT ⟨t, p + sk false l⟩] := by
  rw [scanL_eq, h]; simp only; rw [if_pos h4]; rfl
theorem vs_more {l : List UInt8} {p n : Nat} {t : Tok} (h : wordW (l.drop (sk false l)) = .ok t n) (h4 : t.kind ≠ 4) : vsOf (scanL l p) = okT ⟨t, p + sk false l⟩ :: vsOf (scanL (l.drop (sk false l + n)) (p + (sk false l + n))) := by
  rw [scanL_eq, h]; simp only; rw [if_neg h4]; rfl
theorem drop_one {α : Type} {l m : List α} {k : Nat} {x : α} (h : l.drop k = x :: m) : l[k]? = some x ∧ l.drop (k + 1) = m ∧ k < l.length := by
  have h1 : l[k]? = some x := by
    have := congrArg (·[0]?) h
    simpa [List.getElem?_drop] using this
  refine ⟨h1, ?_, (List.getElem?_eq_some_iff.1 h1).1⟩
  have := congrArg (List.drop 1) h
  simpa [List.drop_drop, Nat.add_comm] using this
theorem drop_last {α : Type} {l : List α} {k : Nat} {x : α} (h : l.drop k = [x]) : k + 1 = l.length := by
  obtain ⟨h1, h2, h3⟩ := drop_one h
  have := congrArg List.length h2
  simp at this
  omega
theorem _root_.Go.Kx.Blk.facts1 {w : World} {g : Nat} {t : TypeId} {a : Value} (h : Blk w g t #[a]) : w.cell? ⟨g, 0, none⟩ = some a ∧ g < w.heap.size := ⟨h.cell 0, h.lt⟩
theorem wd_parts {l : List UInt8} {p : Nat} : ∃ (t : Tok) (q e : Nat), wdV p (wordW l) = .tuple #[.agg #[.int .i64 t.kind, .string ⟨t.s.toArray⟩, .int .i64 t.n, .int .i64 p], .int .i64 q, .int .i64 e] ∧
    ((wordW l = .bad e ∧ e ≠ 0 ∧ t = ⟨0, [], 0⟩) ∨ (∃ n, wordW l = .ok t n ∧ e = 0 ∧ q = p + n)) := by
  cases h : wordW l with
  | bad e =>
    refine ⟨⟨0, [], 0⟩, p, e, rfl, .inl ⟨rfl, ?_, rfl⟩⟩
    rintro rfl
    cases l with
    | nil => cases h
    | cons c r =>
      simp only [wordW] at h
      split at h
      · unfold nameW at h; split at h
        · split at h <;> cases h
        · cases h
      · split at h
        · unfold nameW at h; split at h
          · split at h <;> cases h
          · cases h
        · split at h
          · unfold numW at h; split at h
            · cases h
            · split at h <;> cases h
          · unfold markW at h; split at h <;> cases h
  | ok t n => exact ⟨t, p + n, 0, rfl, .inr ⟨n, rfl, rfl, rfl⟩⟩
set_option maxHeartbeats 4000000 in
theorem all_seqs {w : World} {s : ByteArray} {cb : Nat} (hs : s.size ≤ 100000000) (hT : Tabs w) (hc : Blk w cb 9 #[.string s]) : SeqsP Tryd.prog 17 #[.pointer (some ⟨cb, 0, none⟩)] (outs s).length (fun k v _ => (outs s)[k]? = some v) [cb, 0, 3] w := by
  intro l J Jx W S hK hl hlW hS hpr hJ hY h0
  have hcb := hpr cb (by simp)
  have hbx := hK.blk hc
  have hTW : Tabs W := ⟨by
    obtain ⟨t, fr, h⟩ := hT.marks
    exact ⟨t, fr, hK.block 0 _ h (.inr rfl)⟩, by
    obtain ⟨tp, p, t, fr, h⟩ := hT.range
    exact ⟨tp, p, t, fr, hK.block 3 _ h (.inr rfl)⟩⟩
  have hN0 := hpr 0 (by simp)
  have hN3 := hpr 3 (by simp)
  have lt0 : 0 < w.heap.size ∧ 3 < w.heap.size := ⟨by
    obtain ⟨t, fr, h⟩ := hT.marks
    exact (Array.getElem?_eq_some_iff.1 h).1, by
    obtain ⟨tp, p, t, fr, h⟩ := hT.range
    exact (Array.getElem?_eq_some_iff.1 h).1⟩
  have hsW := hK.size
  have HBX := Lib.hid hbx
  have HT := Lib.hid hTW
  have HJ := Lib.hid hJ
  have HY := Lib.hid hY
  have H0 := Lib.hid h0
  have HCL := Lib.hid (show cb ≠ l from by have := hc.lt; omega)
  clear hK hT hc hTW hJ hY h0 hpr
  obtain ⟨c0, cl⟩ := hbx.facts1
  clear hbx
  by_cases hbig : 16384 < s.size
  · have HV := Lib.hid (show outs s = [badT 0 9] by unfold outs; rw [if_pos hbig])
    have e1 : (16384 : Int) < (s.size : Int) := by omega
    obtain ⟨fn, tmps, assign, body, hy, hR⟩ := HY.out 0 S W #[.agg #[.int .i64 0, .string ⟨#[]⟩, .int .i64 0, .int .i64 0], .int .i64 9] (by rw [HV.out]; decide) (by rw [HV.out]; rfl) H0.out
    have HR := Lib.hid hR
    have HV2 := Lib.hid (show (outs s).length = 0 + 1 by rw [HV.out]; rfl)
    clear hR
    show Calls Tryd.prog 17 #[.func (.yield l) #[] #[], .pointer (some ⟨cb, 0, none⟩)] W _
    rw [HV2.out]
    go_enter Tryd.func17, Tryd.ntmps17
    refine (wpIn_wide (n := 9)).1 ?_
    gi_wp2_with (fail)
    refine HR.out.mono ?_
    rintro e W3 (⟨rfl, ⟨S3, hJ3, hS3⟩, ho3⟩ | ⟨rfl, hJx⟩)
    · gi_wp2_with (fail)
      refine bodyPost_ret (results_none rfl _ _ _) rfl ?_
      exact ⟨⟨_, rfl⟩, .inl ⟨S3, hJ3⟩⟩
    · gi_wp2_with (fail)
      refine bodyPost_ret (results_none rfl _ _ _) rfl ?_
      exact ⟨⟨_, rfl⟩, .inr hJx⟩
  · have HV := Lib.hid (show outs s = vsOf (scanL s.data.toList 0) by unfold outs; rw [if_neg hbig])
    have e1 : ¬ (16384 : Int) < (s.size : Int) := by omega
    show Calls Tryd.prog 17 #[.func (.yield l) #[] #[], .pointer (some ⟨cb, 0, none⟩)] W _
    go_enter Tryd.func17, Tryd.ntmps17
    go_wp2_with (fail)
    refine (wpIn_wide (n := 9)).1 ?_
    gi_loopw [3] (fun i wr => ∃ a k : Nat, ∃ S', i = .int .i64 a ∧ a ≤ s.size ∧ Hid ((outs s).drop k = vsOf (scanL (s.data.toList.drop a) a)) ∧ J k S' wr ∧ (∀ b, b ∈ S' → (b ∈ S ∨ W.heap.size ≤ b) ∧ b < wr.heap.size) ∧ Blk wr cb 9 #[.string s] ∧ Tabs wr ∧ W.heap.size ≤ wr.heap.size) (fun i _ => s.size - (intOf i).toNat)
    case atStart => exact ⟨0, 0, S, rfl, Nat.zero_le _, Lib.hid (by rw [HV.out]; rfl), H0.out, fun b h => ⟨.inl h, hS b h⟩, HBX.out, HT.out, Nat.le_refl _⟩
    case round =>
      clear c0 cl
      obtain ⟨wq, rfl⟩ : ∃ wq : World, wq = wr := ⟨_, rfl⟩
      obtain ⟨a, k, S', rfl, ha, HD, hJk, hSk, hbk, hTk, hszr⟩ := hrel
      have HJk := Lib.hid hJk
      have HSk := Lib.hid hSk
      have HBk := Lib.hid hbk
      have HTk := Lib.hid hTk
      clear hJk hSk hbk hTk
      obtain ⟨c0, cl⟩ := HBk.out.facts1
      have hsk := sk_le false (s.data.toList.drop a)
      obtain ⟨p, hp⟩ : ∃ p, a + sk false (s.data.toList.drop a) = p := ⟨_, rfl⟩
      have hps : p ≤ s.size := by rw [← hp]; simp at hsk; omega
      have HP := Lib.hid hp
      have HC1 := Lib.hid (fun w => skip_any s (by omega) a ha w)
      rw [hp] at HC1
      have HC2 := Lib.hid (fun w (h : Tabs w) => word_any s hs p hps h)
      obtain ⟨t, q, e, hwd, hwc⟩ := wd_parts (l := s.data.toList.drop p) (p := p)
      rw [hwd] at HC2
      have HWC := Lib.hid hwc
      clear hp hsk hwd hwc
      gi_wp2
      refine (wpIn_wide (n := 9)).2 ?_
      refine wp_region_factsD 10 [7, 8] [] (fr := ?frg) (tl := ?tlg) (fun i v wv => match i with
        | 0 => v = .string s
        | 1 => v = .string s
        | 2 => v = .int .i64 (a : Nat)
        | 3 => v = .int .i64 (p : Nat)
        | 4 => v = .tuple #[.agg #[.int .i64 t.kind, .string ⟨t.s.toArray⟩, .int .i64 t.n, .int .i64 p], .int .i64 q, .int .i64 e]
        | 5 => v = .tuple #[.agg #[.int .i64 t.kind, .string ⟨t.s.toArray⟩, .int .i64 t.n, .int .i64 p], .int .i64 q, .int .i64 e]
        | 6 => v = .agg #[.int .i64 t.kind, .string ⟨t.s.toArray⟩, .int .i64 t.n, .int .i64 p]
        | 7 => v = .int .i64 (q : Nat)
        | 8 => v = .int .i64 (e : Nat)
        | 9 => ∃ g, v = .pointer (some ⟨g, 0, none⟩) ∧ wq.heap.size ≤ g ∧ Blk wv g 28 #[.int .i64 0, .string ⟨#[]⟩, .int .i64 0, .int .i64 0]
        | _ => True) (by kernel_rfl) (by kernel_rfl) (by kernel_rfl) (by kernel_rfl) (by kernel_rfl) (by kernel_rfl) (by decide) (fun _ _ _ _ _ h => h) ?htlg ?hfrg ?stabg ?detsg ?stepsg ?doneg
      case htlg => simp only [List.drop_succ_cons, List.drop_zero]; rfl
      case hfrg => intro vals; simp only [putAll, dstAt, Act.put, List.getElem?_toArray, List.getElem?_cons_zero, List.getElem?_cons_succ, Option.bind_some, List.setIfInBounds_toArray, List.set_cons_zero, List.set_cons_succ]; rfl
      case stabg =>
        intro i v wa wb h
        try dsimp only
        split <;> first | exact id | (rintro ⟨z, h1, h2, h3⟩; exact ⟨z, h1, h2, h.blk h3 (by simp)⟩)
      case detsg =>
        refine ⟨?_, ?_, trivial⟩
        · intro o ho vals wr hR hp
          cases ho
          obtain ⟨p5, -, -⟩ := hp
          replace p5 := p5 rfl
          dsimp only at p5
          dsimp only
          rw [p5]
          refine ⟨.int .i64 (q : Nat), Or.inl ⟨by rfl, fun wz => ?_⟩, rfl⟩
          go_simp
        · intro o ho vals wr hR hp
          cases ho
          obtain ⟨p5, -, -⟩ := hp
          replace p5 := p5 rfl
          dsimp only at p5
          dsimp only
          rw [p5]
          refine ⟨.int .i64 (e : Nat), Or.inl ⟨by rfl, fun wz => ?_⟩, rfl⟩
          go_simp
      case stepsg =>
        refine ⟨?_, ?_, ?_, ?_, ?_, ?_, ?_, ?_, ?_, ?_, trivial⟩
        · refine .inr ?_
          intro vals wr hR hp K hK
          dsimp only at hK ⊢
          clear hp
          unfold RunsOp
          have tg := hR.blk (Blk.drew HBk.out) (by simp)
          obtain ⟨k0, kl⟩ := tg.facts1
          clear tg
          go_simp
          exact hK.out _ _ ⟨_, rfl, Only.refl _ _, rfl⟩
        · refine .inr ?_
          intro vals wr hR hp K hK
          dsimp only at hK ⊢
          clear hp
          unfold RunsOp
          have tg := hR.blk (Blk.drew HBk.out) (by simp)
          obtain ⟨k0, kl⟩ := tg.facts1
          clear tg
          go_simp
          exact hK.out _ _ ⟨_, rfl, Only.refl _ _, rfl⟩
        · refine .inr ?_
          intro vals wr hR hp K hK
          dsimp only at hK ⊢
          clear hp
          unfold RunsOp
          go_simp
          exact hK.out _ _ ⟨_, rfl, Only.refl _ _, rfl⟩
        · refine .inr ?_
          intro vals wr hR hp K hK
          dsimp only at hK ⊢
          obtain ⟨p1, p2, -⟩ := hp
          replace p1 := p1 rfl
          replace p2 := p2 rfl
          dsimp only at p1 p2
          rw [p1, p2] at hK ⊢
          clear p1 p2
          unfold RunsOp
          go_simp
          refine (HC1.out _).mono ?_
          rintro e' w2 ⟨rfl, o2⟩
          exact hK.out _ _ ⟨_, rfl, by rw [o2]; exact Only.refl _ _, rfl⟩
        · refine .inr ?_
          intro vals wr hR hp K hK
          dsimp only at hK ⊢
          obtain ⟨p0, p3, -, -⟩ := hp
          replace p0 := p0 rfl
          replace p3 := p3 rfl
          dsimp only at p0 p3
          rw [p0, p3] at hK ⊢
          clear p0 p3
          unfold RunsOp
          go_simp
          refine (HC2.out _ (HTk.out.keep (((Only.refl [] wq).drew).trans hR (by simp)))).mono ?_
          rintro e' w2 ⟨rfl, o2⟩
          exact hK.out _ _ ⟨_, rfl, o2, rfl⟩
        · refine .inr ?_
          intro vals wr hR hp K hK
          dsimp only at hK ⊢
          obtain ⟨p4, -⟩ := hp
          replace p4 := p4 rfl
          dsimp only at p4
          rw [p4] at hK ⊢
          clear p4
          unfold RunsOp
          go_simp
          exact hK.out _ _ ⟨_, rfl, Only.refl _ _, rfl⟩
        · refine .inr ?_
          intro vals wr hR hp K hK
          dsimp only at hK ⊢
          obtain ⟨p5, -⟩ := hp
          replace p5 := p5 rfl
          dsimp only at p5
          rw [p5] at hK ⊢
          clear p5
          unfold RunsOp
          go_simp
          exact hK.out _ _ ⟨_, rfl, Only.refl _ _, rfl⟩
        · exact .inl (by decide)
        · exact .inl (by decide)
        · refine .inr ?_
          intro vals wr hR hp K hK
          dsimp only at hK ⊢
          clear hp
          unfold RunsOp
          have hz := Blk.new wr 28 #[.int .i64 0, .string ⟨#[]⟩, .int .i64 0, .int .i64 0]
          have hsz := hR.size
          go_simp
          exact hK.out _ _ ⟨_, rfl, (Only.refl [] wr).alloc _, _, rfl, hsz, hz⟩
      case doneg =>
        intro vals wd hR hF
        have f0 : vals 0 = .string s := hF 0 (by decide)
        have f1 : vals 1 = .string s := hF 1 (by decide)
        have f2 : vals 2 = .int .i64 (a : Nat) := hF 2 (by decide)
        have f3 : (vals 3) = .int .i64 (p : Nat) := hF 3 (by decide)
        have f4 : (vals 4) = .tuple #[.agg #[.int .i64 t.kind, .string ⟨t.s.toArray⟩, .int .i64 t.n, .int .i64 p], .int .i64 q, .int .i64 e] := hF 4 (by decide)
        have f5 : vals 5 = .tuple #[.agg #[.int .i64 t.kind, .string ⟨t.s.toArray⟩, .int .i64 t.n, .int .i64 p], .int .i64 q, .int .i64 e] := hF 5 (by decide)
        have f6 : vals 6 = .agg #[.int .i64 t.kind, .string ⟨t.s.toArray⟩, .int .i64 t.n, .int .i64 p] := hF 6 (by decide)
        have f7 : vals 7 = .int .i64 (q : Nat) := hF 7 (by decide)
        have f8 : vals 8 = .int .i64 (e : Nat) := hF 8 (by decide)
        have f9 : ∃ g, (vals 9) = .pointer (some ⟨g, 0, none⟩) ∧ wq.heap.size ≤ g ∧ Blk wd g 28 #[.int .i64 0, .string ⟨#[]⟩, .int .i64 0, .int .i64 0] := hF 9 (by decide)
        rw [f0, f1, f2, f5, f6, f7, f8]
        clear f0 f1 f2 f5 f6 f7 f8
        rw [f3, f4]
        clear f3 f4
        obtain ⟨g, f9, hgs, hgb⟩ := f9
        rw [f9]
        clear f9
        have HOd := Lib.hid ((Only.refl [] wq).drew.trans hR (by simp))
        have HG := Lib.hid hgb
        obtain ⟨b0, b1, b2, b3, bl⟩ := hgb.facts4
        have fz0 := hgb.frozen 0
        have fz1 := hgb.frozen 1
        have fz2 := hgb.frozen 2
        have fz3 := hgb.frozen 3
        clear hR hF hgb
        go_wp2_with (fail)
        obtain ⟨W5, hW5⟩ : ∃ W5, ((((wd.setCell ⟨g, 0, none⟩ (.int .i64 t.kind)).setCell ⟨g, 1, none⟩ (.string ⟨t.s.toArray⟩)).setCell ⟨g, 2, none⟩ (.int .i64 t.n)).setCell ⟨g, 3, none⟩ (.int .i64 p)) = W5 := ⟨_, rfl⟩
        have hg5 : Blk W5 g 28 #[.int .i64 t.kind, .string ⟨t.s.toArray⟩, .int .i64 t.n, .int .i64 p] := by rw [← hW5]; exact (((HG.out.set_ 0 _).set_ 1 _).set_ 2 _).set_ 3 _
        have ho5 : Only [] wq W5 := by rw [← hW5]; exact only_four HOd.out hgs _ _ _ _
        rw [hW5]
        clear hW5 b0 b1 b2 b3 bl fz0 fz1 fz2 fz3 c0 cl
        obtain ⟨b0, b1, b2, b3, bl⟩ := hg5.facts4
        have HG5 := Lib.hid hg5
        have HO5 := Lib.hid ho5
        have HS5 := Lib.hid ho5.size
        clear HG hg5 ho5
        have hsp : s.data.toList.drop p = (s.data.toList.drop a).drop (sk false (s.data.toList.drop a)) := by rw [List.drop_drop, HP.out]
        rcases HWC.out with ⟨hw, he, ht⟩ | ⟨n, hw, he, hq⟩
        · rw [hsp] at hw
          have hd := vs_bad (p := a) hw
          rw [HP.out, ← HD.out] at hd
          obtain ⟨hv, -, hkl⟩ := drop_one hd
          have HLA := Lib.hid (drop_last hd)
          subst ht
          have hEq : ((e : Int) == 0) = false := by rw [beq_eq_false_iff_ne]; omega
          have hEn : ((e : Int) != 0) = true := by simp; omega
          clear hw he hd hsp HWC HC1 HC2
          obtain ⟨fn, tmps, assign, body, hy, hR⟩ := HY.out k S' W5 (badT p e) hkl hv (HJ.out _ _ _ _ HJk.out HO5.out)
          have HR := Lib.hid hR
          unfold badT badC at hy
          clear hR hv
          gi_wp2_with (fail)
          refine HR.out.mono ?_
          rintro e' W3 (⟨rfl, ⟨S3, hJ3, hS3⟩, ho3⟩ | ⟨rfl, hJx⟩)
          · have HJ3 := Lib.hid hJ3
            clear hJ3 hS3 ho3
            gi_wp2_with (fail)
            refine bodyPost_ret (results_none rfl _ _ _) rfl ?_
            exact ⟨⟨_, rfl⟩, .inl ⟨S3, by rw [← HLA.out]; exact HJ3.out⟩⟩
          · have HJ3 := Lib.hid hJx
            clear hJx
            gi_wp2_with (fail)
            refine bodyPost_ret (results_none rfl _ _ _) rfl ?_
            exact ⟨⟨_, rfl⟩, .inr HJ3.out⟩
        · subst he
          subst hq
          rw [hsp] at hw
          have hgS : g ∉ l :: S' := fun h => by
            rcases List.mem_cons.1 h with h | h
            · omega
            · have := (HSk.out _ h).2; omega
          have HGS := Lib.hid hgS
          clear hgS
          by_cases h4 : t.kind = 4
          · have hd := vs_eof (p := a) hw h4
            rw [HP.out, ← HD.out] at hd
            obtain ⟨hv, -, hkl⟩ := drop_one hd
            have HLA := Lib.hid (drop_last hd)
            have e4 : (((t.kind : Nat) : Int) == 4) = true := by rw [beq_iff_eq]; omega
            have e5 : (t.kind == 4) = true := by rw [beq_iff_eq]; omega
            clear hw hd hsp HWC HC1 HC2 h4
            obtain ⟨fn, tmps, assign, body, hy, hR⟩ := HY.out k S' W5 #[.agg #[.int .i64 t.kind, .string ⟨t.s.toArray⟩, .int .i64 t.n, .int .i64 p], .int .i64 0] hkl hv (HJ.out _ _ _ _ HJk.out HO5.out)
            have HR := Lib.hid hR
            clear hR hv
            gi_wp2_with (fail)
            refine HR.out.mono ?_
            rintro e' W3 (⟨rfl, ⟨S3, hJ3, hS3⟩, ho3⟩ | ⟨rfl, hJx⟩)
            · have HJ3 := Lib.hid hJ3
              obtain ⟨c0, c1, c2, c3, cl⟩ := (ho3.blk HG5.out HGS.out).facts4
              clear hJ3 hS3 ho3 b0 b1 b2 b3 bl
              gi_wp2_with (fail)
              refine bodyPost_ret (results_none rfl _ _ _) rfl ?_
              exact ⟨⟨_, rfl⟩, .inl ⟨S3, by rw [← HLA.out]; exact HJ3.out⟩⟩
            · have HJ3 := Lib.hid hJx
              clear hJx
              gi_wp2_with (fail)
              refine bodyPost_ret (results_none rfl _ _ _) rfl ?_
              exact ⟨⟨_, rfl⟩, .inr HJ3.out⟩
          · have hd := vs_more (p := a) hw h4
            have hwl := word_len hw
            have hn0 := hwl.2.2.1 h4
            have hn1 : p + n ≤ s.size := by
              have h1 := hwl.1
              rw [← hsp] at h1
              simp at h1
              omega
            have hx1 : ∀ m, m + (sk false (s.data.toList.drop m) + n) = m + sk false (s.data.toList.drop m) + n := fun m => by omega
            rw [← HD.out, List.drop_drop, hx1, HP.out] at hd
            obtain ⟨hv, hrest, hkl⟩ := drop_one hd
            have HRS := Lib.hid hrest
            have hap : a ≤ p := by have := HP.out; omega
            have e4 : (((t.kind : Nat) : Int) == 4) = false := by rw [beq_eq_false_iff_ne]; omega
            have e5 : (t.kind == 4) = false := by rw [beq_eq_false_iff_ne]; omega
            clear hw hd hsp HWC HC1 HC2 h4 hwl hrest
            obtain ⟨fn, tmps, assign, body, hy, hR⟩ := HY.out k S' W5 #[.agg #[.int .i64 t.kind, .string ⟨t.s.toArray⟩, .int .i64 t.n, .int .i64 p], .int .i64 0] hkl hv (HJ.out _ _ _ _ HJk.out HO5.out)
            have HR := Lib.hid hR
            clear hR hv
            gi_wp2_with (fail)
            refine HR.out.mono ?_
            rintro e' W3 (⟨rfl, ⟨S3, hJ3, hS3⟩, ho3⟩ | ⟨rfl, hJx⟩)
            · have HJ3 := Lib.hid hJ3
              have HS3 := Lib.hid (show ∀ b, b ∈ S3 → (b ∈ S ∨ W.heap.size ≤ b) ∧ b < W3.heap.size from fun b hb => ⟨by
                rcases (hS3 b hb).1 with h | h
                · exact (HSk.out _ h).1
                · right; have := HS5.out; omega, (hS3 b hb).2⟩)
              have HO3 := Lib.hid (show Only (l :: S') wq W3 from (HO5.out.mono (fun _ h => by simp at h)).trans ho3 (fun b h => .inl h))
              have HCB := Lib.hid (show cb ∉ l :: S' from fun h => by
                rcases List.mem_cons.1 h with h | h
                · exact HCL.out h
                · rcases (HSk.out _ h).1 with h | h
                  · exact hcb h
                  · have := HBX.out.lt; omega)
              have HZ0 := Lib.hid (show 0 ∉ l :: S' from fun h => by
                rcases List.mem_cons.1 h with h | h
                · omega
                · rcases (HSk.out _ h).1 with h | h
                  · exact hN0 h
                  · omega)
              have HZ3 := Lib.hid (show 3 ∉ l :: S' from fun h => by
                rcases List.mem_cons.1 h with h | h
                · omega
                · rcases (HSk.out _ h).1 with h | h
                  · exact hN3 h
                  · omega)
              obtain ⟨c0, c1, c2, c3, cl⟩ := (ho3.blk HG5.out HGS.out).facts4
              clear hJ3 ho3 b0 b1 b2 b3 bl
              gi_wp2_with (fail)
              go_roundw
              case rel => exact ⟨p + n, k + 1, S3, by go_num, hn1, HRS, HJ3.out, HS3.out, HO3.out.blk HBk.out HCB.out, HTk.out.only HO3.out HZ0.out HZ3.out, by have := HO3.out.size; omega⟩
              case measure => simp [intOf]; omega
            · have HJ3 := Lib.hid hJx
              clear hJx
              gi_wp2_with (fail)
              refine bodyPost_ret (results_none rfl _ _ _) rfl ?_
              exact ⟨⟨_, rfl⟩, .inr HJ3.out⟩
end Go.Proofs.YtghofiehkdhbeaaDoor
