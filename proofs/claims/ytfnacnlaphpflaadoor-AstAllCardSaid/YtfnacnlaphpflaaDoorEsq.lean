/- Exprs as an iterator. -/
import Derived.Test.YtfnacnlaphpflaaDoorExs
import Derived.Test.YtfnacnlaphpflaaDoorRangeP
import Derived.Test.YtfnacnlaphpflaaDoorFactsR
namespace Go.Proofs.YtfnacnlaphpflaaDoor
open Go.RowKit Go.Kx
attribute [local go_sem] Oper.semAt_some
set_option maxRecDepth 100000
theorem Cp.low {B B' : Nat} {w : World} {e e' : Ex} (h : Cp B w e e') (hB : B' ≤ B) : Cp B' w e e' := ⟨h.tr, h.lies, fun b hb => Nat.le_trans hB (h.off b hb), h.top⟩
/-- the k-th: its place, and a copy -/
def RS (L : List Sp) (k : Nat) (v : Array Value) (W : World) : Prop := ∃ (s : Sp) (e' : Ex), L[k]? = some s ∧ v = #[.agg #[.int .i64 s.m, .int .i64 s.p, .int .i64 s.i, .int .i64 0], e'.val] ∧ e'.tr = s.e.tr ∧ Lies W e'
theorem _root_.Go.Kx.Blk.facts9 {w : World} {g : Nat} {t : TypeId} {a0 a1 a2 a3 a4 a5 a6 a7 a8 : Value} (h : Blk w g t #[a0, a1, a2, a3, a4, a5, a6, a7, a8]) : w.cell? ⟨g, 0, none⟩ = some a0 ∧ w.cell? ⟨g, 1, none⟩ = some a1 ∧ w.cell? ⟨g, 2, none⟩ = some a2 ∧ w.cell? ⟨g, 3, none⟩ = some a3 ∧ w.cell? ⟨g, 4, none⟩ = some a4 ∧ w.cell? ⟨g, 5, none⟩ = some a5 ∧ w.cell? ⟨g, 6, none⟩ = some a6 ∧ w.cell? ⟨g, 7, none⟩ = some a7 ∧ w.cell? ⟨g, 8, none⟩ = some a8 ∧ g < w.heap.size := by
  refine ⟨?_, ?_, ?_, ?_, ?_, ?_, ?_, ?_, ?_, h.lt⟩ <;> (rw [h.cell]; rfl)
/-- an entry of the row, read -/
theorem SpR.read {B : Nat} {w W : World} {A : Option Addr} {c : Nat} {L L' : List Sp} (h : SpR B w A c L L') (hK : KeepC w.heap.size w W) {k sm sp si yc : Nat} {yo yn : Int} {ys yu : ByteArray} {yA : Option Addr} {yl : List Ex} (hk : L'[k]? = some ⟨sm, sp, si, .mk yo yn ys yu yA yc yl⟩) :
    ∃ g, A = some ⟨g, 0, none⟩ ∧ g < w.heap.size ∧ W.cell? ⟨g, k * 9, none⟩ = some (.int .i64 sm) ∧ W.cell? ⟨g, k * 9 + 1, none⟩ = some (.int .i64 sp) ∧ W.cell? ⟨g, k * 9 + 2, none⟩ = some (.int .i64 si) ∧ W.cell? ⟨g, k * 9 + 3, none⟩ = some (.int .i64 0) ∧ W.cell? ⟨g, k * 9 + 4, none⟩ = some (.int .i64 yo) ∧ W.cell? ⟨g, k * 9 + 5, none⟩ = some (.int .i64 yn) ∧ W.cell? ⟨g, k * 9 + 6, none⟩ = some (.string ys) ∧ W.cell? ⟨g, k * 9 + 7, none⟩ = some (.string yu) ∧ W.cell? ⟨g, k * 9 + 8, none⟩ = some (.slice yA (List.length yl) yc) := by
  have hlt := (List.getElem?_eq_some_iff.1 hk).1
  obtain ⟨g, hA, hg, hc⟩ := own_cellG h.own (by omega)
  refine ⟨g, hA, hg, ?_, ?_, ?_, ?_, ?_, ?_, ?_, ?_, ?_⟩
  · exact hK.cell (hc _ _ (flatG_at Sp.cs spcs_len L' k 0 _ _ hk rfl))
  · exact hK.cell (hc _ _ (flatG_at Sp.cs spcs_len L' k 1 _ _ hk rfl))
  · exact hK.cell (hc _ _ (flatG_at Sp.cs spcs_len L' k 2 _ _ hk rfl))
  · exact hK.cell (hc _ _ (flatG_at Sp.cs spcs_len L' k 3 _ _ hk rfl))
  · exact hK.cell (hc _ _ (flatG_at Sp.cs spcs_len L' k 4 _ _ hk rfl))
  · exact hK.cell (hc _ _ (flatG_at Sp.cs spcs_len L' k 5 _ _ hk rfl))
  · exact hK.cell (hc _ _ (flatG_at Sp.cs spcs_len L' k 6 _ _ hk rfl))
  · exact hK.cell (hc _ _ (flatG_at Sp.cs spcs_len L' k 7 _ _ hk rfl))
  · exact hK.cell (hc _ _ (flatG_at Sp.cs spcs_len L' k 8 _ _ hk rfl))
set_option maxHeartbeats 8000000 in
theorem exprs_seqs {B cb c j : Nat} {w : World} {A : Option Addr} {L L' : List Sp} (hS : SpR B w A c L L') (hj : L'.length = j) (hb : Blk w cb 83 #[.slice A j c]) (hsm : ∀ s ∈ L', s.e.sm = true) (hj2 : j ≤ 1048576) :
    SeqsP Tryd.prog 52 #[.pointer (some ⟨cb, 0, none⟩)] j (RS L') (cb :: (A.toList.map (·.block) ++ L'.flatMap fun s => s.e.blks)) w := by
  intro l J Jx W S hK hl hlW hS0 hpr hJ hY h0
  have hbW := hK.blk hb
  have hcl := hb.lt
  have HRD := Lib.hid (And.intro hS hK)
  have HLI := Lib.hid (fun s (hs : s ∈ L') => (hS.lies s hs).keepC hK)
  have HAB := Lib.hid (show ∀ g, A = some ⟨g, 0, none⟩ → g ∉ l :: S from fun g hg hm => by
    rcases List.mem_cons.1 hm with h | h
    · have := (hS.low _ hg).2; simp at this; omega
    · exact hpr g (List.mem_cons_of_mem _ (List.mem_append.2 (.inl (by rw [hg]; simp)))) h)
  have HBK := Lib.hid (show ∀ s ∈ L', ∀ b ∈ s.e.blks, b ∉ l :: S from fun s hs b hb hm => by
    rcases List.mem_cons.1 hm with h | h
    · have := (hS.off s hs b hb).2; omega
    · exact hpr b (List.mem_cons_of_mem _ (List.mem_append.2 (.inr (List.mem_flatMap.2 ⟨s, hs, hb⟩)))) h)
  have HJ := Lib.hid hJ
  have HY := Lib.hid hY
  have HS0 := Lib.hid hS0
  have HSM := Lib.hid hsm
  have H0 := Lib.hid h0
  have HN := Lib.hid hj
  have HB := Lib.hid hbW
  have HW := Lib.hid hK.size
  have HCB := Lib.hid (show cb ∉ l :: S from fun hm => by
    rcases List.mem_cons.1 hm with h | h
    · omega
    · exact hpr cb (by simp) h)
  obtain ⟨b0, bl⟩ := hbW.facts1
  clear hS hb hsm hj hK hl hS0 hpr hJ hY h0 hbW hcl
  show Calls Tryd.prog 52 #[.func (.yield l) #[] #[], .pointer (some ⟨cb, 0, none⟩)] W _
  go_enter Tryd.func52, Tryd.ntmps52
  refine (wpIn_wide (n := 9)).1 ?_
  gi_wp2_with (fail)
  clear b0 bl
  gi_loopw [7] (fun i wr => ∃ (k : Nat) (S' : List Nat), i = .int .i64 k ∧ k ≤ j ∧ J k S' wr ∧ (∀ b ∈ S', (b ∈ S ∨ W.heap.size ≤ b) ∧ b < wr.heap.size) ∧ Only (l :: S) W wr) (fun i _ => j - (intOf i).toNat)
  case atStart => exact ⟨0, S, rfl, Nat.zero_le _, H0.out, fun b hb => ⟨.inl hb, HS0.out b hb⟩, Only.refl _ _⟩
  case round =>
    obtain ⟨k, S2, rfl, hk, hJr, hSr, hO⟩ := hrel
    have HOr := Lib.hid hO
    have HJR := Lib.hid hJr
    have HSR := Lib.hid hSr
    clear hO hJr hSr
    by_cases hlt : k < j
    · obtain ⟨s, he⟩ : ∃ s, L'[k]? = some s := ⟨_, List.getElem?_eq_getElem (by rw [HN.out]; exact hlt)⟩
      have hmem : s ∈ L' := List.mem_of_getElem? he
      have hLs := (HLI.out s hmem).only HOr.out (HBK.out s hmem)
      have hcp := copy7 hLs (HSM.out s hmem)
      obtain ⟨sm, sp, si, yo, yn, ys, yu, yA, yc, yl⟩ := s
      obtain ⟨g, hA, hg, d0, d1, d2, d3, d4, d5, d6, d7, d8⟩ := HRD.out.1.read HRD.out.2 he
      subst hA
      have hgl : g < W.heap.size := Nat.lt_of_lt_of_le hg HW.out
      have hgn := HAB.out g rfl
      have c0 := (HOr.out.cell (p := ⟨g, k * 9, none⟩) hgl hgn).trans d0
      have c1 := (HOr.out.cell (p := ⟨g, k * 9 + 1, none⟩) hgl hgn).trans d1
      have c2 := (HOr.out.cell (p := ⟨g, k * 9 + 2, none⟩) hgl hgn).trans d2
      have c3 := (HOr.out.cell (p := ⟨g, k * 9 + 3, none⟩) hgl hgn).trans d3
      have c4 := (HOr.out.cell (p := ⟨g, k * 9 + 4, none⟩) hgl hgn).trans d4
      have c5 := (HOr.out.cell (p := ⟨g, k * 9 + 5, none⟩) hgl hgn).trans d5
      have c6 := (HOr.out.cell (p := ⟨g, k * 9 + 6, none⟩) hgl hgn).trans d6
      have c7 := (HOr.out.cell (p := ⟨g, k * 9 + 7, none⟩) hgl hgn).trans d7
      have c8 := (HOr.out.cell (p := ⟨g, k * 9 + 8, none⟩) hgl hgn).trans d8
      have hgr := Nat.lt_of_lt_of_le hgl HOr.out.size
      have HLK := Lib.hid he
      have HV := Lib.hid (Blk.new wr 87 #[.int .i64 sm, .int .i64 sp, .int .i64 si, .int .i64 0, .int .i64 yo, .int .i64 yn, .string ys, .string yu, .slice yA yl.length yc])
      have HOA := Lib.hid (show Only [] wr (wr.alloc (.cells #[.int .i64 sm, .int .i64 sp, .int .i64 si, .int .i64 0, .int .i64 yo, .int .i64 yn, .string ys, .string yu, .slice yA yl.length yc] 87)) from (Only.refl _ _).alloc _)
      have HC0 := Lib.hid (show ∀ X, Only [] wr X → Calls Tryd.prog 33 #[.agg #[.int .i64 yo, .int .i64 yn, .string ys, .string yu, .slice yA yl.length yc]] X fun r w' => ∃ zo zn zs zu zA zc zl, r = .returned (.agg #[.int .i64 zo, .int .i64 zn, .string zs, .string zu, .slice zA (List.length zl) zc]) ∧ Cp X.heap.size w' (Ex.mk yo yn ys yu yA yc yl) (.mk zo zn zs zu zA zc zl) ∧ Only [] X w' from hcp)
      have hki : (0 : Int) ≤ (k : Int) := by omega
      have hki2 : (k : Int) < (j : Int) := by omega
      clear he hmem hLs hcp hgl hgn hg d0 d1 d2 d3 d4 d5 d6 d7 d8
      gi_wp2_with (fail)
      obtain ⟨wr0, hwr0⟩ : ∃ X : World, X = wr := ⟨_, rfl⟩
      subst hwr0
      obtain ⟨wq, hwq⟩ : ∃ X : World, wr0.alloc (.cells #[.int .i64 sm, .int .i64 sp, .int .i64 si, .int .i64 0, .int .i64 yo, .int .i64 yn, .string ys, .string yu, .slice yA yl.length yc] 87) = X := ⟨_, rfl⟩
      rw [hwq] at HV HOA ⊢
      clear hwq hgr c0 c1 c2 c3 c4 c5 c6 c7 c8
      have HC := Lib.hid (fun X (o : Only [] wq X) => HC0.out X (HOA.out.trans o (by simp)))
      refine wpIn_region_relR 6 (Only []) (fr := ?fry) (tl := ?tly) (fun iq v wv => match iq with
        | 0 => v = .func (.yield l) #[] #[]
        | 1 => v = .pointer (some ⟨wr0.heap.size, 0, none⟩)
        | 2 => v = .agg #[.int .i64 sm, .int .i64 sp, .int .i64 si, .int .i64 0]
        | 3 => v = .pointer (some ⟨wr0.heap.size, 4, none⟩)
        | 4 => v = .agg #[.int .i64 yo, .int .i64 yn, .string ys, .string yu, .slice yA yl.length yc]
        | 5 => ∃ zo zn zs zu zA zc zl, v = .agg #[.int .i64 zo, .int .i64 zn, .string zs, .string zu, .slice zA (List.length zl) zc] ∧ Cp wq.heap.size wv (.mk yo yn ys yu yA yc yl) (.mk zo zn zs zu zA zc zl)
        | _ => True) (.inl rfl) (by kernel_rfl) (by kernel_rfl) (by kernel_rfl) (by kernel_rfl) (by kernel_rfl) (by kernel_rfl) (by decide) ?htly ?hfry (Only.refl _ _) (fun _ _ _ h k => h.trans k (fun _ hx => .inl hx)) ?staby ?stepsy ?doney
      case htly => simp only [List.drop_succ_cons, List.drop_zero]; rfl
      case hfry => intro vals; simp only [putAll, dstAt, Act.put, List.getElem?_toArray, List.getElem?_cons_zero, List.getElem?_cons_succ, Option.bind_some, List.setIfInBounds_toArray, List.set_cons_zero, List.set_cons_succ]; rfl
      case staby =>
        intro i v wa wb h
        try dsimp only
        split <;> first | exact id | (rintro ⟨zo, zn, zs, zu, zA, zc, zl, h1, h2⟩; exact ⟨zo, zn, zs, zu, zA, zc, zl, h1, h2.keep h⟩)
      case stepsy =>
        refine ⟨?_, ?_, ?_, ?_, ?_, ?_, trivial⟩
        · intro vals wr hR hp K hK
          dsimp only at hK ⊢
          clear hp
          unfold RunsOp
          go_simp
          exact hK.out _ _ ⟨_, rfl, Only.refl _ _, rfl⟩
        · intro vals wr hR hp K hK
          dsimp only at hK ⊢
          clear hp
          unfold RunsOp
          go_simp
          exact hK.out _ _ ⟨_, rfl, Only.refl _ _, rfl⟩
        · intro vals wr hR hp K hK
          dsimp only at hK ⊢
          obtain ⟨p1, -⟩ := hp
          replace p1 := p1 rfl
          dsimp only at p1
          rw [p1] at hK ⊢
          clear p1
          unfold RunsOp
          obtain ⟨k0, k1, k2, k3, k4, k5, k6, k7, k8, kl⟩ := (hR.blk (Blk.drew HV.out) (by simp)).facts9
          go_simp
          exact hK.out _ _ ⟨_, rfl, Only.refl _ _, rfl⟩
        · intro vals wr hR hp K hK
          dsimp only at hK ⊢
          clear hp
          unfold RunsOp
          go_simp
          exact hK.out _ _ ⟨_, rfl, Only.refl _ _, rfl⟩
        · intro vals wr hR hp K hK
          dsimp only at hK ⊢
          obtain ⟨p3, -⟩ := hp
          replace p3 := p3 rfl
          dsimp only at p3
          rw [p3] at hK ⊢
          clear p3
          unfold RunsOp
          obtain ⟨k0, k1, k2, k3, k4, k5, k6, k7, k8, kl⟩ := (hR.blk (Blk.drew HV.out) (by simp)).facts9
          go_simp
          exact hK.out _ _ ⟨_, rfl, Only.refl _ _, rfl⟩
        · intro vals wr hR hp K hK
          dsimp only at hK ⊢
          obtain ⟨p4, -⟩ := hp
          replace p4 := p4 rfl
          dsimp only at p4
          rw [p4] at hK ⊢
          clear p4
          unfold RunsOp
          go_simp
          refine (HC.out _ ((Only.refl [] _).drew.trans hR (by simp))).mono ?_
          rintro e' w2 ⟨zo, zn, zs, zu, zA, zc, zl, rfl, hcp, o2⟩
          exact hK.out _ _ ⟨_, rfl, o2, zo, zn, zs, zu, zA, zc, zl, rfl, hcp.low hR.size⟩
      case doney =>
        intro vals wd hR hF
        have f0 : vals 0 = .func (.yield l) #[] #[] := hF 0 (by decide)
        have f1 : vals 1 = .pointer (some ⟨wr0.heap.size, 0, none⟩) := hF 1 (by decide)
        have f2 : vals 2 = .agg #[.int .i64 sm, .int .i64 sp, .int .i64 si, .int .i64 0] := hF 2 (by decide)
        have f3 : vals 3 = .pointer (some ⟨wr0.heap.size, 4, none⟩) := hF 3 (by decide)
        have f4 : vals 4 = .agg #[.int .i64 yo, .int .i64 yn, .string ys, .string yu, .slice yA yl.length yc] := hF 4 (by decide)
        obtain ⟨zo, zn, zs, zu, zA, zc, zl, f5, hcp⟩ := hF 5 (by decide)
        rw [f0, f1, f2, f3, f4, f5]
        clear f0 f1 f2 f3 f4 f5 hF
        have ho5 := (Only.refl [] _).drew.trans hR (by simp)
        have HO5 := Lib.hid (HOA.out.trans ho5 (by simp))
        obtain ⟨fn, tmps, assign, body, hy, hRR⟩ := HY.out k S2 _ #[.agg #[.int .i64 sm, .int .i64 sp, .int .i64 si, .int .i64 0], .agg #[.int .i64 zo, .int .i64 zn, .string zs, .string zu, .slice zA (List.length zl) zc]] hlt ⟨⟨sm, sp, si, .mk yo yn ys yu yA yc yl⟩, .mk zo zn zs zu zA zc zl, HLK.out, rfl, hcp.tr, hcp.lies⟩ (HJ.out _ _ _ _ HJR.out HO5.out)
        have HRR := Lib.hid hRR
        clear hRR hcp ho5 hR
        gi_wp2_with (fail)
        refine HRR.out.mono ?_
        rintro r w4 (⟨rfl, ⟨S4, hJ4, hS4⟩, ho4⟩ | ⟨rfl, hJx⟩)
        · have HJ4 := Lib.hid hJ4
          have HS4 := Lib.hid (show ∀ b ∈ S4, (b ∈ S ∨ W.heap.size ≤ b) ∧ b < w4.heap.size from fun b hb => ⟨by
            rcases (hS4 b hb).1 with h | h
            · exact (HSR.out b h).1
            · right; have := HO5.out.size; have := HOr.out.size; omega, (hS4 b hb).2⟩)
          have HO6 := Lib.hid (show Only (l :: S) W w4 from (HOr.out.trans (HO5.out.mono (fun _ h => by simp at h)) (fun _ h => .inl h)).trans ho4 (fun b hb => by
            rcases List.mem_cons.1 hb with h | h
            · exact .inl (by simp [h])
            · exact (HSR.out b h).1.imp (fun h => List.mem_cons_of_mem _ h) id))
          clear hJ4 hS4 ho4 HRR
          gi_wp2_with (fail)
          go_roundw
          case rel => exact ⟨k + 1, S4, by go_num, by omega, HJ4.out, HS4.out, HO6.out⟩
          case measure => simp [intOf] <;> omega
        · have HX := Lib.hid hJx
          clear hJx HRR
          gi_wp2_with (fail)
          refine bodyPost_ret (results_none rfl _ _ _) rfl ?_
          exact ⟨⟨_, rfl⟩, .inr HX.out⟩
    · obtain rfl : k = j := by omega
      have iz : ¬ (k : Int) < (k : Int) := by omega
      gi_wp2_with (fail)
      refine bodyPost_end (results_none rfl _ _ _) rfl ?_
      exact ⟨⟨_, rfl⟩, .inl ⟨S2, HJR.out⟩⟩
end Go.Proofs.YtfnacnlaphpflaaDoor
