/- The document's TypeOf. -/
import Derived.Test.YtgpljjejfebhoaaDoorFlat
import Derived.Test.YtgpljjejfebhoaaDoorFactsR
namespace Go.Proofs.YtgpljjejfebhoaaDoor
open Go.RowKit Go.Kx Go.Val
set_option maxRecDepth 100000
theorem eg26 : ∀ args w, (callFunc 26 args).run Tryd.prog w = .ok (.enter 26 args) w := enters Tryd.func26 (by kernel_rfl) rfl
/-- the types made so far -/
structure Tys (B : Nat) (w : World) (l : List Vx) (k : Nat) (A : Option Addr) (c : Nat) (es : List Tx) : Prop where
  len : es.length = k
  own : w.ownsRow B 26 2 (.slice A k c) k (flat2 es)
  tr : ∀ (i : Nat) (e' : Tx), es[i]? = some e' → ∃ a : Vx, l[i]? = some a ∧ e'.tr = a.tr.ty
  lies : ∀ e' ∈ es, LiesT w e'
  off : ∀ e' ∈ es, ∀ b ∈ e'.blks, B ≤ b ∧ b < w.heap.size ∧ ∀ p, A = some p → p.block ≠ b
theorem Tys.keep {B : Nat} {w w' : World} {l : List Vx} {k : Nat} {A : Option Addr} {c : Nat} {es : List Tx} (h : Tys B w l k A c es) (o : Only [] w w') : Tys B w' l k A c es :=
  ⟨h.len, ownsRow_only o h.own (fun _ _ => by simp), h.tr, fun e he => (h.lies e he).keep o, fun e he b hb => ⟨(h.off e he b hb).1, Nat.lt_of_lt_of_le (h.off e he b hb).2.1 o.size, (h.off e he b hb).2.2⟩⟩
theorem Tys.step {B : Nat} {w w1 w2 : World} {l : List Vx} {k : Nat} {A A' : Option Addr} {c c' : Nat} {es : List Tx} {a : Vx} {y : Tx} {tb : Nat} (h : Tys B w l k A c es) (ha : l[k]? = some a) (hB : B ≤ w.heap.size) (htb : tb < B) (o0 : Only [] w w1) (hc : CpT w.heap.size w1 a.tr.ty y)
    (ho : Only (A.toList.map (·.block)) w1 w2) (hown : w2.ownsRow B 26 2 (.slice A' (k + 1) c') (k + 1) (flat2 (es ++ [y]))) (hA' : ∀ p, A' = some p → (∃ q, A = some q ∧ q.block = p.block) ∨ w1.heap.size ≤ p.block) {w3 : World} (o3 : Only [tb] w2 w3) :
    Tys B w3 l (k + 1) A' c' (es ++ [y]) := by
  have ha1 : ∀ b ∈ A.toList.map (·.block), B ≤ b ∧ b < w.heap.size := fun b hb => by
    cases A with
    | none => simp at hb
    | some p => simp at hb; subst hb; exact h.own.lt p.block rfl
  have h1 := h.keep o0
  have key : ∀ e' : Tx, LiesT w1 e' → (∀ b ∈ e'.blks, B ≤ b ∧ b < w1.heap.size ∧ ∀ p, A = some p → p.block ≠ b) → LiesT w3 e' ∧ ∀ b ∈ e'.blks, B ≤ b ∧ b < w3.heap.size ∧ ∀ p, A' = some p → p.block ≠ b := fun e' hL hb => by
    refine ⟨(hL.only ho (fun b hbb hm => ?_)).only o3 (fun b hbb hm => ?_), fun b hbb => ?_⟩
    · cases A with
      | none => simp at hm
      | some p => simp at hm; exact (hb b hbb).2.2 p rfl hm.symm
    · simp at hm
      have := (hb b hbb).1
      omega
    · obtain ⟨h5, h6, h7⟩ := hb b hbb
      refine ⟨h5, Nat.lt_of_lt_of_le h6 (Nat.le_trans ho.size o3.size), fun p hp he => ?_⟩
      rcases hA' p hp with ⟨q, hq, hqp⟩ | h8
      · exact h7 q hq (by omega)
      · omega
  have hy : ∀ b ∈ y.blks, B ≤ b ∧ b < w1.heap.size ∧ ∀ p, A = some p → p.block ≠ b := fun b hb => ⟨Nat.le_trans hB (hc.off b hb), hc.top b hb, fun p hp he => by
    have := (ha1 p.block (by rw [hp]; simp)).2
    have := hc.off b hb
    omega⟩
  refine ⟨by rw [List.length_append, h.len]; rfl, ownsRow_only o3 hown (fun g hg hm => ?_), fun i e' hi => ?_, fun e' he => ?_, fun e' he => ?_⟩
  · simp at hm
    have := (hown.lt g hg).1
    omega
  · by_cases hik : i < es.length
    · rw [List.getElem?_append_left hik] at hi
      exact h.tr i e' hi
    · have hl := (List.getElem?_eq_some_iff.1 hi).1
      rw [List.length_append] at hl
      have hie : i = es.length := by simp at hl; omega
      subst hie
      rw [List.getElem?_append_right (Nat.le_refl _), Nat.sub_self] at hi
      simp at hi
      subst hi
      exact ⟨a, by rw [h.len]; exact ha, hc.tr⟩
  · rcases List.mem_append.1 he with he | he
    · exact (key e' (h1.lies e' he) (h1.off e' he)).1
    · simp at he
      subst he
      exact (key _ hc.lies hy).1
  · rcases List.mem_append.1 he with he | he
    · exact (key e' (h1.lies e' he) (h1.off e' he)).2
    · simp at he
      subst he
      exact (key _ hc.lies hy).2
theorem Tys.done {B : Nat} {w : World} {l : List Vx} {A : Option Addr} {c : Nat} {es : List Tx} {n : Nat} (h : Tys B w l n A c es) (hn : l.length = n) (hm : n ≤ 1048576) : MadeT B w (l.map fun x => x.tr.ty) A es := by
  refine ⟨?_, ⟨row_of_ownT h.own h.len, h.lies, by rw [h.len]; omega⟩, fun p hp => ?_, fun e he b hb => ⟨(h.off e he b hb).1, (h.off e he b hb).2.1⟩⟩
  · refine List.ext_getElem? fun i => ?_
    rw [List.getElem?_map, List.getElem?_map]
    by_cases hi : i < es.length
    · obtain ⟨a, ha, he⟩ := h.tr i _ (List.getElem?_eq_getElem hi)
      rw [List.getElem?_eq_getElem hi, ha]
      simp [he]
    · rw [List.getElem?_eq_none (by omega), List.getElem?_eq_none (by have := h.len; omega)]
      rfl
  · subst hp
    exact h.own.lt p.block rfl
set_option maxHeartbeats 4000000 in
theorem rtypeofV : ∀ (e : Vx) (w : World), LiesV w e → e.sm = true → Calls Tryd.prog 26 #[e.val] w fun r w' => ∃ e', r = .returned (Tx.val e') ∧ CpT w.heap.size w' e.tr.ty e' ∧ Only [] w w' := by
  refine Vx.ind (fun e ih => ?_)
  intro w hL hs
  obtain ⟨k, n, s, A, cap, l⟩ := e
  have hi := hL.inv
  obtain ⟨hlen, hsm⟩ := sm_mk hs
  have HR := Lib.hid hL.rowL
  have HI := Lib.hid ih
  have HSM := Lib.hid hsm
  have HH := Lib.hid hi.1
  have HT := Lib.hid (show (Vx.mk k n s A cap l).tr.ty = .mk k (l.map fun x => x.tr.ty) by rw [Vx.tr_mk, Vt.ty_mk, List.map_map]; rfl)
  obtain ⟨n9, hn9⟩ : ∃ n9, l.length = n9 := ⟨_, rfl⟩
  have HN := Lib.hid hn9
  have HLM := Lib.hid hlen
  show Calls Tryd.prog 26 #[.agg #[.int .i64 k, .int .i64 n, .string s, .slice A l.length cap]] w _
  rw [hn9] at hlen ⊢
  have q0 : Blk ((w.alloc (.cells #[.int .i64 k, .int .i64 n, .string s, .slice A n9 cap] 34)).alloc (.cells #[.int .i64 0, .slice none 0 0] 26)) w.heap.size 34 #[.int .i64 k, .int .i64 n, .string s, .slice A n9 cap] := (Blk.new w _ _).alloc _
  obtain ⟨b0, b1, b2, b3, bl⟩ := q0.facts4
  have hbig : n9 ≤ 1048576 := hlen
  have HB0 := Lib.hid (Blk.new w 34 #[.int .i64 k, .int .i64 n, .string s, .slice A n9 cap])
  have HB1 := Lib.hid (Blk.new (w.alloc (.cells #[.int .i64 k, .int .i64 n, .string s, .slice A n9 cap] 34)) 26 #[.int .i64 0, .slice none 0 0])
  have HB2 := Lib.hid (Blk.new ((w.alloc (.cells #[.int .i64 k, .int .i64 n, .string s, .slice A n9 cap] 34)).alloc (.cells #[.int .i64 0, .slice none 0 0] 26)) 26 #[.int .i64 k, .slice none 0 0])
  clear hL ih hi q0 hs hsm hlen hn9
  go_enter Tryd.func26, Tryd.ntmps26
  go_wp2_with (fail)
  have HO3 := Lib.hid (show Only [] w (((w.alloc (.cells #[.int .i64 k, .int .i64 n, .string s, .slice A n9 cap] 34)).alloc (.cells #[.int .i64 0, .slice none 0 0] 26)).alloc (.cells #[.int .i64 k, .slice none 0 0] 26)) from (((Only.refl _ _).alloc _).alloc _).alloc _)
  go_loopw [4] (fun i wr => ∃ (k9 : Nat) (A2 : Option Addr) (c2 : Nat) (es : List Tx), i = .int .i64 k9 ∧ k9 ≤ n9 ∧ Hid (Tys (w.heap.size + 3) wr l k9 A2 c2 es) ∧ Hid (Blk wr w.heap.size 34 #[.int .i64 k, .int .i64 n, .string s, .slice A n9 cap]) ∧ Hid (Blk wr (w.heap.size + 1) 26 #[.int .i64 0, .slice none 0 0]) ∧ Hid (Blk wr (w.heap.size + 2) 26 #[.int .i64 k, .slice A2 k9 c2]) ∧ Hid (Only [] w wr)) (fun i _ => n9 - (intOf i).toNat)
  case atStart =>
    have h2 := HB2.out
    have h1 := HB1.out
    simp only [World.size_alloc] at h1 h2
    exact ⟨0, none, 0, [], rfl, Nat.zero_le _, Lib.hid ⟨rfl, World.ownsRow_nil _ _ _ _, fun i e' h => by simp at h, fun e' h => by simp at h, fun e' h => by simp at h⟩, Lib.hid (Blk.alloc (Blk.alloc HB0.out _) _), Lib.hid (Blk.alloc h1 _), Lib.hid h2, HO3⟩
  case round =>
    obtain ⟨k9, A2, c2, es, rfl, hk, HTY, HIB, HRB, HTB, HOr⟩ := hrel
    clear b0 b1 b2 b3 bl
    obtain ⟨b0, b1, b2, b3, bl⟩ := HIB.out.facts4
    by_cases hlt : k9 < n9
    · obtain ⟨e, he⟩ : ∃ e, l[k9]? = some e := ⟨_, List.getElem?_eq_getElem (by rw [HN.out]; exact hlt)⟩
      have hmem : e ∈ l := List.mem_of_getElem? he
      have HE := Lib.hid he
      have HLe := Lib.hid ((HR.out.sub e hmem).keep HOr.out)
      have hcall := HI.out e (by simpa [Vx.l] using hmem)
      have hse := HSM.out e hmem
      obtain ⟨ty, hty⟩ : ∃ ty, e.tr.ty = ty := ⟨_, rfl⟩
      have HTYE := Lib.hid hty
      rw [hty] at hcall
      have hrow := (HR.out.row k9 _ he).only HOr.out (by simp)
      obtain ⟨xk, xn, xs, xA, xcap, xl⟩ := e
      obtain ⟨b, o, rfl, hbb, c0, c1, c2', c3⟩ := hrow.cells
      obtain ⟨wq, hwq⟩ : ∃ wq : World, wq = wr := ⟨_, rfl⟩
      subst hwq
      have HCA := Lib.hid (show ∀ w', Only [] wq w' → Calls Tryd.prog 26 #[.agg #[.int .i64 xk, .int .i64 xn, .string xs, .slice xA xl.length xcap]] w' fun r w'' => ∃ yk yA ycap yl, r = .returned (.agg #[.int .i64 yk, .slice yA (List.length yl) ycap]) ∧ CpT w'.heap.size w'' ty (.mk yk yA ycap yl) ∧ Only [] w' w'' from fun w' o' => (hcall w' (HLe.out.keep o') hse).mono fun r w'' ⟨e', h1, h2, h3⟩ => by
        obtain ⟨yk, yA, ycap, yl⟩ := e'
        exact ⟨yk, yA, ycap, yl, h1, h2, h3⟩)
      have HC := Lib.hid (And.intro c0 (And.intro c1 (And.intro c2' c3)))
      have ik0 : (0 : Int) ≤ (k9 : Int) := by omega
      have ik1 : (k9 : Int) < (n9 : Int) := by omega
      have HQS := Lib.hid (show w.heap.size + 3 ≤ wq.heap.size by have := HTB.out.lt; omega)
      clear he hmem hcall hse hty hrow c0 c1 c2' c3
      go_wp2_with (fail)
      clear b0 b1 b2 b3 bl
      refine (wpIn_wide (n := 9)).1 ?_
      refine wpIn_region_relR 9 (Only []) (fr := ?frg) (tl := ?tlg) (fun iq v wv => match iq with
        | 0 => v = .pointer (some ⟨w.heap.size + 2, 1, none⟩)
        | 1 => v = .slice A2 k9 c2
        | 2 => v = .pointer (some ⟨w.heap.size, 3, none⟩)
        | 3 => v = .slice (some ⟨b, o, none⟩) n9 cap
        | 4 => v = .int .i64 (k9 : Nat)
        | 5 => v = .pointer (some ⟨b, o + k9 * 4, none⟩)
        | 6 => v = .agg #[.int .i64 xk, .int .i64 xn, .string xs, .slice xA xl.length xcap]
        | 7 => ∃ yk yA ycap yl, v = .agg #[.int .i64 yk, .slice yA (List.length yl) ycap] ∧ CpT wq.heap.size wv ty (.mk yk yA ycap yl)
        | 8 => ∃ z yk yA ycap yl, v = .slice (some ⟨z, 0, none⟩) 1 1 ∧ Blk wv z 26 #[.int .i64 yk, .slice yA (List.length yl) ycap] ∧ CpT wq.heap.size wv ty (.mk yk yA ycap yl)
        | _ => True) (.inl rfl) (by kernel_rfl) (by kernel_rfl) (by kernel_rfl) (by kernel_rfl) (by kernel_rfl) (by kernel_rfl) (by decide) ?htlg ?hfrg (Only.refl _ _) (fun _ _ _ h k => h.trans k (fun _ hx => .inl hx)) ?stabg ?stepsg ?doneg
      case htlg => simp only [List.drop_succ_cons, List.drop_zero]; rfl
      case hfrg => intro vals; simp only [putAll, dstAt, Act.put, List.getElem?_toArray, List.getElem?_cons_zero, List.getElem?_cons_succ, Option.bind_some, List.setIfInBounds_toArray, List.set_cons_zero, List.set_cons_succ]; rfl
      case stabg =>
        intro i v wa wb h
        try dsimp only
        split <;> first | exact id | (rintro ⟨yk, yA, ycap, yl, h1, h2⟩; exact ⟨yk, yA, ycap, yl, h1, h2.keep h⟩) | (rintro ⟨z, yk, yA, ycap, yl, h1, h2, h3⟩; exact ⟨z, yk, yA, ycap, yl, h1, h.blk h2 (by simp), h3.keep h⟩)
      case stepsg =>
        refine ⟨?_, ?_, ?_, ?_, ?_, ?_, ?_, ?_, ?_, trivial⟩
        · intro vals wr hR hp K hK
          dsimp only at hK ⊢
          clear hp
          unfold RunsOp
          go_simp
          exact hK.out _ _ ⟨_, rfl, Only.refl _ _, rfl⟩
        · intro vals wr hR hp K hK
          dsimp only at hK ⊢
          obtain ⟨p0, -⟩ := hp
          replace p0 := p0 rfl
          dsimp only at p0
          rw [p0] at hK ⊢
          clear p0
          unfold RunsOp
          have k0 := (hR.blk (Blk.drew HTB.out) (by simp)).cell 1
          simp at k0
          have kl := (hR.blk (Blk.drew HTB.out) (by simp)).lt
          go_simp
          exact hK.out _ _ ⟨_, rfl, Only.refl _ _, rfl⟩
        · intro vals wr hR hp K hK
          dsimp only at hK ⊢
          clear hp
          unfold RunsOp
          go_simp
          exact hK.out _ _ ⟨_, rfl, Only.refl _ _, rfl⟩
        · intro vals wr hR hp K hK
          dsimp only at hK ⊢
          obtain ⟨p2, -⟩ := hp
          replace p2 := p2 rfl
          dsimp only at p2
          rw [p2] at hK ⊢
          clear p2
          unfold RunsOp
          obtain ⟨k0, k1, k2, k3, kl⟩ := (hR.blk (Blk.drew HIB.out) (by simp)).facts4
          go_simp
          exact hK.out _ _ ⟨_, rfl, Only.refl _ _, rfl⟩
        · intro vals wr hR hp K hK
          dsimp only at hK ⊢
          clear hp
          unfold RunsOp
          go_simp
          exact hK.out _ _ ⟨_, rfl, Only.refl _ _, rfl⟩
        · intro vals wr hR hp K hK
          dsimp only at hK ⊢
          obtain ⟨p3, p4, -⟩ := hp
          replace p3 := p3 rfl
          replace p4 := p4 rfl
          dsimp only at p3 p4
          rw [p3, p4] at hK ⊢
          clear p3 p4
          unfold RunsOp
          go_simp
          exact hK.out _ _ ⟨_, rfl, Only.refl _ _, rfl⟩
        · intro vals wr hR hp K hK
          dsimp only at hK ⊢
          obtain ⟨p5, -⟩ := hp
          replace p5 := p5 rfl
          dsimp only at p5
          rw [p5] at hK ⊢
          clear p5
          unfold RunsOp
          have c0 := (hR.cell (p := ⟨b, o + k9 * 4, none⟩) hbb (by simp)).trans HC.out.1
          have c1 := (hR.cell (p := ⟨b, o + k9 * 4 + 1, none⟩) hbb (by simp)).trans HC.out.2.1
          have c2 := (hR.cell (p := ⟨b, o + k9 * 4 + 2, none⟩) hbb (by simp)).trans HC.out.2.2.1
          have c3 := (hR.cell (p := ⟨b, o + k9 * 4 + 3, none⟩) hbb (by simp)).trans HC.out.2.2.2
          go_simp
          exact hK.out _ _ ⟨_, rfl, Only.refl _ _, rfl⟩
        · intro vals wr hR hp K hK
          dsimp only at hK ⊢
          obtain ⟨p6, -⟩ := hp
          replace p6 := p6 rfl
          dsimp only at p6
          rw [p6] at hK ⊢
          clear p6
          unfold RunsOp
          go_simp
          refine (HCA.out _ ((Only.refl [] _).drew.trans hR (by simp))).mono ?_
          rintro e' w2 ⟨yk, yA, ycap, yl, rfl, hc, o2⟩
          exact hK.out _ _ ⟨_, rfl, o2, yk, yA, ycap, yl, rfl, hc.low (hR.size)⟩
        · intro vals wr hR hp K hK
          dsimp only at hK ⊢
          obtain ⟨p7, -⟩ := hp
          replace p7 := p7 rfl
          dsimp only at p7
          obtain ⟨yk, yA, ycap, yl, e7, hc7⟩ := p7
          rw [e7] at hK ⊢
          clear e7
          unfold RunsOp
          have hz := Blk.new wr 26 #[.int .i64 yk, .slice yA yl.length ycap]
          have oz : Only [] wr (wr.alloc (.cells #[.int .i64 yk, .slice yA yl.length ycap] 26)) := (Only.refl _ _).alloc _
          have hc := hc7.keep oz
          clear hc7
          go_simp
          exact hK.out _ _ ⟨_, rfl, oz, _, yk, yA, ycap, yl, rfl, hz, hc⟩
      case doneg =>
        intro vals wd hR hF
        have f0 : vals 0 = .pointer (some ⟨w.heap.size + 2, 1, none⟩) := hF 0 (by decide)
        have f1 : vals 1 = .slice A2 k9 c2 := hF 1 (by decide)
        have f2 : vals 2 = .pointer (some ⟨w.heap.size, 3, none⟩) := hF 2 (by decide)
        have f3 : vals 3 = .slice (some ⟨b, o, none⟩) n9 cap := hF 3 (by decide)
        have f4 : vals 4 = .int .i64 (k9 : Nat) := hF 4 (by decide)
        have f5 : vals 5 = .pointer (some ⟨b, o + k9 * 4, none⟩) := hF 5 (by decide)
        have f6 : vals 6 = .agg #[.int .i64 xk, .int .i64 xn, .string xs, .slice xA xl.length xcap] := hF 6 (by decide)
        have f8 : ∃ z yk yA ycap yl, (vals 8) = .slice (some ⟨z, 0, none⟩) 1 1 ∧ Blk wd z 26 #[.int .i64 yk, .slice yA (List.length yl) ycap] ∧ CpT wq.heap.size wd ty (.mk yk yA ycap yl) := hF 8 (by decide)
        rw [f1]
        clear f1
        obtain ⟨z, yk, yA, ycap, yl, f8, hz, hc⟩ := f8
        rw [f8]
        have HOd := Lib.hid ((Only.refl [] wq).drew.trans hR (by simp))
        obtain ⟨A5, c5, w5, hrun, ho5, oo5, hA5⟩ := run_appT (w := wd) (M := [.mk yk yA ycap yl]) (HTY.out.keep HOd.out).own (z := z) (cz := 1) (fun j u hj => by rw [hz.cell]; simpa [flat2, Tx.cs] using hj) (by simp; omega) (by have := HQS.out; have := HOd.out.size; omega)
        have hai := (HOr.out.trans HOd.out (by simp)).size
        have hne : ∀ x ∈ A2.toList.map (·.block), w.heap.size + 3 ≤ x := fun x hx => by
          cases A2 with
          | none => simp at hx
          | some p => simp at hx; subst hx; exact (HTY.out.own.lt p.block rfl).1
        have HTB5 := Lib.hid (oo5.blk (HOd.out.blk HTB.out (by simp)) (fun h => by have := hne _ h; omega))
        have HRB5 := Lib.hid (oo5.blk (HOd.out.blk HRB.out (by simp)) (fun h => by have := hne _ h; omega))
        have HIB5 := Lib.hid (oo5.blk (HOd.out.blk HIB.out (by simp)) (fun h => by have := hne _ h; omega))
        obtain ⟨t0, t1, tl⟩ := HTB5.out.facts2
        have t2 := HTB5.out.frozen 1
        have HSTEP := Lib.hid (fun (w3 : World) (o3 : Only [w.heap.size + 2] w5 w3) => HTY.out.step (tb := w.heap.size + 2) HE.out (by have := HQS.out; omega) (Nat.lt_succ_self _) HOd.out (by rw [HTYE.out]; exact hc) oo5 ho5 hA5 o3)
        have HO5 := Lib.hid ((HOr.out.trans HOd.out (by simp)).trans oo5 (fun x hx => .inr (by have := hne x hx; omega)))
        clear hR hF hz hc ho5 oo5 hA5 hai hne f8
        gi_wp2_with (gi_at_builtin; refine wpListIn_append_run hrun rfl _ _ rfl rfl rfl rfl ?_)
        clear hrun
        go_wp2_with (fail)
        go_roundw
        case rel =>
          have os : Only [w.heap.size + 2] w5 (w5.setCell ⟨w.heap.size + 1 + 1, 1, none⟩ (.slice A5 (k9 + 1) c5)) := (Only.refl _ _).setCell (.inl (by simp)) _
          exact ⟨k9 + 1, A5, c5, _, by go_num, by omega, Lib.hid (HSTEP.out _ os), Lib.hid (os.blk HIB5.out (by simp)), Lib.hid (os.blk HRB5.out (by simp)), Lib.hid (HTB5.out.set_ 1 _), Lib.hid (HO5.out.trans os (fun x hx => .inr (by simp at hx; omega)))⟩
        case measure => simp [intOf]; omega
    · have hke : k9 = n9 := by omega
      have iz : ¬ (n9 : Int) < (n9 : Int) := by omega
      have HM := Lib.hid ((show Tys (w.heap.size + 3) wr l n9 A2 c2 es from by rw [← hke]; exact HTY.out).done HN.out (by rw [← HN.out]; exact HLM.out))
      have HTB9 := Lib.hid (show Blk wr (w.heap.size + 2) 26 #[.int .i64 k, .slice A2 n9 c2] by rw [← hke]; exact HTB.out)
      have HLN := Lib.hid (show es.length = n9 by rw [← hke]; exact HTY.out.len)
      rw [hke]
      clear hke hlt hk
      obtain ⟨t0, t1, tl⟩ := HTB9.out.facts2
      obtain ⟨r0, r1, rl⟩ := HRB.out.facts2
      have g0 := HRB.out.frozen 0
      have g1 := HRB.out.frozen 1
      go_wp2_with (fail)
      have hb5 := (HRB.out.set_ 0 (.int .i64 k)).set_ 1 (.slice A2 n9 c2)
      obtain ⟨e0, e1, -⟩ := Blk.facts2 (a := .int .i64 k) (b := .slice A2 n9 c2) hb5
      refine bodyPost_ret (v := .agg #[.int .i64 k, .slice A2 n9 c2]) (by simp [results, Tryd.results26, go_sem, e0, e1]) rfl ?_
      clear e0 e1 hb5
      have o7 : Only [w.heap.size + 1] wr _ := ((Only.refl _ wr).setCell (p := ⟨w.heap.size + 1, 0, none⟩) (.inl (by simp)) (.int .i64 k)).setCell (p := ⟨w.heap.size + 1, 1, none⟩) (.inl (by simp)) (.slice A2 n9 c2)
      refine ⟨.mk k A2 c2 es, by simp [Tx.val, Tx.cs, HLN.out], ?_, HOr.out.trans o7 (fun b hb => .inr (by simp at hb; omega))⟩
      rw [HT.out]
      exact ((HM.out.only o7 (by simp)).cp (fk := k) HH.out.1 c2).low (by omega)
end Go.Proofs.YtgpljjejfebhoaaDoor
