/- slices.Collect of what is gone through. -/
import Derived.Test.YtgpljjejfebhoaaDoorFlat
import Derived.Test.YtgpljjejfebhoaaDoorFactsA
namespace Go.Proofs.YtgpljjejfebhoaaDoor
open Go.RowKit Go.Kx Go.Val
attribute [local go_sem] Oper.semAt_some
set_option maxRecDepth 100000

theorem _root_.Go.Kx.SeqsP.later {P : Program} {gf : Nat} {lb : Array Value} {N : Nat} {R : Nat → List Nat → Array Value → World → Prop} {prot : List Nat} {w w' : World} (h : SeqsP P gf lb N R prot w) (o : Only [] w w') : SeqsP P gf lb N R prot w' :=
  fun l J Jx W S hK hl => h l J Jx W S ((KeepC.of_only o).trans (hK.mono o.size)) (Nat.le_trans o.size hl)
theorem wp_append_run {P : Program} {w w1 : World} {o : Oper} {a : Act} {K : Act → World → Prop} {Q : Exit → Act → World → Prop} {v xv r : Value} {t1 t2 ty : TypeId}
    (hrun : (Builtin.append_ #[t1, t2] ty #[v, xv]).run P w = .ok r w1) (s x : Operand)
    (hop : o.op = .call { callee := .builtin .append, args := #[s, x], argTypes := #[t1, t2] }) (hty : o.type = ty) (hs : a.eval s = v) (hx : a.eval x = xv)
    (hK : K (a.put o.dst r) w1) : o.wp P a w K Q := by
  subst hty
  unfold Oper.wp execOp
  simp only [hop, resolve, invoke, builtin, Sem.run_bind, Sem.run_pure, Result.andThen_ok, List.map_toArray, List.map_cons, List.map_nil, hs, hx, hrun]
  exact hK
/-- a row of one's own, and what it holds -/
def Own4 (B : Nat) (W : World) (A : Option Addr) (k c : Nat) (xs : List Value) : Prop := W.ownsRow B 34 4 (.slice A k c) k xs
theorem Own4.only {B k c : Nat} {A : Option Addr} {xs : List Value} {T : List Nat} {W W' : World} (h : Own4 B W A k c xs) (o : Only T W W') (hT : ∀ p, A = some p → p.block ∉ T) : Own4 B W' A k c xs :=
  ownsRow_only o h (fun g hg => by
    cases A with
    | none => simp [Value.ownBlock] at hg
    | some p => simp [Value.ownBlock] at hg; subst hg; exact hT p rfl)
theorem own_set1 {W : World} {base n cap b j : Nat} {t : TypeId} {xs : List Value} {u : Value} (h : W.ownsRow base t 4 (.slice (some ⟨b, 0, none⟩) n cap) n xs) :
    (W.setCell ⟨b, j, none⟩ u).ownsRow base t 4 (.slice (some ⟨b, 0, none⟩) n cap) n (xs.set j u) := by
  rcases h.2 with ⟨h1, h2⟩ | ⟨g, cap', cur, h1, hb, hg, hnc, hcm, hcs, hcur⟩
  · cases h1
  · injection h1 with h1 _ h3
    injection h1 with h1
    injection h1 with h1 _ _
    subst h1
    subst h3
    refine ⟨by rw [List.length_set]; exact h.1, .inr ⟨b, cap, cur.setIfInBounds j u, rfl, hb, Blk.set_ (w := W) (cs := cur) (t := t) hg _ _, hnc, hcm, by simp [hcs], ?_⟩⟩
    rw [← hcur]
    simp [List.take_set]
theorem Own4.set4 {B k c g i : Nat} {W : World} {xs : List Value} (h : Own4 B W (some ⟨g, 0, none⟩) k c xs) (a b x d : Value) : Own4 B (setRowV W g i a b x d) (some ⟨g, 0, none⟩) k c ((((xs.set (i * 4) a).set (i * 4 + 1) b).set (i * 4 + 2) x).set (i * 4 + 3) d) :=
  own_set1 (own_set1 (own_set1 (own_set1 h)))
theorem Own4.blk {B k c : Nat} {A : Option Addr} {xs : List Value} {W : World} (h : Own4 B W A k c xs) (hk : 0 < k) : ∃ g cur, A = some ⟨g, 0, none⟩ ∧ B ≤ g ∧ Blk W g 34 cur ∧ cur.size = c * 4 ∧ k ≤ c := by
  rcases h.2 with ⟨h1, h2⟩ | ⟨g, cap', cur, h1, hb, hg, hnc, hcm, hcs, hcur⟩
  · omega
  · injection h1 with h1 _ h3
    subst h3
    exact ⟨g, cur, h1, hb, hg, hcs, hnc⟩
theorem Own4.lt {B k c : Nat} {p : Addr} {xs : List Value} {W : World} (h : Own4 B W (some p) k c xs) : B ≤ p.block ∧ p.block < W.heap.size := World.ownsRow.lt h p.block rfl
theorem Own4.ne {B k c b : Nat} {t : TypeId} {cs : Array Value} {p : Addr} {xs : List Value} {W : World} (h : Own4 B W (some p) k c xs) (hb : Blk W b t cs) (ht : t ≠ 34) : p.block ≠ b := by
  rcases h.2 with ⟨h1, h2⟩ | ⟨g, cap', cur, h1, _, hg, _⟩
  · cases h1
  · injection h1 with h1 _ _
    injection h1 with h1
    subst h1
    rintro rfl
    have := hb.symm.trans hg
    injection this with this
    injection this with _ this _
    exact ht this
theorem set4_flat (L : List Vx) (z0 z1 z2 z3 : Value) (e : Vx) (a b x d : Value) (he : e.cs = [a, b, x, d]) :
    (((((flat4 L ++ [z0, z1, z2, z3]).set (L.length * 4) a).set (L.length * 4 + 1) b).set (L.length * 4 + 2) x).set (L.length * 4 + 3) d) = flat4 (L ++ [e]) := by
  have hl := flat4_len L
  rw [flat4_app, show flat4 [e] = e.cs by simp [flat4], he, ← hl]
  generalize flat4 L = F
  rw [List.set_append_right _ _ (by omega), List.set_append_right _ _ (by omega), List.set_append_right _ _ (by omega), List.set_append_right _ _ (by omega)]
  simp
/-- what has been collected -/
structure Col (B bx : Nat) (w : World) (T : List Vt) (k : Nat) (A : Option Addr) (c : Nat) (es : List Vx) : Prop where
  len : es.length = k
  own : Own4 B w A k c (flat4 es)
  tr : ∀ (i : Nat) (e' : Vx), es[i]? = some e' → T[i]? = some e'.tr
  lies : ∀ e' ∈ es, LiesV w e'
  off : ∀ e' ∈ es, ∀ b ∈ e'.blks, b < w.heap.size ∧ b ≠ bx ∧ ∀ p, A = some p → p.block ≠ b
theorem Col.keep {B bx : Nat} {w w' : World} {T : List Vt} {k : Nat} {A : Option Addr} {c : Nat} {es : List Vx} (h : Col B bx w T k A c es) (o : Only [] w w') : Col B bx w' T k A c es :=
  ⟨h.len, h.own.only o (fun _ _ => by simp), h.tr, fun e he => (h.lies e he).keep o, fun e he b hb => ⟨Nat.lt_of_lt_of_le (h.off e he b hb).1 o.size, (h.off e he b hb).2⟩⟩
theorem Col.keepC {B C bx : Nat} {w w' : World} {T : List Vt} {k : Nat} {A : Option Addr} {c : Nat} {es : List Vx} (h : Col B bx w T k A c es) (o : KeepC C w w') : Col B bx w' T k A c es :=
  ⟨h.len, ownsRow_keepC o h.own, h.tr, fun e he => (h.lies e he).keepC o, fun e he b hb => ⟨Nat.lt_of_lt_of_le (h.off e he b hb).1 o.size, (h.off e he b hb).2⟩⟩
theorem Col.step {B bx : Nat} {w w4 W' : World} {T : List Vt} {k g : Nat} {A : Option Addr} {c c' : Nat} {es : List Vx} {e : Vx} (h : Col B bx w T k A c es) (he : T[k]? = some e.tr) (hL : LiesV w e) (hb : ∀ b ∈ e.blks, b < w.heap.size ∧ b ≠ bx ∧ ∀ p, A = some p → p.block ≠ b)
    (o1 : Only (A.toList.map (·.block)) w w4) (hg : (∃ p, A = some p ∧ p.block = g) ∨ w.heap.size ≤ g) (o2 : Only [g, bx] w4 W') (hown : Own4 B W' (some ⟨g, 0, none⟩) (k + 1) c' (flat4 (es ++ [e]))) : Col B bx W' T (k + 1) (some ⟨g, 0, none⟩) c' (es ++ [e]) := by
  have key : ∀ e' : Vx, LiesV w e' → (∀ b ∈ e'.blks, b < w.heap.size ∧ b ≠ bx ∧ ∀ p, A = some p → p.block ≠ b) → LiesV W' e' ∧ ∀ b ∈ e'.blks, b < W'.heap.size ∧ b ≠ bx ∧ ∀ p, (some ⟨g, 0, none⟩ : Option Addr) = some p → p.block ≠ b := fun e' hL hb => by
    have hgb : ∀ b ∈ e'.blks, g ≠ b := fun b hbb heq => by
      obtain ⟨h5, -, h7⟩ := hb b hbb
      rcases hg with ⟨p, hp, hpg⟩ | hg
      · exact h7 p hp (by omega)
      · omega
    refine ⟨(hL.only o1 (fun b hbb hm => ?_)).only o2 (fun b hbb hm => ?_), fun b hbb => ⟨Nat.lt_of_lt_of_le (hb b hbb).1 (Nat.le_trans o1.size o2.size), (hb b hbb).2.1, fun p hp => ?_⟩⟩
    · cases A with
      | none => simp at hm
      | some p => simp at hm; exact (hb b hbb).2.2 p rfl hm.symm
    · simp at hm
      rcases hm with hm | hm
      · exact hgb b hbb hm.symm
      · exact (hb b hbb).2.1 hm
    · injection hp with hp
      subst hp
      exact hgb b hbb
  refine ⟨by rw [List.length_append, h.len]; rfl, hown, fun i e' hi => ?_, fun e' he' => ?_, fun e' he' => ?_⟩
  · by_cases hik : i < es.length
    · rw [List.getElem?_append_left hik] at hi
      exact h.tr i e' hi
    · have hl := (List.getElem?_eq_some_iff.1 hi).1
      rw [List.length_append] at hl
      have hie : i = es.length := by simp at hl; omega
      subst hie
      rw [List.getElem?_append_right (Nat.le_refl _), Nat.sub_self] at hi
      simp at hi
      subst hi
      rw [h.len]
      exact he
  · rcases List.mem_append.1 he' with he' | he'
    · exact (key e' (h.lies e' he') (h.off e' he')).1
    · simp at he'
      subst he'
      exact (key _ hL hb).1
  · rcases List.mem_append.1 he' with he' | he'
    · exact (key e' (h.lies e' he') (h.off e' he')).2
    · simp at he'
      subst he'
      exact (key _ hL hb).2
theorem Col.row {B bx : Nat} {w : World} {T : List Vt} {k : Nat} {A : Option Addr} {c : Nat} {es : List Vx} (h : Col B bx w T k A c es) (hk : k ≤ 1048576) : RowLV w A es := ⟨row_of_ownV h.own h.len, h.lies, by rw [h.len]; omega⟩
theorem Col.all {B bx : Nat} {w : World} {T : List Vt} {A : Option Addr} {c : Nat} {es : List Vx} (h : Col B bx w T T.length A c es) : es.map Vx.tr = T := by
  refine List.ext_getElem? fun i => ?_
  rw [List.getElem?_map]
  by_cases hi : i < es.length
  · rw [List.getElem?_eq_getElem hi]
    exact (h.tr i _ (List.getElem?_eq_getElem hi)).symm
  · rw [List.getElem?_eq_none (by omega), List.getElem?_eq_none (by have := h.len; omega)]
    rfl
theorem run_app0 {w : World} {B k c z : Nat} {A : Option Addr} {es : List Vx} (h : Own4 B w A k c (flat4 es)) (hz : Blk w z 34 #[.int .i64 0, .int .i64 0, .string ⟨#[]⟩, .slice none 0 0]) (hB : B ≤ w.heap.size) (hk : k < 1048576) :
    ∃ g c' w1, (Builtin.append_ #[32, 32] 32 #[.slice A k c, .slice (some ⟨z, 0, none⟩) 1 1]).run Tryd.prog w = .ok (.slice (some ⟨g, 0, none⟩) (k + 1) c') w1 ∧ Own4 B w1 (some ⟨g, 0, none⟩) (k + 1) c' (flat4 (es ++ [.mk 0 0 ⟨#[]⟩ none 0 []])) ∧ Only (A.toList.map (·.block)) w w1 ∧ ((∃ p, A = some p ∧ p.block = g) ∨ w.heap.size ≤ g) := by
  obtain ⟨A', c', w1, h1, h2, h3, h4⟩ := run_appV (M := [.mk 0 0 ⟨#[]⟩ none 0 []]) (cz := 1) h (fun j u hj => by rw [hz.cell]; simpa [flat4, Vx.cs] using hj) (by simp; omega) hB
  obtain ⟨g, rfl, -, -⟩ := own_cellV h2 (by simp)
  exact ⟨g, c', w1, h1, h2, h3, h4 _ rfl⟩
set_option maxHeartbeats 4000000 in
theorem appendseq_any {w : World} {gf : Nat} {lb : Array Value} {T : List Vt} {prot : List Nat} (hs0 : SeqsP Tryd.prog gf lb T.length (WR T) prot w) (hprot : ∀ b ∈ prot, b < w.heap.size) (hlen : T.length ≤ 1048576) (eg : ∀ args w, (callFunc gf args).run Tryd.prog w = .ok (.enter gf args) w) :
    Calls Tryd.prog 43 #[.slice none 0 0, .func (.func gf) #[] lb] w fun e w' => ∃ A2 c2 es, e = .returned (.slice A2 T.length c2) ∧ RowLV w' A2 es ∧ es.map Vx.tr = T ∧ Only [] w w' := by
  refine calls_marks Tryd.func43 rfl ?_
  simp only [Tryd.ntmps43, List.size_toArray, List.length_cons, List.length_nil, Nat.reduceAdd, Nat.reduceSub, Array.replicate_succ, Array.replicate_zero, List.push_toArray, List.append_toArray, List.nil_append, List.cons_append]
  go_wp2_with (fail)
  have hr : Blk (w.alloc (.cells #[.slice none 0 0] 32)) w.heap.size 32 #[.slice none 0 0] := Blk.new w 32 _
  have ho : Only [] w (w.alloc (.cells #[.slice none 0 0] 32)) := (Only.refl _ _).alloc _
  have hseq := hs0.later ho
  clear hs0
  generalize w.alloc (.cells #[.slice none 0 0] 32) = w2 at hr ho hseq ⊢
  have hs := ho.size
  have hrl := hr.lt
  have EG := Lib.hid eg
  clear eg
  refine' wp_rangeFunc_seqsP (gf := gf) (lb := lb) (N := T.length) (R := WR T) rfl EG.out
    hseq (by intro k S v W hv; obtain ⟨_, rfl, _⟩ := hv; rfl) [w.heap.size] (by simp; omega) (by intro b hb; have := hprot b hb; simp; omega)
    (fun k S W => ∃ A2 c2 es, Blk W w.heap.size 32 #[.slice A2 k c2] ∧ Col w.heap.size w.heap.size W T k A2 c2 es ∧ S = w.heap.size :: A2.toList.map (·.block) ∧ Only [] w W) (fun _ _ => False) ?hI (fun _ _ _ h _ => h) ?h0 ?round ?done (fun _ _ _ _ h _ => h.elim)
  case hI =>
    rintro k S W1 W2 ⟨A2, c2, es, h1, h2, rfl, h4⟩ hk
    exact ⟨A2, c2, es, hk.blk h1, h2.keepC hk, rfl, h4.keepC hk hs⟩
  case h0 => exact ⟨none, 0, [], hr, ⟨rfl, World.ownsRow_nil _ _ _ _, fun i e' h => by simp at h, fun e' h => by simp at h, fun e' h => by simp at h⟩, rfl, ho⟩
  case round =>
    intro l k v S V hl hlS hk hR hIV
    have hSV : ∀ b ∈ S, b < V.heap.size := by
      obtain ⟨A2, c2, es, hb, how, rfl, hO⟩ := hIV
      intro b hb2
      rcases List.mem_cons.1 hb2 with rfl | h
      · exact hb.lt
      · cases A2 with
        | none => simp at h
        | some p => simp at h; subst h; exact how.own.lt.2
    obtain ⟨⟨op, n, nm, A, cap, args⟩, hv, hTk, hLV, hbv⟩ := hR
    replace hv : v = #[.agg #[.int .i64 op, .int .i64 n, .string nm, .slice A args.length cap]] := hv
    subst hv
    have HTK := Lib.hid hTk
    have HLV := Lib.hid hLV
    have HBV := Lib.hid hbv
    have HSV := Lib.hid hSV
    clear hSV hIV hTk hLV hbv
    gi_wp2_with (fail)
    refine ⟨(Only.refl [] V).alloc _, fun X hrec hIX hkk => ?_⟩
    obtain ⟨A2, c2, es, hb, how, rfl, hO⟩ := hIX
    have hsb := hkk.blk (Blk.new V 34 #[.int .i64 op, .int .i64 n, .string nm, .slice A args.length cap])
    obtain ⟨pb, hpb⟩ : ∃ pb, V.heap.size = pb := ⟨_, rfl⟩
    rw [hpb] at HSV hsb ⊢
    have HB := Lib.hid hb
    have HOW := Lib.hid how
    have HO := Lib.hid hO
    have HSB := Lib.hid hsb
    have HEX := Lib.hid (show LiesV X (.mk op n nm A cap args) ∧ ∀ b ∈ (Vx.mk op n nm A cap args).blks, b < X.heap.size ∧ b ≠ w.heap.size ∧ ∀ p, A2 = some p → p.block ≠ b from ⟨(HLV.out.keep ((Only.refl [] V).alloc _)).keepC hkk, fun b hb9 => ⟨by have := (HBV.out b hb9).2; have := hkk.size; simp at this; omega, fun h => (HBV.out b hb9).1 (by simp [h]), fun p hp h => (HBV.out b hb9).1 (by simp [hp, h])⟩⟩)
    clear hkk hb how hO hsb hrec hpb HLV HBV
    gi_wp2_with (fail)
    have hnb : w.heap.size < X.heap.size := HB.out.lt
    have HWX := Lib.hid hnb
    clear hnb
    refine wpIn_region_relA 4 (Only []) (fr := ?frg) (fun iq v wv => match iq with
      | 0 => v = .slice A2 k c2
      | 1 => v = .agg #[.int .i64 op, .int .i64 n, .string nm, .slice A args.length cap]
      | 2 => v = .int .i64 (k : Int)
      | 3 => ∃ z, v = .slice (some ⟨z, 0, none⟩) 1 1 ∧ Blk wv z 34 #[.int .i64 0, .int .i64 0, .string ⟨#[]⟩, .slice none 0 0]
      | _ => True) (.inr ⟨_, rfl⟩) (by kernel_rfl) (by kernel_rfl) (by kernel_rfl) (by kernel_rfl) (by kernel_rfl) (by decide) ?hfrg (Only.refl _ _) (fun _ _ _ h k => h.trans k (fun _ hx => .inl hx)) ?stabg ?stepsg ?doneg
    case hfrg => intro vals; simp only [putAll, dstAt, Act.put, List.getElem?_toArray, List.getElem?_cons_zero, List.getElem?_cons_succ, Option.bind_some, List.setIfInBounds_toArray, List.set_cons_zero, List.set_cons_succ]; rfl
    case stabg =>
      intro i v wa wb h
      try dsimp only
      split <;> first | exact id | (rintro ⟨z, h1, h2⟩; exact ⟨z, h1, h.blk h2 (by simp)⟩)
    case stepsg =>
      refine ⟨?_, ?_, ?_, ?_, trivial⟩
      · intro vals wr hR hp K hK
        dsimp only at hK ⊢
        clear hp
        unfold RunsOp
        have tg := hR.blk (Blk.drew HB.out) (by simp)
        obtain ⟨k0, kl⟩ := tg.facts1
        clear tg
        go_simp
        exact hK.out _ _ ⟨_, rfl, Only.refl _ _, rfl⟩
      · intro vals wr hR hp K hK
        dsimp only at hK ⊢
        clear hp
        unfold RunsOp
        have tg := hR.blk (Blk.drew HSB.out) (by simp)
        obtain ⟨k0, k1, k2, k3, kl⟩ := tg.facts4
        clear tg
        go_simp
        exact hK.out _ _ ⟨_, rfl, Only.refl _ _, rfl⟩
      · intro vals wr hR hp K hK
        dsimp only at hK ⊢
        obtain ⟨p0, -⟩ := hp
        replace p0 := p0 rfl
        dsimp only at p0
        rw [p0] at hK ⊢
        clear p0
        unfold RunsOp
        go_simp
        exact hK.out _ _ ⟨_, rfl, Only.refl _ _, rfl⟩
      · intro vals wr hR hp K hK
        dsimp only at hK ⊢
        clear hp
        unfold RunsOp
        have hz := Blk.new wr 34 #[.int .i64 0, .int .i64 0, .string ⟨#[]⟩, .slice none 0 0]
        go_simp
        exact hK.out _ _ ⟨_, rfl, (Only.refl [] wr).alloc _, _, rfl, hz⟩
    case doneg =>
      intro vals wd hR hF fuel hfu
      have f0 : vals 0 = .slice A2 k c2 := hF 0 (by decide)
      have f1 : vals 1 = .agg #[.int .i64 op, .int .i64 n, .string nm, .slice A args.length cap] := hF 1 (by decide)
      have f2 : vals 2 = .int .i64 (k : Int) := hF 2 (by decide)
      have f3 : ∃ z, (vals 3) = .slice (some ⟨z, 0, none⟩) 1 1 ∧ Blk wd z 34 #[.int .i64 0, .int .i64 0, .string ⟨#[]⟩, .slice none 0 0] := hF 3 (by decide)
      rw [f0, f1, f2]
      clear f0 f1 f2
      obtain ⟨z, f3, hz⟩ := f3
      rw [f3]
      clear f3 hF
      have oXd : Only [] X wd := ((Only.refl [] X).drew).trans hR (by simp)
      have HOd := Lib.hid oXd
      obtain ⟨g, c', w4, hrun, how4, o4, hg4⟩ := run_app0 (HOW.out.own.only oXd (fun _ _ => by simp)) hz (by have := HWX.out; have := oXd.size; omega) (by omega)
      have HOW4 := Lib.hid how4
      have HO4 := Lib.hid o4
      have HG4 := Lib.hid hg4
      clear hR oXd hz how4 o4 hg4
      refine wpAnyIn_place (by kernel_rfl) ?_ fuel hfu
      refine wpOpIn_of_plain (.inr ⟨_, rfl⟩) (fun c h => by cases h) rfl (fun K' hK => ?_)
      rw [if_pos (by rfl)]
      refine wp_append_run hrun _ _ rfl rfl rfl rfl (hK _ _ ?_)
      have hb4 : Blk w4 w.heap.size 32 #[.slice A2 k c2] := HO4.out.blk (HOd.out.blk HB.out (by simp)) (fun hm => by
        cases A2 with
        | none => simp at hm
        | some p => simp at hm; exact HOW.out.own.ne HB.out (by decide) hm.symm)
      obtain ⟨g', cur, hg', hgB, hbg, hcs, hkc⟩ := HOW4.out.blk (Nat.succ_pos _)
      injection hg' with hg'
      injection hg' with hg' _ _
      subst hg'
      have hgn : g ≠ w.heap.size := HOW4.out.ne hb4 (by decide)
      have hng : w.heap.size ≠ g := fun h => hgn h.symm
      have HFIN := Lib.hid (show ∀ W', Blk W' w.heap.size 32 #[.slice (some ⟨g, 0, none⟩) (k + 1) c'] → Own4 w.heap.size W' (some ⟨g, 0, none⟩) (k + 1) c' (flat4 (es ++ [.mk op n nm A cap args])) → Only [g, w.heap.size] w4 W' →
          (∃ S', (∃ A3 c3 es3, Blk W' w.heap.size 32 #[.slice A3 (k + 1) c3] ∧ Col w.heap.size w.heap.size W' T (k + 1) A3 c3 es3 ∧ S' = w.heap.size :: A3.toList.map (·.block) ∧ Only [] w W') ∧ ∀ b ∈ S', (b ∈ w.heap.size :: A2.toList.map (·.block) ∨ X.heap.size ≤ b) ∧ b < W'.heap.size) ∧ Only (w.heap.size :: A2.toList.map (·.block)) X W' from by
        intro W' h1 h2 h3
        have o5 : Only (w.heap.size :: A2.toList.map (·.block)) X W' := ((HOd.out.mono (fun _ h => by simp at h)).trans HO4.out (fun b hb => .inl (List.mem_cons_of_mem _ hb))).trans h3 (fun b hb => by
          simp at hb
          rcases hb with rfl | rfl
          · rcases HG4.out with ⟨p, rfl, hp⟩ | h
            · left; simp [hp]
            · right; exact Nat.le_trans HOd.out.size h
          · left; simp)
        exact ⟨⟨_, ⟨_, _, _, h1, (HOW.out.keep HOd.out).step HTK.out (HEX.out.1.keep HOd.out) (fun b hb => ⟨Nat.lt_of_lt_of_le (HEX.out.2 b hb).1 HOd.out.size, (HEX.out.2 b hb).2⟩) HO4.out HG4.out h3 h2, rfl, HO.out.trans o5 (fun b hb => by
          rcases List.mem_cons.1 hb with rfl | h
          · exact .inr (Nat.le_refl _)
          · cases A2 with
            | none => simp at h
            | some p => simp at h; subst h; exact .inr HOW.out.own.lt.1)⟩, fun b hb => by
          simp at hb
          rcases hb with rfl | rfl
          · exact ⟨.inl (by simp), h1.lt⟩
          · refine ⟨?_, h2.lt.2⟩
            rcases HG4.out with ⟨p, rfl, hp⟩ | h
            · left; simp [hp]
            · right; exact Nat.le_trans HOd.out.size h⟩, o5⟩)
      obtain ⟨v0, g0⟩ := hbg.cellsAt (k * 4) (by omega)
      obtain ⟨v1, g1⟩ := hbg.cellsAt (k * 4 + 1) (by omega)
      obtain ⟨v2, g2⟩ := hbg.cellsAt (k * 4 + 2) (by omega)
      obtain ⟨v3, g3⟩ := hbg.cellsAt (k * 4 + 3) (by omega)
      have f0 := hbg.frozen (k * 4)
      have f1 := hbg.frozen (k * 4 + 1)
      have f2 := hbg.frozen (k * 4 + 2)
      have f3 := hbg.frozen (k * 4 + 3)
      obtain ⟨n0, nl⟩ := hb4.facts1
      have fn0 := hb4.frozen 0
      have HB4 := Lib.hid hb4
      have HSF := Lib.hid (show (((((flat4 (es ++ [.mk 0 0 ⟨#[]⟩ none 0 []])).set (k * 4) (.int .i64 op)).set (k * 4 + 1) (.int .i64 n)).set (k * 4 + 2) (.string nm)).set (k * 4 + 3) (.slice A args.length cap)) = flat4 (es ++ [.mk op n nm A cap args]) by
        rw [← HOW.out.len, flat4_app es [.mk 0 0 ⟨#[]⟩ none 0 []]]
        exact set4_flat es _ _ _ _ _ _ _ _ _ rfl)
      have hki : (0 : Int) ≤ (k : Int) := by omega
      have hki2 : (k : Int) < (((k + 1 : Nat)) : Int) := by omega
      have hki3 : (k : Int) < (k : Int) + 1 := by omega
      clear hb4 hbg hrun hk hfu hlen hs hrl hl hlS
      refine ⟨wpOpIn_of_plain (.inr ⟨_, rfl⟩) (fun c h => by cases h) rfl (fun K1 hK1 => ?_), wpOpIn_of_plain (.inr ⟨_, rfl⟩) (fun c h => by cases h) rfl (fun K1 hK1 => ?_)⟩
      · rw [if_pos (by rfl)]
        go_simp
        refine hK1 _ _ ⟨wpOpIn_of_plain (.inr ⟨_, rfl⟩) (fun c h => by cases h) rfl (fun K2 hK2 => ?_), wpOpIn_of_plain (.inr ⟨_, rfl⟩) (fun c h => by cases h) rfl (fun K2 hK2 => ?_)⟩
        · rw [if_pos (by rfl)]
          go_simp
          refine hK2 _ _ (wpOpIn_of_plain (.inr ⟨_, rfl⟩) (fun c h => by cases h) rfl (fun K3 hK3 => ?_))
          rw [if_pos (by rfl)]
          go_simp
          refine hK3 _ _ (HFIN.out _ ?_ ?_ ?_)
          · exact (((setRow_onlyV w4 g k _ _ _ _).blk HB4.out (by simpa using hng)).set_ 0 _)
          · rw [← HSF.out]; exact (HOW4.out.set4 _ _ _ _).only (only_setCell _ _ _) (fun p hp => by injection hp with hp; subst hp; simpa using hgn)
          · exact ((setRow_onlyV w4 g k _ _ _ _).mono (fun b hb => .inl (by simp at hb; simp [hb]))).setCell (.inl (by simp)) _
        · rw [if_pos (by rfl)]
          go_simp
          refine hK2 _ _ (wpOpIn_of_plain (.inr ⟨_, rfl⟩) (fun c h => by cases h) rfl (fun K3 hK3 => ?_))
          rw [if_pos (by rfl)]
          go_simp
          refine hK3 _ _ (HFIN.out _ ?_ ?_ ?_)
          · exact (setRow_onlyV (w4.setCell ⟨w.heap.size, 0, none⟩ _) g k _ _ _ _).blk (HB4.out.set_ 0 _) (by simpa using hng)
          · rw [← HSF.out]; exact (HOW4.out.only (only_setCell w4 ⟨w.heap.size, 0, none⟩ _) (fun p hp => by injection hp with hp; subst hp; simpa using hgn)).set4 _ _ _ _
          · exact ((only_setCell w4 ⟨w.heap.size, 0, none⟩ _).mono (fun b hb => .inl (by simp at hb; simp [hb]))).trans (setRow_onlyV _ g k _ _ _ _) (fun b hb => .inl (by simp at hb; simp [hb]))
      · rw [if_pos (by rfl)]
        go_simp
        refine hK1 _ _ (wpOpIn_of_plain (.inr ⟨_, rfl⟩) (fun c h => by cases h) rfl (fun K2 hK2 => ?_))
        rw [if_pos (by rfl)]
        go_simp
        refine hK2 _ _ (wpOpIn_of_plain (.inr ⟨_, rfl⟩) (fun c h => by cases h) rfl (fun K3 hK3 => ?_))
        rw [if_pos (by rfl)]
        go_simp
        refine hK3 _ _ (HFIN.out _ ?_ ?_ ?_)
        · exact (setRow_onlyV (w4.setCell ⟨w.heap.size, 0, none⟩ _) g k _ _ _ _).blk (HB4.out.set_ 0 _) (by simpa using hng)
        · rw [← HSF.out]; exact (HOW4.out.only (only_setCell w4 ⟨w.heap.size, 0, none⟩ _) (fun p hp => by injection hp with hp; subst hp; simpa using hgn)).set4 _ _ _ _
        · exact ((only_setCell w4 ⟨w.heap.size, 0, none⟩ _).mono (fun b hb => .inl (by simp at hb; simp [hb]))).trans (setRow_onlyV _ g k _ _ _ _) (fun b hb => .inl (by simp at hb; simp [hb]))
  case done =>
    rintro D S W hD ⟨A2, c2, es, hb, how, rfl, hO⟩ hK
    obtain ⟨c0, cl⟩ := hb.facts1
    have HO := Lib.hid hO
    have HD := Lib.hid hK
    have HOW := Lib.hid how
    clear how hO hb hK
    go_wp2_with (fail)
    refine ⟨by simp, .inl ⟨_, _, rfl, run_takeDeferred HD.out, ?_⟩⟩
    have hk := KeepC.putObj (B := D) (o' := .deferred none) HD.out rfl (Nat.le_refl _)
    exact ⟨_, results_tmp rfl _ _ _, A2, c2, es, rfl, (HOW.out.keepC hk).row hlen, HOW.out.all, HO.out.keepC hk (by omega)⟩
theorem collect_any {w : World} {gf : Nat} {lb : Array Value} {T : List Vt} {prot : List Nat} (hs0 : SeqsP Tryd.prog gf lb T.length (WR T) prot w) (hprot : ∀ b ∈ prot, b < w.heap.size) (hlen : T.length ≤ 1048576) (eg : ∀ args w, (callFunc gf args).run Tryd.prog w = .ok (.enter gf args) w) :
    Calls Tryd.prog 29 #[.func (.func gf) #[] lb] w fun e w' => ∃ A2 c2 es, e = .returned (.slice A2 T.length c2) ∧ RowLV w' A2 es ∧ es.map Vx.tr = T ∧ Only [] w w' := by
  have t := Lib.hid (appendseq_any hs0 hprot hlen eg)
  clear hs0 hprot hlen eg
  go_enter Tryd.func29, Tryd.ntmps29
  go_wp2_with (fail)
  refine t.out.mono ?_
  clear t
  rintro e w1 ⟨A2, c2, es, rfl, hrow, htr, o2⟩
  have HO := Lib.hid (And.intro hrow (And.intro htr o2))
  clear o2 hrow htr
  go_wp2_with (fail)
  go_ret
  exact ⟨A2, c2, es, rfl, HO.out⟩
end Go.Proofs.YtgpljjejfebhoaaDoor
