/- slices.Collect of Walk: how many. -/
import Derived.Test.YtfnacnlaphpflaaDoorWalks
import Derived.Test.YtfnacnlaphpflaaDoorFactsA
namespace Go.Proofs.YtfnacnlaphpflaaDoor
open Go.RowKit Go.Kx
attribute [local go_sem] Oper.semAt_some
set_option maxRecDepth 100000

theorem _root_.Go.Kx.SeqsP.later {P : Program} {gf : Nat} {lb : Array Value} {N : Nat} {R : Nat → Array Value → World → Prop} {prot : List Nat} {w w' : World} (h : SeqsP P gf lb N R prot w) (o : Only [] w w') : SeqsP P gf lb N R prot w' :=
  fun l J Jx W S hK hl => h l J Jx W S ((KeepC.of_only o).trans (hK.mono o.size)) (Nat.le_trans o.size hl)
theorem wp_append_run {P : Program} {w w1 : World} {o : Oper} {a : Act} {K : Act → World → Prop} {Q : Exit → Act → World → Prop} {v xv r : Value} {t1 t2 ty : TypeId}
    (hrun : (Builtin.append_ #[t1, t2] ty #[v, xv]).run P w = .ok r w1) (s x : Operand)
    (hop : o.op = .call { callee := .builtin .append, args := #[s, x], argTypes := #[t1, t2] }) (hty : o.type = ty) (hs : a.eval s = v) (hx : a.eval x = xv)
    (hK : K (a.put o.dst r) w1) : o.wp P a w K Q := by
  subst hty
  unfold Oper.wp execOp
  simp only [hop, resolve, invoke, builtin, Sem.run_bind, Sem.run_pure, Result.andThen_ok, List.map_toArray, List.map_cons, List.map_nil, hs, hx, hrun]
  exact hK
/-- an own row of expressions, whatever it holds -/
def Own5 (B : Nat) (W : World) (A : Option Addr) (k c : Nat) : Prop := ∃ xs, W.ownsRow B 24 5 (.slice A k c) k xs
theorem Own5.only {B k c : Nat} {A : Option Addr} {T : List Nat} {W W' : World} (h : Own5 B W A k c) (o : Only T W W') (hT : ∀ p, A = some p → p.block ∉ T) : Own5 B W' A k c := by
  obtain ⟨xs, h⟩ := h
  refine ⟨xs, ownsRow_only o h (fun g hg => ?_)⟩
  cases A with
  | none => simp [Value.ownBlock] at hg
  | some p => simp [Value.ownBlock] at hg; subst hg; exact hT p rfl
theorem Own5.keepC {B C k c : Nat} {A : Option Addr} {W W' : World} (h : Own5 B W A k c) (o : KeepC C W W') : Own5 B W' A k c := by
  obtain ⟨xs, h⟩ := h
  exact ⟨xs, ownsRow_keepC o h⟩
theorem own_set1 {W : World} {base n cap b j : Nat} {t : TypeId} {xs : List Value} {u : Value} (h : W.ownsRow base t 5 (.slice (some ⟨b, 0, none⟩) n cap) n xs) :
    (W.setCell ⟨b, j, none⟩ u).ownsRow base t 5 (.slice (some ⟨b, 0, none⟩) n cap) n (xs.set j u) := by
  rcases h.2 with ⟨h1, h2⟩ | ⟨g, cap', cur, h1, hb, hg, hnc, hcm, hcs, hcur⟩
  · cases h1
  · injection h1 with h1 _ h3
    injection h1 with h1
    injection h1 with h1 _ _
    subst h1
    subst h3
    refine ⟨by rw [List.length_set]; exact h.1, .inr ⟨b, cap, cur.setIfInBounds j u, rfl, hb, Blk.set_ (w := W) (cs := cur) (t := t) hg _ _, hnc, hcm, by simp [hcs], ?_⟩⟩
    rw [← hcur]
    simp [List.take_set]
theorem Own5.set5 {B k c g i : Nat} {W : World} (h : Own5 B W (some ⟨g, 0, none⟩) k c) (a b x d e : Value) : Own5 B (set5 W g i a b x d e) (some ⟨g, 0, none⟩) k c := by
  obtain ⟨xs, h⟩ := h
  exact ⟨_, own_set1 (own_set1 (own_set1 (own_set1 (own_set1 h))))⟩
theorem Own5.blk {B k c : Nat} {A : Option Addr} {W : World} (h : Own5 B W A k c) (hk : 0 < k) : ∃ g cur, A = some ⟨g, 0, none⟩ ∧ B ≤ g ∧ Blk W g 24 cur ∧ cur.size = c * 5 ∧ k ≤ c := by
  obtain ⟨xs, h⟩ := h
  rcases h.2 with ⟨h1, h2⟩ | ⟨g, cap', cur, h1, hb, hg, hnc, hcm, hcs, hcur⟩
  · omega
  · injection h1 with h1 _ h3
    subst h3
    exact ⟨g, cur, h1, hb, hg, hcs, hnc⟩
theorem Own5.lt {B k c : Nat} {p : Addr} {W : World} (h : Own5 B W (some p) k c) : B ≤ p.block ∧ p.block < W.heap.size := by
  obtain ⟨xs, h⟩ := h
  exact h.lt p.block rfl
theorem Own5.ne {B k c b : Nat} {t : TypeId} {cs : Array Value} {p : Addr} {W : World} (h : Own5 B W (some p) k c) (hb : Blk W b t cs) (ht : t ≠ 24) : p.block ≠ b := by
  obtain ⟨xs, h⟩ := h
  rcases h.2 with ⟨h1, h2⟩ | ⟨g, cap', cur, h1, _, hg, _⟩
  · cases h1
  · injection h1 with h1 _ _
    injection h1 with h1
    subst h1
    rintro rfl
    have := hb.symm.trans hg
    injection this with this
    injection this with _ this _
    exact ht this
theorem _root_.Go.Kx.Blk.facts1 {w : World} {g : Nat} {t : TypeId} {a : Value} (h : Blk w g t #[a]) : w.cell? ⟨g, 0, none⟩ = some a ∧ g < w.heap.size := ⟨h.cell 0, h.lt⟩
theorem run_append5 {w : World} {B k c z : Nat} {A : Option Addr} (h : Own5 B w A k c) (hz : Blk w z 24 #[.int .i64 0, .int .i64 0, .string ⟨#[]⟩, .string ⟨#[]⟩, .slice none 0 0]) (hB : B ≤ w.heap.size) (hk : k < 1048576) :
    ∃ g c' w1, (Builtin.append_ #[22, 22] 22 #[.slice A k c, .slice (some ⟨z, 0, none⟩) 1 1]).run Tryd.prog w = .ok (.slice (some ⟨g, 0, none⟩) (k + 1) c') w1 ∧ Own5 B w1 (some ⟨g, 0, none⟩) (k + 1) c' ∧ Only (A.toList.map (·.block)) w w1 ∧ ((∃ p, A = some p ∧ p.block = g) ∨ w.heap.size ≤ g) := by
  obtain ⟨xs, hown⟩ := h
  obtain ⟨i, hi, h0, h1, h2⟩ := info_parts ex_info
  obtain ⟨v', w1, hr, ho, hg, hn, hat⟩ := run_append_own_at (P := Tryd.prog) w B 22 22 24 i zE 5 72 Tryd.underlying22 hi h0 h1 h2 rfl (by omega) _ k xs hown ⟨z, 0, none⟩ 1 1 [.int .i64 0, .int .i64 0, .string ⟨#[]⟩, .string ⟨#[]⟩, .slice none 0 0] rfl
    (by intro j u hj
        rw [Addr.add_lit, Nat.zero_add]
        refine (hz.cell j).trans ?_
        rw [← hj]
        simp)
    (by intro u hu; simp at hu; rcases hu with rfl | rfl | rfl <;> rfl) (by unfold maxLen; omega) (by omega) hB
  rcases ho.2 with ⟨rfl, hn0⟩ | ⟨g, cap, cur, rfl, hrest⟩
  · omega
  · refine ⟨g, cap, w1, hr, ⟨_, ho⟩, ?_, ?_⟩
    · refine (Only.of_grownBy hg).mono (fun x hx => .inl ?_)
      cases A with
      | none => simp [Value.ownBlock] at hx
      | some p => simp [Value.ownBlock] at hx; simp [hx]
    · rcases hat with h | h
      · left
        cases A with
        | none => simp [Value.ownBlock] at h
        | some p => simp [Value.ownBlock] at h; exact ⟨p, rfl, h.symm⟩
      · right; simp [Value.ownBlock] at h; omega
set_option maxHeartbeats 4000000 in
theorem appendseq_any {w : World} {cb N : Nat} {R : Nat → Array Value → World → Prop} {prot : List Nat} (hs0 : SeqsP Tryd.prog 34 #[.pointer (some ⟨cb, 0, none⟩)] N R prot w) (hprot : ∀ b ∈ prot, b < w.heap.size) (hlen : N ≤ 1048576)
    (hval : ∀ k v W, R k v W → ∃ (op n : Int) (nm sb : ByteArray) (A : Option Addr) (cap : Nat) (args : List Ex), v = #[.agg #[.int .i64 op, .int .i64 n, .string nm, .string sb, .slice A args.length cap]]) :
    Calls Tryd.prog 53 #[.slice none 0 0, .func (.func 34) #[] #[.pointer (some ⟨cb, 0, none⟩)]] w fun e w' => ∃ A2 c2, e = .returned (.slice A2 N c2) ∧ Only [] w w' := by
  refine calls_marks Tryd.func53 rfl ?_
  simp only [Tryd.ntmps53, List.size_toArray, List.length_cons, List.length_nil, Nat.reduceAdd, Nat.reduceSub, Array.replicate_succ, Array.replicate_zero, List.push_toArray, List.append_toArray, List.nil_append, List.cons_append]
  go_wp2_with (fail)
  have hr : Blk (w.alloc (.cells #[.slice none 0 0] 22)) w.heap.size 22 #[.slice none 0 0] := Blk.new w 22 _
  have ho : Only [] w (w.alloc (.cells #[.slice none 0 0] 22)) := (Only.refl _ _).alloc _
  have hseq := hs0.later ho
  clear hs0
  generalize w.alloc (.cells #[.slice none 0 0] 22) = w2 at hr ho hseq ⊢
  have hs := ho.size
  have hrl := hr.lt
  have HVAL := Lib.hid hval
  clear hval
  refine' wp_rangeFunc_seqsP (gf := 34) (lb := #[.pointer (some ⟨cb, 0, none⟩)]) (N := N) (R := R) rfl (enters Tryd.func34 (by kernel_rfl) rfl)
    hseq (by intro k v W hv; obtain ⟨_, _, _, _, _, _, _, rfl⟩ := HVAL.out k v W hv; rfl) [w.heap.size] (by simp; omega) (by intro b hb; have := hprot b hb; simp; omega)
    (fun k S W => ∃ A2 c2, Blk W w.heap.size 22 #[.slice A2 k c2] ∧ Own5 w.heap.size W A2 k c2 ∧ S = w.heap.size :: A2.toList.map (·.block) ∧ Only [] w W) (fun _ _ => False) ?hI (fun _ _ _ h _ => h) ?h0 ?round ?done (fun _ _ _ _ h _ => h.elim)
  case hI =>
    rintro k S W1 W2 ⟨A2, c2, h1, h2, rfl, h4⟩ hk
    exact ⟨A2, c2, hk.blk h1, h2.keepC hk, rfl, h4.keepC hk hs⟩
  case h0 => exact ⟨none, 0, hr, ⟨_, World.ownsRow_nil _ _ _ _⟩, rfl, ho⟩
  case round =>
    intro l k v S V hl hlS hk hR hIV
    have hSV : ∀ b ∈ S, b < V.heap.size := by
      obtain ⟨A2, c2, hb, how, rfl, hO⟩ := hIV
      intro b hb2
      rcases List.mem_cons.1 hb2 with rfl | h
      · exact hb.lt
      · cases A2 with
        | none => simp at h
        | some p => simp at h; subst h; exact how.lt.2
    obtain ⟨op, n, nm, sb, A, cap, args, rfl⟩ := HVAL.out k v V hR
    have HSV := Lib.hid hSV
    clear hSV hIV hR
    gi_wp2_with (fail)
    refine ⟨(Only.refl [] V).alloc _, fun X hrec hIX hkk => ?_⟩
    obtain ⟨A2, c2, hb, how, rfl, hO⟩ := hIX
    have hsb := hkk.blk (Blk.new V 24 #[.int .i64 op, .int .i64 n, .string nm, .string sb, .slice A args.length cap])
    obtain ⟨pb, hpb⟩ : ∃ pb, V.heap.size = pb := ⟨_, rfl⟩
    rw [hpb] at HSV hsb ⊢
    have HB := Lib.hid hb
    have HOW := Lib.hid how
    have HO := Lib.hid hO
    have HSB := Lib.hid hsb
    clear hkk hb how hO hsb hrec hpb
    gi_wp2_with (fail)
    have hnb : w.heap.size < X.heap.size := HB.out.lt
    have HWX := Lib.hid hnb
    clear hnb
    refine wpIn_region_relA 4 (Only []) (fr := ?frg) (fun iq v wv => match iq with
      | 0 => v = .slice A2 k c2
      | 1 => v = .agg #[.int .i64 op, .int .i64 n, .string nm, .string sb, .slice A args.length cap]
      | 2 => v = .int .i64 (k : Int)
      | 3 => ∃ z, v = .slice (some ⟨z, 0, none⟩) 1 1 ∧ Blk wv z 24 #[.int .i64 0, .int .i64 0, .string ⟨#[]⟩, .string ⟨#[]⟩, .slice none 0 0]
      | _ => True) (.inr ⟨_, rfl⟩) (by kernel_rfl) (by kernel_rfl) (by kernel_rfl) (by kernel_rfl) (by kernel_rfl) (by decide) ?hfrg (Only.refl _ _) (fun _ _ _ h k => h.trans k (fun _ hx => .inl hx)) ?stabg ?stepsg ?doneg
    case hfrg => intro vals; simp only [putAll, dstAt, Act.put, List.getElem?_toArray, List.getElem?_cons_zero, List.getElem?_cons_succ, Option.bind_some, List.setIfInBounds_toArray, List.set_cons_zero, List.set_cons_succ]; rfl
    case stabg =>
      intro i v wa wb h
      try dsimp only
      split <;> first | exact id | (rintro ⟨z, h1, h2⟩; exact ⟨z, h1, h.blk h2 (by simp)⟩)
    case stepsg =>
      refine ⟨?_, ?_, ?_, ?_, trivial⟩
      · intro vals wr hR hp K hK
        dsimp only at hK ⊢
        clear hp
        unfold RunsOp
        have tg := hR.blk (Blk.drew HB.out) (by simp)
        obtain ⟨k0, kl⟩ := tg.facts1
        clear tg
        go_simp
        exact hK.out _ _ ⟨_, rfl, Only.refl _ _, rfl⟩
      · intro vals wr hR hp K hK
        dsimp only at hK ⊢
        clear hp
        unfold RunsOp
        have tg := hR.blk (Blk.drew HSB.out) (by simp)
        obtain ⟨k0, k1, k2, k3, k4, kl⟩ := tg.facts5
        clear tg
        go_simp
        exact hK.out _ _ ⟨_, rfl, Only.refl _ _, rfl⟩
      · intro vals wr hR hp K hK
        dsimp only at hK ⊢
        obtain ⟨p0, -⟩ := hp
        replace p0 := p0 rfl
        dsimp only at p0
        rw [p0] at hK ⊢
        clear p0
        unfold RunsOp
        go_simp
        exact hK.out _ _ ⟨_, rfl, Only.refl _ _, rfl⟩
      · intro vals wr hR hp K hK
        dsimp only at hK ⊢
        clear hp
        unfold RunsOp
        have hz := Blk.new wr 24 #[.int .i64 0, .int .i64 0, .string ⟨#[]⟩, .string ⟨#[]⟩, .slice none 0 0]
        go_simp
        exact hK.out _ _ ⟨_, rfl, (Only.refl [] wr).alloc _, _, rfl, hz⟩
    case doneg =>
      intro vals wd hR hF fuel hfu
      have f0 : vals 0 = .slice A2 k c2 := hF 0 (by decide)
      have f1 : vals 1 = .agg #[.int .i64 op, .int .i64 n, .string nm, .string sb, .slice A args.length cap] := hF 1 (by decide)
      have f2 : vals 2 = .int .i64 (k : Int) := hF 2 (by decide)
      have f3 : ∃ z, (vals 3) = .slice (some ⟨z, 0, none⟩) 1 1 ∧ Blk wd z 24 #[.int .i64 0, .int .i64 0, .string ⟨#[]⟩, .string ⟨#[]⟩, .slice none 0 0] := hF 3 (by decide)
      rw [f0, f1, f2]
      clear f0 f1 f2
      obtain ⟨z, f3, hz⟩ := f3
      rw [f3]
      clear f3 hF
      have oXd : Only [] X wd := ((Only.refl [] X).drew).trans hR (by simp)
      have HOd := Lib.hid oXd
      obtain ⟨g, c', w4, hrun, how4, o4, hg4⟩ := run_append5 (HOW.out.only oXd (fun _ _ => by simp)) hz (by have := HWX.out; have := oXd.size; omega) (by omega)
      have HOW4 := Lib.hid how4
      have HO4 := Lib.hid o4
      have HG4 := Lib.hid hg4
      clear hR oXd hz how4 o4 hg4
      refine wpAnyIn_place (by kernel_rfl) ?_ fuel hfu
      refine wpOpIn_of_plain (.inr ⟨_, rfl⟩) (fun c h => by cases h) rfl (fun K' hK => ?_)
      rw [if_pos (by rfl)]
      refine wp_append_run hrun _ _ rfl rfl rfl rfl (hK _ _ ?_)
      have hb4 : Blk w4 w.heap.size 22 #[.slice A2 k c2] := HO4.out.blk (HOd.out.blk HB.out (by simp)) (fun hm => by
        cases A2 with
        | none => simp at hm
        | some p => simp at hm; exact HOW.out.ne HB.out (by decide) hm.symm)
      obtain ⟨g', cur, hg', hgB, hbg, hcs, hkc⟩ := HOW4.out.blk (Nat.succ_pos _)
      injection hg' with hg'
      injection hg' with hg' _ _
      subst hg'
      have hgn : g ≠ w.heap.size := HOW4.out.ne hb4 (by decide)
      have hng : w.heap.size ≠ g := fun h => hgn h.symm
      have HFIN := Lib.hid (show ∀ W', Blk W' w.heap.size 22 #[.slice (some ⟨g, 0, none⟩) (k + 1) c'] → Own5 w.heap.size W' (some ⟨g, 0, none⟩) (k + 1) c' → Only [g, w.heap.size] w4 W' →
          (∃ S', (∃ A3 c3, Blk W' w.heap.size 22 #[.slice A3 (k + 1) c3] ∧ Own5 w.heap.size W' A3 (k + 1) c3 ∧ S' = w.heap.size :: A3.toList.map (·.block) ∧ Only [] w W') ∧ ∀ b ∈ S', (b ∈ w.heap.size :: A2.toList.map (·.block) ∨ X.heap.size ≤ b) ∧ b < W'.heap.size) ∧ Only (w.heap.size :: A2.toList.map (·.block)) X W' from by
        intro W' h1 h2 h3
        have o5 : Only (w.heap.size :: A2.toList.map (·.block)) X W' := ((HOd.out.mono (fun _ h => by simp at h)).trans HO4.out (fun b hb => .inl (List.mem_cons_of_mem _ hb))).trans h3 (fun b hb => by
          simp at hb
          rcases hb with rfl | rfl
          · rcases HG4.out with ⟨p, rfl, hp⟩ | h
            · left; simp [hp]
            · right; exact Nat.le_trans HOd.out.size h
          · left; simp)
        exact ⟨⟨_, ⟨_, _, h1, h2, rfl, HO.out.trans o5 (fun b hb => by
          rcases List.mem_cons.1 hb with rfl | h
          · exact .inr (Nat.le_refl _)
          · cases A2 with
            | none => simp at h
            | some p => simp at h; subst h; exact .inr HOW.out.lt.1)⟩, fun b hb => by
          simp at hb
          rcases hb with rfl | rfl
          · exact ⟨.inl (by simp), h1.lt⟩
          · refine ⟨?_, h2.lt.2⟩
            rcases HG4.out with ⟨p, rfl, hp⟩ | h
            · left; simp [hp]
            · right; exact Nat.le_trans HOd.out.size h⟩, o5⟩)
      obtain ⟨v0, g0⟩ := hbg.cellsAt (k * 5) (by omega)
      obtain ⟨v1, g1⟩ := hbg.cellsAt (k * 5 + 1) (by omega)
      obtain ⟨v2, g2⟩ := hbg.cellsAt (k * 5 + 2) (by omega)
      obtain ⟨v3, g3⟩ := hbg.cellsAt (k * 5 + 3) (by omega)
      obtain ⟨v4, g4⟩ := hbg.cellsAt (k * 5 + 4) (by omega)
      have f0 := hbg.frozen (k * 5)
      have f1 := hbg.frozen (k * 5 + 1)
      have f2 := hbg.frozen (k * 5 + 2)
      have f3 := hbg.frozen (k * 5 + 3)
      have f4 := hbg.frozen (k * 5 + 4)
      obtain ⟨n0, nl⟩ := hb4.facts1
      have fn0 := hb4.frozen 0
      have HB4 := Lib.hid hb4
      have hki : (0 : Int) ≤ (k : Int) := by omega
      have hki2 : (k : Int) < (((k + 1 : Nat)) : Int) := by omega
      have hki3 : (k : Int) < (k : Int) + 1 := by omega
      clear hb4 hbg hrun hk hfu hlen hs hrl hl hlS
      refine ⟨wpOpIn_of_plain (.inr ⟨_, rfl⟩) (fun c h => by cases h) rfl (fun K1 hK1 => ?_), wpOpIn_of_plain (.inr ⟨_, rfl⟩) (fun c h => by cases h) rfl (fun K1 hK1 => ?_)⟩
      · rw [if_pos (by rfl)]
        go_simp
        refine hK1 _ _ ⟨wpOpIn_of_plain (.inr ⟨_, rfl⟩) (fun c h => by cases h) rfl (fun K2 hK2 => ?_), wpOpIn_of_plain (.inr ⟨_, rfl⟩) (fun c h => by cases h) rfl (fun K2 hK2 => ?_)⟩
        · rw [if_pos (by rfl)]
          go_simp
          refine hK2 _ _ (wpOpIn_of_plain (.inr ⟨_, rfl⟩) (fun c h => by cases h) rfl (fun K3 hK3 => ?_))
          rw [if_pos (by rfl)]
          go_simp
          refine hK3 _ _ (HFIN.out _ ?_ ?_ ?_)
          · exact (((set5_only w4 g k _ _ _ _ _).blk HB4.out (by simpa using hng)).set_ 0 _)
          · exact (HOW4.out.set5 _ _ _ _ _).only (only_setCell _ _ _) (fun p hp => by injection hp with hp; subst hp; simpa using hgn)
          · exact ((set5_only w4 g k _ _ _ _ _).mono (fun b hb => .inl (by simp at hb; simp [hb]))).setCell (.inl (by simp)) _
        · rw [if_pos (by rfl)]
          go_simp
          refine hK2 _ _ (wpOpIn_of_plain (.inr ⟨_, rfl⟩) (fun c h => by cases h) rfl (fun K3 hK3 => ?_))
          rw [if_pos (by rfl)]
          go_simp
          refine hK3 _ _ (HFIN.out _ ?_ ?_ ?_)
          · exact (set5_only (w4.setCell ⟨w.heap.size, 0, none⟩ _) g k _ _ _ _ _).blk (HB4.out.set_ 0 _) (by simpa using hng)
          · exact (HOW4.out.only (only_setCell w4 ⟨w.heap.size, 0, none⟩ _) (fun p hp => by injection hp with hp; subst hp; simpa using hgn)).set5 _ _ _ _ _
          · exact ((only_setCell w4 ⟨w.heap.size, 0, none⟩ _).mono (fun b hb => .inl (by simp at hb; simp [hb]))).trans (set5_only _ g k _ _ _ _ _) (fun b hb => .inl (by simp at hb; simp [hb]))
      · rw [if_pos (by rfl)]
        go_simp
        refine hK1 _ _ (wpOpIn_of_plain (.inr ⟨_, rfl⟩) (fun c h => by cases h) rfl (fun K2 hK2 => ?_))
        rw [if_pos (by rfl)]
        go_simp
        refine hK2 _ _ (wpOpIn_of_plain (.inr ⟨_, rfl⟩) (fun c h => by cases h) rfl (fun K3 hK3 => ?_))
        rw [if_pos (by rfl)]
        go_simp
        refine hK3 _ _ (HFIN.out _ ?_ ?_ ?_)
        · exact (set5_only (w4.setCell ⟨w.heap.size, 0, none⟩ _) g k _ _ _ _ _).blk (HB4.out.set_ 0 _) (by simpa using hng)
        · exact (HOW4.out.only (only_setCell w4 ⟨w.heap.size, 0, none⟩ _) (fun p hp => by injection hp with hp; subst hp; simpa using hgn)).set5 _ _ _ _ _
        · exact ((only_setCell w4 ⟨w.heap.size, 0, none⟩ _).mono (fun b hb => .inl (by simp at hb; simp [hb]))).trans (set5_only _ g k _ _ _ _ _) (fun b hb => .inl (by simp at hb; simp [hb]))
  case done =>
    rintro D S W hD ⟨A2, c2, hb, how, rfl, hO⟩ hK
    obtain ⟨c0, cl⟩ := hb.facts1
    have HO := Lib.hid hO
    have HD := Lib.hid hK
    clear how hO hb hK
    go_wp2_with (fail)
    refine ⟨by simp, .inl ⟨_, _, rfl, run_takeDeferred HD.out, ?_⟩⟩
    have hk := KeepC.putObj (B := D) (o' := .deferred none) HD.out rfl (Nat.le_refl _)
    exact ⟨_, results_tmp rfl _ _ _, A2, c2, rfl, HO.out.keepC hk (by omega)⟩
theorem collect_any {w : World} {cb N : Nat} {R : Nat → Array Value → World → Prop} {prot : List Nat} (hs0 : SeqsP Tryd.prog 34 #[.pointer (some ⟨cb, 0, none⟩)] N R prot w) (hprot : ∀ b ∈ prot, b < w.heap.size) (hlen : N ≤ 1048576)
    (hval : ∀ k v W, R k v W → ∃ (op n : Int) (nm sb : ByteArray) (A : Option Addr) (cap : Nat) (args : List Ex), v = #[.agg #[.int .i64 op, .int .i64 n, .string nm, .string sb, .slice A args.length cap]]) :
    Calls Tryd.prog 32 #[.func (.func 34) #[] #[.pointer (some ⟨cb, 0, none⟩)]] w fun e w' => ∃ A2 c2, e = .returned (.slice A2 N c2) ∧ Only [] w w' := by
  have t := Lib.hid (appendseq_any hs0 hprot hlen hval)
  clear hs0 hprot hlen hval
  go_enter Tryd.func32, Tryd.ntmps32
  go_wp2_with (fail)
  refine t.out.mono ?_
  clear t
  rintro e w1 ⟨A2, c2, rfl, o2⟩
  have HO := Lib.hid o2
  clear o2
  go_wp2_with (fail)
  go_ret
  exact ⟨A2, c2, rfl, HO.out⟩
end Go.Proofs.YtfnacnlaphpflaaDoor
