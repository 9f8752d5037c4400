/- The reference's Parts. -/
import Derived.Test.YtcggeogpanackaaRow4
import Derived.Test.YtcggeogpanackaaFacts2
namespace Go.Proofs.Ytcggeogpanackaa
open Go.RowKit Go.Kx
set_option maxRecDepth 20000

/-- three rows of one's own, apart -/
structure Tri3 (B : Nat) (w : World) (A1 A2 A3 : Option Addr) (c1 c2 c3 : Nat) (L1 L2 L3 : List En) : Prop where
  o1 : w.ownsRow B 45 4 (.slice A1 L1.length c1) L1.length (flat4 L1)
  o2 : w.ownsRow B 45 4 (.slice A2 L2.length c2) L2.length (flat4 L2)
  o3 : w.ownsRow B 45 4 (.slice A3 L3.length c3) L3.length (flat4 L3)
  n12 : ∀ p q, A1 = some p → A2 = some q → p.block ≠ q.block
  n13 : ∀ p q, A1 = some p → A3 = some q → p.block ≠ q.block
  n23 : ∀ p q, A2 = some p → A3 = some q → p.block ≠ q.block
theorem own_lt' {B : Nat} {w : World} {A : Option Addr} {n c : Nat} {e : TypeId} {xs : List Value} (h : w.ownsRow B e 4 (.slice A n c) n xs) : ∀ p, A = some p → p.block < w.heap.size ∧ B ≤ p.block := fun p hp => by
  have := h.lt p.block (by rw [hp]; rfl)
  exact ⟨this.2, this.1⟩
theorem Tri3.keep {B : Nat} {w w' : World} {A1 A2 A3 : Option Addr} {c1 c2 c3 : Nat} {L1 L2 L3 : List En} (h : Tri3 B w A1 A2 A3 c1 c2 c3 L1 L2 L3) (o : Only [] w w') : Tri3 B w' A1 A2 A3 c1 c2 c3 L1 L2 L3 :=
  ⟨ownsRow_only o h.o1 (fun _ _ => by simp), ownsRow_only o h.o2 (fun _ _ => by simp), ownsRow_only o h.o3 (fun _ _ => by simp), h.n12, h.n13, h.n23⟩
theorem Tri3.nil (B : Nat) (w : World) : Tri3 B w none none none 0 0 0 [] [] [] :=
  ⟨World.ownsRow_nil _ _ _ _, World.ownsRow_nil _ _ _ _, World.ownsRow_nil _ _ _ _, (fun _ _ h => by cases h), (fun _ _ h => by cases h), (fun _ _ h => by cases h)⟩
theorem Tri3.rot {B : Nat} {w : World} {A1 A2 A3 : Option Addr} {c1 c2 c3 : Nat} {L1 L2 L3 : List En} (h : Tri3 B w A1 A2 A3 c1 c2 c3 L1 L2 L3) : Tri3 B w A2 A3 A1 c2 c3 c1 L2 L3 L1 :=
  ⟨h.o2, h.o3, h.o1, h.n23, fun p q hp hq e => h.n12 q p hq hp e.symm, fun p q hp hq e => h.n13 q p hq hp e.symm⟩
/-- one entry more to the first one -/
theorem Tri3.push {B : Nat} {w : World} {A1 A2 A3 : Option Addr} {c1 c2 c3 : Nat} {L1 L2 L3 : List En} (h : Tri3 B w A1 A2 A3 c1 c2 c3 L1 L2 L3) (x : En) (hB : B ≤ w.heap.size) (h20 : L1.length ≤ 1048576) :
    ∃ g cap w1, (Builtin.append_ #[32, 32] 32 #[.slice A1 L1.length c1, .slice (some ⟨w.heap.size, 0, none⟩) 1 1]).run Try.prog (w.alloc (.cells #[.int .i64 x.1.1.1, .int .i64 x.1.1.2, .int .i64 x.1.2, .int .i64 x.2] 45)) = .ok (.slice (some ⟨g, 0, none⟩) (L1.length + 1) cap) w1 ∧
      Tri3 B w1 (some ⟨g, 0, none⟩) A2 A3 cap c2 c3 (L1 ++ [x]) L2 L3 ∧ Only (A1.toList.map (·.block)) w w1 ∧ ∀ b ∈ A1.toList.map (·.block), B ≤ b := by
  obtain ⟨g, cap, w1, hr, ho, o, hg⟩ := run_append4 (P := Try.prog) 45 32 Try.underlying32 ref_info rfl h.o1 x hB (by unfold maxLen; omega) (by omega)
  have oo : Only (A1.toList.map (·.block)) w w1 := o.mono (fun y hy => .inl (by cases A1 with | none => simp [Value.ownBlock] at hy | some p => simp [Value.ownBlock] at hy; simp [hy]))
  have e1 : (L1 ++ [x]).length = L1.length + 1 := by simp
  have ap : ∀ p, (∀ q, A1 = some q → q.block ≠ p) → p < w.heap.size → g ≠ p := fun p hp hlt e => by
    rcases hg with h | h
    · cases A1 with
      | none => simp [Value.ownBlock] at h
      | some q => simp [Value.ownBlock] at h; exact hp q rfl (by omega)
    · omega
  refine ⟨g, cap, w1, hr, ⟨by rw [e1, flat4_snoc]; exact ho, ?_, ?_, ?_, ?_, h.n23⟩, oo, ?_⟩
  · refine ownsRow_only oo h.o2 (fun b hb hm => ?_)
    rw [List.mem_map] at hm
    obtain ⟨p, hp, e⟩ := hm
    cases A2 with
    | none => simp [Value.ownBlock] at hb
    | some q => simp [Value.ownBlock] at hb; exact h.n12 p q (by simpa using hp) rfl (by omega)
  · refine ownsRow_only oo h.o3 (fun b hb hm => ?_)
    rw [List.mem_map] at hm
    obtain ⟨p, hp, e⟩ := hm
    cases A3 with
    | none => simp [Value.ownBlock] at hb
    | some q => simp [Value.ownBlock] at hb; exact h.n13 p q (by simpa using hp) rfl (by omega)
  · intro p q hp hq
    cases hp
    exact ap q.block (fun r hr => h.n12 r q hr hq) (own_lt' h.o2 q hq).1
  · intro p q hp hq
    cases hp
    exact ap q.block (fun r hr => h.n13 r q hr hq) (own_lt' h.o3 q hq).1
  · intro b hb
    rw [List.mem_map] at hb
    obtain ⟨p, hp, rfl⟩ := hb
    exact (own_lt' h.o1 p (by simpa using hp)).2
theorem pa_snoc (L : List En) (e : En) (s : St) : paT (L ++ [e]) s = if stC e.1 s < 0 then paT L s ++ [e] else paT L s := by
  unfold paT; rw [List.filter_append]; by_cases h : stC e.1 s < 0 <;> simp [h]
theorem pb_snoc (L : List En) (e : En) (s : St) : pbT (L ++ [e]) s = if stC e.1 s = 0 then pbT L s ++ [e] else pbT L s := by
  unfold pbT; rw [List.filter_append]; by_cases h : stC e.1 s = 0 <;> simp [h]
theorem pc_snoc (L : List En) (e : En) (s : St) : pcT (L ++ [e]) s = if 0 < stC e.1 s then pcT L s ++ [e] else pcT L s := by
  unfold pcT; rw [List.filter_append]; by_cases h : 0 < stC e.1 s <;> simp [h]
theorem pa_le (L : List En) (s : St) : (paT L s).length ≤ L.length := List.length_filter_le _ _
theorem pb_le (L : List En) (s : St) : (pbT L s).length ≤ L.length := List.length_filter_le _ _
theorem pc_le (L : List En) (s : St) : (pcT L s).length ≤ L.length := List.length_filter_le _ _

set_option maxHeartbeats 4000000 in
theorem parts_any {w : World} {A : Option Addr} {c n : Nat} {L : List En} {s : St} (hM : Row4 w A L) (hn : L.length = n) (h20 : n ≤ 1048576) (hok : ∀ e ∈ L, e.1.ok) (os : s.ok) :
    Calls Try.prog 13 #[.slice A n c, .agg #[.int .i64 s.1.1, .int .i64 s.1.2, .int .i64 s.2]] w fun r w' => ∃ A1 A2 A3 c1 c2 c3, r = .returned (.tuple #[.slice A1 (paT L s).length c1, .slice A2 (pbT L s).length c2, .slice A3 (pcT L s).length c3]) ∧ Tri3 w.heap.size w' A1 A2 A3 c1 c2 c3 (paT L s) (pbT L s) (pcT L s) ∧ Only [] w w' := by
  have HM := Lib.hid hM
  have HN := Lib.hid hn
  have HK := Lib.hid hok
  clear hM hn hok
  go_enter Try.func13, Try.ntmps13
  go_wp2_with (fail)
  go_loopw [7, 8, 9, 10] (fun v1 v2 v3 i wr => ∃ (k : Nat) (A1 A2 A3 : Option Addr) (c1 c2 c3 : Nat), i = .int .i64 k ∧ v1 = .slice A1 (paT (L.take k) s).length c1 ∧ v2 = .slice A2 (pbT (L.take k) s).length c2 ∧ v3 = .slice A3 (pcT (L.take k) s).length c3 ∧ k ≤ n ∧ Tri3 w.heap.size wr A1 A2 A3 c1 c2 c3 (paT (L.take k) s) (pbT (L.take k) s) (pcT (L.take k) s) ∧ Only [] w wr ∧ Blk wr w.heap.size 26 #[.int .i64 s.1.1, .int .i64 s.1.2, .int .i64 s.2]) (fun _ _ _ i _ => n - (intOf i).toNat)
  case atStart => exact ⟨0, none, none, none, 0, 0, 0, rfl, rfl, rfl, rfl, Nat.zero_le _, Tri3.nil _ _, (Only.refl _ _).alloc _, Blk.new _ _ _⟩
  case round =>
    obtain ⟨k, A1, A2, A3, c1, c2, c3, rfl, rfl, rfl, rfl, hk, h3, ho, hs⟩ := hrel
    by_cases hlt : k < n
    · have hkL : k < L.length := by have := HN.out; omega
      obtain ⟨b, o, rfl, a0, a1, a2, a3⟩ := (HM.out.only ho).entry (List.getElem?_eq_getElem hkL)
      have oe := HK.out L[k] (List.getElem_mem _)
      have ea := pa_snoc (L.take k) L[k] s
      have eb := pb_snoc (L.take k) L[k] s
      have ec := pc_snoc (L.take k) L[k] s
      rw [← List.take_succ_eq_append_getElem hkL] at ea eb ec
      have la := pa_le (L.take k) s
      have lb := pb_le (L.take k) s
      have lc := pc_le (L.take k) s
      simp only [List.length_take] at la lb lc
      have hbl : b < wr.heap.size := by
        obtain ⟨f0, _⟩ := flat4_at L k L[k] (List.getElem?_eq_getElem hkL)
        obtain ⟨b', o', hA, hb, _⟩ := (HM.out.only ho) _ _ f0
        cases hA; exact hb
      obtain ⟨y, hy⟩ : ∃ y, stC L[k].1 s = y := ⟨_, rfl⟩
      rw [hy] at ea eb ec
      have HY := Lib.hid hy
      have HEE := Lib.hid (And.intro ea (And.intro eb ec))
      generalize L[k] = t at a0 a1 a2 a3 oe HEE HY
      have HA0 := Lib.hid a0
      have HA1 := Lib.hid a1
      have HA2 := Lib.hid a2
      have HA3 := Lib.hid a3
      have H3 := Lib.hid h3
      have HO := Lib.hid ho
      have HS := Lib.hid hs
      have hsz := ho.size
      clear a0 a1 a2 a3 h3 ho hs ea eb ec hy
      go_wp2_with (fail)
      refine wp_region_facts 7 [] (fr := ?frr) (tl := ?tlr) (fun i v wv => match i with
        | 0 => v = .slice (some ⟨b, o, none⟩) n c
        | 1 => v = .int .i64 k
        | 2 => v = .pointer (some ⟨b, o + k * 4, none⟩)
        | 3 => v = .pointer (some ⟨b, o + k * 4, none⟩)
        | 4 => v = .agg #[.int .i64 t.1.1.1, .int .i64 t.1.1.2, .int .i64 t.1.2]
        | 5 => v = .agg #[.int .i64 s.1.1, .int .i64 s.1.2, .int .i64 s.2]
        | 6 => v = .int .i64 y
        | _ => True) (by kernel_rfl) (by kernel_rfl) (by kernel_rfl) (by kernel_rfl) (by decide) ?htlr ?hfrr ?stabr ?stepsr ?doner
      case htlr => simp only [List.drop_succ_cons, List.drop_zero]; rfl
      case hfrr => intro vals; simp only [putAll, dstAt, Act.put, List.getElem?_toArray, List.getElem?_cons_zero, List.getElem?_cons_succ, Option.bind_some, List.setIfInBounds_toArray, List.set_cons_zero, List.set_cons_succ]; rfl
      case stabr =>
        intro i v wa wb h
        try dsimp only
        split <;> first | exact id | fail
      case stepsr =>
        refine ⟨?_, ?_, ?_, ?_, ?_, ?_, ?_, trivial⟩
        · intro vals wr hR hp K hK
          dsimp only at hK ⊢
          clear hp
          unfold RunsOp
          go_simp
          exact hK.out _ _ ⟨_, rfl, Only.refl _ _, rfl⟩
        · intro vals wr hR hp K hK
          dsimp only at hK ⊢
          clear hp
          unfold RunsOp
          go_simp
          exact hK.out _ _ ⟨_, rfl, Only.refl _ _, rfl⟩
        · intro vals wr hR hp K hK
          dsimp only at hK ⊢
          obtain ⟨p0, p1, -⟩ := hp
          replace p0 := p0 rfl
          replace p1 := p1 rfl
          dsimp only at p0 p1
          rw [p0, p1] at hK ⊢
          clear p0 p1
          unfold RunsOp
          go_simp
          exact hK.out _ _ ⟨_, rfl, Only.refl _ _, rfl⟩
        · intro vals wr hR hp K hK
          dsimp only at hK ⊢
          obtain ⟨p2, -⟩ := hp
          replace p2 := p2 rfl
          dsimp only at p2
          rw [p2] at hK ⊢
          clear p2
          unfold RunsOp
          go_simp
          exact hK.out _ _ ⟨_, rfl, Only.refl _ _, rfl⟩
        · intro vals wr hR hp K hK
          dsimp only at hK ⊢
          obtain ⟨p3, -⟩ := hp
          replace p3 := p3 rfl
          dsimp only at p3
          rw [p3] at hK ⊢
          clear p3
          unfold RunsOp
          have c0 := (hR.cell (p := ⟨b, o + k * 4, none⟩) hbl (by simp)).trans HA0.out
          have c1 := (hR.cell (p := ⟨b, o + k * 4 + 1, none⟩) hbl (by simp)).trans HA1.out
          have c2 := (hR.cell (p := ⟨b, o + k * 4 + 2, none⟩) hbl (by simp)).trans HA2.out
          go_simp
          exact hK.out _ _ ⟨_, rfl, Only.refl _ _, rfl⟩
        · intro vals wr hR hp K hK
          dsimp only at hK ⊢
          clear hp
          unfold RunsOp
          have tb := hR.blk (Blk.drew HS.out) (by simp)
          obtain ⟨c0, c1, c2, cl⟩ := tb.facts3
          clear tb
          go_simp
          exact hK.out _ _ ⟨_, rfl, Only.refl _ _, rfl⟩
        · intro vals wr hR hp K hK
          dsimp only at hK ⊢
          obtain ⟨p4, p5, -⟩ := hp
          replace p4 := p4 rfl
          replace p5 := p5 rfl
          dsimp only at p4 p5
          rw [p4, p5] at hK ⊢
          clear p4 p5
          unfold RunsOp
          go_simp
          refine (refstcmpr t.1 s oe os HY.out _).mono ?_
          rintro e w2 ⟨rfl, o2⟩
          exact hK.out _ _ ⟨_, rfl, o2, rfl⟩
      case doner =>
        intro vals wd hR hF
        have f6 : vals 6 = .int .i64 y := hF 6 (by decide)
        rw [f6]
        have a0 := (hR.cell (p := ⟨b, o + k * 4, none⟩) hbl (by simp)).trans HA0.out
        have a1 := (hR.cell (p := ⟨b, o + k * 4 + 1, none⟩) hbl (by simp)).trans HA1.out
        have a2 := (hR.cell (p := ⟨b, o + k * 4 + 2, none⟩) hbl (by simp)).trans HA2.out
        have a3 := (hR.cell (p := ⟨b, o + k * 4 + 3, none⟩) hbl (by simp)).trans HA3.out
        have T9 := H3.out.keep ((Only.refl [] wr).drew.trans hR (by simp))
        have S9 := Lib.hid (hR.blk (Blk.drew HS.out) (by simp))
        have O9 := Lib.hid (HO.out.drew.trans hR (by simp))
        have hB9 := O9.out.size
        clear hF f6 hR H3 HO HS HA0 HA1 HA2 HA3
        rcases Int.lt_trichotomy y 0 with hy0 | hy0 | hy0
        · obtain ⟨ea, eb, ec⟩ := HEE.out
          rw [if_pos hy0] at ea
          rw [if_neg (by omega)] at eb
          rw [if_neg (by omega)] at ec
          have HE := Lib.hid (And.intro ea (And.intro eb ec))
          clear ea eb ec HEE
          have hd : decide (y < 0) = true := by simpa using hy0
          obtain ⟨g, cap, w10, hrun, T10, o10, hb10⟩ := Tri3.push (T9) t hB9 (by omega)
          have hnS : w.heap.size ∉ A1.toList.map (·.block) := fun h => by
            rw [List.mem_map] at h
            obtain ⟨p, hp, e⟩ := h
            exact owns_ne T9.o1 S9.out (by decide) (by simp at hp; rw [hp]; simp [Value.ownBlock, e])
          have H10 := Lib.hid (T10)
          have S10 := Lib.hid (o10.blk S9.out hnS)
          have O10 := Lib.hid (O9.out.trans o10 (fun x hx => .inr (hb10 x hx)))
          clear T9 T10 o10 hb10 hnS S9 O9 hy0
          go_wp2_with (at_builtin; refine wpList_append_run hrun rfl _ _ rfl rfl rfl rfl ?_)
          go_roundw
          case rel => exact ⟨k + 1, some ⟨g, 0, none⟩, A2, A3, cap, c2, c3, by go_num, by rw [HE.out.1]; simp, by rw [HE.out.2.1], by rw [HE.out.2.2], by omega, by rw [HE.out.1, HE.out.2.1, HE.out.2.2]; exact H10.out, O10.out, S10.out⟩
          case measure => simp [intOf]; omega
        · obtain ⟨ea, eb, ec⟩ := HEE.out
          rw [if_neg (by omega)] at ea
          rw [if_pos hy0] at eb
          rw [if_neg (by omega)] at ec
          have HE := Lib.hid (And.intro ea (And.intro eb ec))
          clear ea eb ec HEE
          have hd : decide (y < 0) = false := by simp; omega
          have hd2 : decide (y = 0) = true := by simpa using hy0
          have hd3 : (y == 0) = true := by simpa using hy0
          obtain ⟨g, cap, w10, hrun, T10, o10, hb10⟩ := Tri3.push (T9.rot) t hB9 (by omega)
          have hnS : w.heap.size ∉ A2.toList.map (·.block) := fun h => by
            rw [List.mem_map] at h
            obtain ⟨p, hp, e⟩ := h
            exact owns_ne T9.o2 S9.out (by decide) (by simp at hp; rw [hp]; simp [Value.ownBlock, e])
          have H10 := Lib.hid (T10.rot.rot)
          have S10 := Lib.hid (o10.blk S9.out hnS)
          have O10 := Lib.hid (O9.out.trans o10 (fun x hx => .inr (hb10 x hx)))
          clear T9 T10 o10 hb10 hnS S9 O9 hy0
          go_wp2_with (at_builtin; refine wpList_append_run hrun rfl _ _ rfl rfl rfl rfl ?_)
          go_roundw
          case rel => exact ⟨k + 1, A1, some ⟨g, 0, none⟩, A3, c1, cap, c3, by go_num, by rw [HE.out.1], by rw [HE.out.2.1]; simp, by rw [HE.out.2.2], by omega, by rw [HE.out.1, HE.out.2.1, HE.out.2.2]; exact H10.out, O10.out, S10.out⟩
          case measure => simp [intOf]; omega
        · obtain ⟨ea, eb, ec⟩ := HEE.out
          rw [if_neg (by omega)] at ea
          rw [if_neg (by omega)] at eb
          rw [if_pos hy0] at ec
          have HE := Lib.hid (And.intro ea (And.intro eb ec))
          clear ea eb ec HEE
          have hd : decide (y < 0) = false := by simp; omega
          have hd2 : decide (y = 0) = false := by simp; omega
          have hd3 : (y == 0) = false := by simp; omega
          obtain ⟨g, cap, w10, hrun, T10, o10, hb10⟩ := Tri3.push (T9.rot.rot) t hB9 (by omega)
          have hnS : w.heap.size ∉ A3.toList.map (·.block) := fun h => by
            rw [List.mem_map] at h
            obtain ⟨p, hp, e⟩ := h
            exact owns_ne T9.o3 S9.out (by decide) (by simp at hp; rw [hp]; simp [Value.ownBlock, e])
          have H10 := Lib.hid (T10.rot)
          have S10 := Lib.hid (o10.blk S9.out hnS)
          have O10 := Lib.hid (O9.out.trans o10 (fun x hx => .inr (hb10 x hx)))
          clear T9 T10 o10 hb10 hnS S9 O9 hy0
          go_wp2_with (at_builtin; refine wpList_append_run hrun rfl _ _ rfl rfl rfl rfl ?_)
          go_roundw
          case rel => exact ⟨k + 1, A1, A2, some ⟨g, 0, none⟩, c1, c2, cap, by go_num, by rw [HE.out.1], by rw [HE.out.2.1], by rw [HE.out.2.2]; simp, by omega, by rw [HE.out.1, HE.out.2.1, HE.out.2.2]; exact H10.out, O10.out, S10.out⟩
          case measure => simp [intOf]; omega
    · obtain rfl : k = n := by omega
      have e1 : L.take k = L := List.take_of_length_le (by have := HN.out; omega)
      rw [e1] at h3
      rw [e1]
      have H3 := Lib.hid h3
      clear h3 HM HK
      go_wp2_with (fail)
      exact bodyPost_ret (v := .tuple #[.slice A1 (paT L s).length c1, .slice A2 (pbT L s).length c2, .slice A3 (pcT L s).length c3]) (by simp [results, Try.results13, go_sem]) rfl ⟨A1, A2, A3, c1, c2, c3, rfl, H3.out, ho⟩
end Go.Proofs.Ytcggeogpanackaa
