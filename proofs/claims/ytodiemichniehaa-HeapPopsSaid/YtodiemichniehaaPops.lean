/- HeapPops: the law's own walk. -/
import Derived.Test.YtodiemichniehaaIdx
namespace Go.Proofs.Ytodiemichniehaa
open Go.RowKit Go.Kx Go.Maps
set_option maxRecDepth 100000

theorem heap_old' {B : Nat} {w : World} {g bm : Nat} {L : List Ent} {A : Option Addr} {c : Nat} (hH : HB B w g (some bm) L A c) : ∀ x ∈ heapS g A (some bm), x < w.heap.size := fun x hx => by
  have g1 := hH.blk.lt
  have b1 := (hH.map bm rfl).lt
  simp at hx
  rcases hx with h | ⟨p, hp, h⟩ | h
  · omega
  · have := (hH.own.lt p.block (by rw [hp]; rfl)).2
    omega
  · omega
theorem own_blk1 {W : World} {base n : Nat} {v : Value} {t : TypeId} {sz : Nat} {xs : List Value} (h : W.ownsRow base t sz v n xs) {b : Nat} (hb : v.ownBlock = some b) : ∃ cur, Blk W b t cur := by
  rcases h.2 with ⟨rfl, h2⟩ | ⟨g, cap', cur, rfl, _, hg, _⟩
  · simp [Value.ownBlock] at hb
  · simp [Value.ownBlock] at hb
    subst hb
    exact ⟨cur, hg⟩
theorem HB.num {B : Nat} {w : World} {g : Nat} {M : Option Nat} {L : List Ent} {A : Option Addr} {c : Nat} (hH : HB B w g M L A c) {base n : Nat} {v : Value} {xs : List Value} (h : w.ownsRow base 3 1 v n xs) : ∀ b, v.ownBlock = some b → b ∉ heapS g A M := fun b hb => by
  obtain ⟨cs, hb⟩ := own_blk1 h hb
  have h1 : b ≠ g := fun e => by subst e; exact Blk.ne_ hb hH.blk (by decide) rfl
  have h2 : ∀ p, A = some p → b ≠ p.block := fun p e k => owns_ne hH.own hb (by decide) (by rw [e, k]; rfl)
  have h3 : ∀ bm, M = some bm → b ≠ bm := fun bm e k => (hH.map bm e).ne hb k.symm
  intro hm
  simp at hm
  rcases hm with h | ⟨p, hp, h⟩ | h
  · exact h1 h
  · exact h2 p hp h.symm
  · exact h3 b h rfl
theorem pops_many {A : Option Addr} {cap : Nat} {L : List Ac} {w : World} (hl : 200 < L.length) (hlen : L.length ≤ 9223372036854775807) :
    Calls Try.prog 5 #[.slice A L.length cap] w fun e w' => e = .returned (.bool true) ∧ Only [] w w' := by
  have hg : decide ((200 : Int) < (L.length : Int)) = true := by simp; omega
  go_enter Try.func5, Try.ntmps5
  go_wp2_with (fail)
  refine (awake_any _).mono ?_
  rintro e w1 ⟨rfl, o1⟩
  go_wp2_with (fail)
  refine (awake_any _).mono ?_
  rintro e w2 ⟨rfl, o2⟩
  go_wp2_with (fail)
  go_ret
  exact ⟨rfl, o1.trans o2 (by simp)⟩
set_option maxHeartbeats 4000000 in
theorem pops_few {A : Option Addr} {cap : Nat} {L : List Ac} {w : World} (hL : Acs w A L) (hl : L.length ≤ 200) :
    Calls Try.prog 5 #[.slice A L.length cap] w fun e w' => e = .returned (.bool true) ∧ Only [] w w' := by
  have hg : decide ((200 : Int) < (L.length : Int)) = false := by simp; omega
  have HL := Lib.hid hL
  clear hL
  go_enter Try.func5, Try.ntmps5
  go_wp2_with (fail)
  refine (awake_any _).mono ?_
  rintro e w1 ⟨rfl, o1⟩
  have HO1 := Lib.hid o1
  have hs1 := o1.size
  clear o1
  go_wp2_with (fail)
  refine (new_some w1).mono ?_
  rintro e w2 ⟨rfl, h2, o2⟩
  have hb2 : w1.heap.size + 1 ≤ w2.heap.size := by have := h2.blk.lt; omega
  have HO2 := Lib.hid (HO1.out.trans o2 (by simp))
  obtain ⟨g, hgd⟩ : ∃ g, w1.heap.size + 1 = g := ⟨_, rfl⟩
  obtain ⟨bm, hbd⟩ : ∃ bm, w1.heap.size = bm := ⟨_, rfl⟩
  have hgl : w.heap.size ≤ g := by omega
  have hbl : w.heap.size ≤ bm := by omega
  rw [hgd, hbd] at h2
  rw [hgd] at hb2 ⊢
  have HH2 := Lib.hid h2
  clear h2 o2 HO1 hgd hbd hs1
  go_wp2_with (fail)
  go_loopw [4] (fun u wr => ∃ (i : Nat) (L1 : List Ent) (A1 : Option Addr) (c1 : Nat) (m : List Ent), u = .int .i64 i ∧ i ≤ L.length ∧ m.length ≤ i ∧ HB g wr g (some bm) L1 A1 c1 ∧ HS L1 m ∧ Only [] w wr ∧ g ≤ wr.heap.size) (fun u _ => L.length - (intOf u).toNat)
  case atStart => exact ⟨0, [], none, 0, [], rfl, Nat.zero_le _, Nat.le_refl _, HH2.out, HS.nil, HO2.out, hb2⟩
  case round =>
    clear HH2 HO2 hb2
    obtain ⟨i, L1, A1, c1, m, rfl, hi, hm, hH, hS, hO, hB⟩ := hrel
    have hL1 : L1.length = m.length := hS.length
    by_cases hlt : i < L.length
    · obtain ⟨⟨⟨hd0, hd1⟩, hka, hxa⟩, b, o, rfl, hb, c0, c1', c2⟩ := (HL.out.only hO) i L[i] (List.getElem?_eq_getElem hlt)
      generalize L[i] = q at hd0 hd1 hka hxa c0 c1' c2
      obtain ⟨d, k, x⟩ := q
      dsimp only at hd0 hd1 hka hxa c0 c1' c2
      have iz0 : (0 : Int) ≤ (i : Int) := by omega
      have iz1 : (i : Int) < (L.length : Int) := by omega
      have t := done_any hH hS (a := (d, k, x)) ⟨⟨hd0, hd1⟩, hka, hxa⟩ (by omega) hB
      have f := hH.fresh (B0 := w.heap.size) hgl hbl
      have hle := doM_le m (d, k, x)
      have HO := Lib.hid hO
      clear hH hO hb
      go_wp2_with (fail)
      refine t.mono ?_
      clear t c0 c1' c2
      rintro e w4 ⟨rfl, L4, A4, c4, h4, s4, o4⟩
      have HH4 := Lib.hid h4
      have HO4 := Lib.hid (HO.out.trans o4 f)
      have HB4 := Lib.hid (Nat.le_trans hB o4.size)
      clear h4 o4 f HO
      go_wp2_with (fail)
      go_roundw
      case rel => exact ⟨i + 1, L4, A4, c4, _, by go_num, by omega, by omega, HH4.out, s4, HO4.out, HB4.out⟩
      case measure => simp [intOf]; omega
    · have iz1 : ¬ (i : Int) < (L.length : Int) := by omega
      have t := len_any hH
      have HH := Lib.hid hH
      have HO := Lib.hid hO
      have hm200 : m.length ≤ 200 := by omega
      clear hH hO
      go_wp2_with (fail)
      refine t.mono ?_
      clear t
      rintro e w4 ⟨rfl, o4⟩
      have o5 : Only [] w4 (w4.alloc (.cells #[.int .i64 0, .int .i64 0] 40)) := (Only.refl [] w4).alloc _
      have h5 := (HH.out.keep o4).keep o5
      have hlb := Blk.new w4 40 #[.int .i64 0, .int .i64 0]
      have hln : w4.heap.size ∉ heapS g A1 (some bm) := fun h => Nat.lt_irrefl _ (heap_old' (HH.out.keep o4) _ h)
      have O5 := (HO.out.trans o4 (by simp)).trans o5 (by simp)
      have hlw : w.heap.size ≤ w4.heap.size := (HO.out.trans o4 (by simp)).size
      generalize hN : m.length = N at hL1 hm hm200
      rw [hL1]
      have HH5 := Lib.hid h5
      have HO5 := Lib.hid O5
      have HLB := Lib.hid hlb
      clear HH HO o4 o5 h5 O5 hlb hL1 hm
      go_wp2_with (fail)
      generalize hlbd : w4.heap.size = lb at hln hlw HLB ⊢
      generalize hW5 : w4.alloc (.cells #[.int .i64 0, .int .i64 0] 40) = w5 at HH5 HO5 HLB ⊢
      clear hlbd hW5
      go_loopw [6, 8] (fun v u ws => ∃ (j : Nat) (L2 r : List Ent) (K : List Int) (Ak : Option Addr) (ck : Nat) (l : Ent), v = .slice Ak K.length ck ∧ u = .int .i64 j ∧ K.length = j ∧ j + r.length = N ∧ HB g ws g (some bm) L2 A1 c1 ∧ HS L2 r ∧ ws.ownsRow 0 3 1 (.slice Ak K.length ck) K.length (nums K) ∧ (∀ p, Ak = some p → w.heap.size ≤ p.block) ∧ (∀ z ∈ K, ∀ e ∈ r, z ≠ e.1) ∧ Blk ws lb 40 #[.int .i64 l.1, .int .i64 l.2] ∧ (0 < j → ∀ e ∈ r, elt l e) ∧ Only [] w ws) (fun _ u _ => N - (intOf u).toNat)
      case atStart => exact ⟨0, L1, m, [], none, 0, (0, 0), rfl, rfl, rfl, by omega, HH5.out, hS, World.ownsRow_nil _ _ _ _, (fun _ h => by cases h), (fun _ h => by simp at h), HLB.out, (fun h => by omega), HO5.out⟩
      case round =>
        clear HH5 HO5 HLB hB hS hN
        obtain ⟨j, L2, r, K, Ak, ck, l, rfl, rfl, hKj, hjr, hH, hS, hK, hKw, hKr, hlb, hll, hO⟩ := hrel
        have hL2 : L2.length = r.length := hS.length
        cases r with
        | nil =>
          have jz1 : ¬ (j : Int) < (N : Int) := by simp at hjr; omega
          have t := pop_any hH hS (by rw [hL2]; simp)
          unfold hd some? at t
          have f := hH.fresh (B0 := w.heap.size) hgl hbl
          have HO := Lib.hid hO
          clear hH hO hK hlb
          go_wp2_with (fail)
          refine t.mono ?_
          clear t
          rintro e w6 ⟨rfl, L6, h6, s6, o6⟩
          have o7 : Only [] w6 (w6.alloc (.cells #[.int .i64 0, .int .i64 0] 40)) := (Only.refl [] w6).alloc _
          have t7 := len_any (h6.keep o7)
          have l6 : L6.length = 0 := s6.length
          rw [l6] at t7
          have HO7 := Lib.hid ((HO.out.trans o6 f).trans o7 (by simp))
          clear h6 o6 o7 f HO
          go_wp2_with (fail)
          refine t7.mono ?_
          clear t7
          rintro e w8 ⟨rfl, o8⟩
          go_wp2_with (fail)
          go_ret
          exact ⟨rfl, HO7.out.trans o8 (by simp)⟩
        | cons y r =>
          have jz1 : (j : Int) < (N : Int) := by simp at hjr; omega
          have hK200 : K.length ≤ 200 := by simp at hjr; omega
          have HKj := Lib.hid hKj
          clear hKj
          have t := first_any hH hS
          unfold hd at t
          have HH := Lib.hid hH
          have HO := Lib.hid hO
          have HK := Lib.hid hK
          have HLB := Lib.hid hlb
          have HLL := Lib.hid hll
          have HKR := Lib.hid hKr
          have HKW := Lib.hid hKw
          have hy1 : I64 y.1 := (hH.ok y (hS.perm.mem_iff.2 List.mem_cons_self)).1
          have hgy : getM (y :: r) y.1 = some y.2 := by unfold getM; rw [List.find?_cons_of_pos (by simp)]; rfl
          clear hH hO hK hlb hll hKr hKw
          go_wp2_with (fail)
          refine t.mono ?_
          clear t
          rintro e w6 ⟨rfl, o6⟩
          have t7 := get_any (HH.out.keep o6) hS hy1
          rw [hgy, hasM_get hgy] at t7
          have HO6 := Lib.hid o6
          clear o6
          go_wp2_with (fail)
          refine t7.mono ?_
          clear t7
          rintro e w7 ⟨rfl, o7⟩
          have oA : Only [] _ w7 := HO6.out.trans o7 (by simp)
          have h7 := HH.out.keep oA
          have t8 := pop_any h7 hS (by rw [hL2]; omega)
          unfold hd some? at t8
          have f := h7.fresh (B0 := w.heap.size) hgl hbl
          have HH7 := Lib.hid h7
          have HK7 := Lib.hid (ownsRow_only oA HK.out (fun _ _ => by simp))
          have HLB7 := Lib.hid (oA.blk HLB.out (by simp))
          have HO7 := Lib.hid (HO.out.trans oA (by simp))
          clear o7 oA h7 HH HK HLB HO HO6
          go_wp2_with (fail)
          refine t8.mono ?_
          clear t8
          rintro e w8 ⟨rfl, L8, h8, s8, o8⟩
          have h8' := h8
          have K8 := ownsRow_only o8 HK7.out (HH7.out.num HK7.out)
          have LB8 := o8.blk HLB7.out hln
          have o9 : Only [] w8 (w8.alloc (.cells #[.int .i64 y.1, .int .i64 y.2] 40)) := (Only.refl [] w8).alloc _
          have hxb := Blk.new w8 40 #[.int .i64 y.1, .int .i64 y.2]
          have hxl : w8.heap.size ≠ lb := fun e => by have := LB8.lt; omega
          have LB9 := o9.blk LB8 (by simp)
          have K9 := ownsRow_only o9 K8 (fun _ _ => by simp)
          have h9 := h8.keep o9
          have O9 := (HO7.out.trans o8 f).trans o9 (by simp)
          have hyr : ∀ e ∈ r, elt y e := fun e he => (List.pairwise_cons.1 hS.srt).1 e he
          have hkr2 : ∀ z ∈ K ++ [y.1], ∀ e ∈ r, z ≠ e.1 := fun z hz e he => by
            rcases List.mem_append.1 hz with h | h
            · exact HKR.out z h e (List.mem_cons_of_mem _ he)
            · simp at h
              subst h
              have hn := hS.nd
              simp only [List.map_cons, List.nodup_cons] at hn
              exact fun k => hn.1 (List.mem_map.2 ⟨e, he, k.symm⟩)
          have hKy : ∀ z ∈ K, z ≠ y.1 := fun z hz => HKR.out z hz y List.mem_cons_self
          have hrl : r.length ≤ 200 := by simp at hjr; omega
          have hjN : j + 1 + r.length = N := by simp at hjr; omega
          have HH9 := Lib.hid h9
          have HK9 := Lib.hid K9
          have HLB9 := Lib.hid LB9
          have HO9 := Lib.hid O9
          have HXB := Lib.hid hxb
          have HYR := Lib.hid hyr
          have HK2 := Lib.hid hkr2
          have HKY := Lib.hid hKy
          have S8 : HS L8 r := s8
          obtain ⟨x0, x1, xl⟩ := hxb.facts2
          obtain ⟨l0, l1, ll⟩ := LB9.facts2
          clear h8' h8 K8 LB8 o8 o9 LB9 K9 h9 O9 hyr hkr2 hKy HK7 HLB7 HO7 HH7 f hxb s8 HKR hS hjr
          by_cases hj0 : 0 < j
          · have jz2 : (0 : Int) < (j : Int) := by omega
            go_wp2_with (fail)
            generalize hW9 : w8.alloc (.cells #[.int .i64 y.1, .int .i64 y.2] 40) = w9 at *
            clear hW9
            refine (order_lt l y (by simpa using HLL.out hj0 y List.mem_cons_self) w9).mono ?_
            rintro e v9 ⟨rfl, oq⟩
            have HH9' := Lib.hid (HH9.out.keep oq)
            have HK9' := Lib.hid (ownsRow_only oq HK9.out (fun _ _ => by simp))
            have hlb' := oq.blk HLB9.out (by simp)
            have hxb' := oq.blk HXB.out (by simp)
            have HO9' := Lib.hid (HO9.out.trans oq (by simp))
            clear x0 x1 xl l0 l1 ll HH9 HK9 HO9 HLB9 HXB oq
            obtain ⟨x0, x1, xl⟩ := hxb'.facts2
            obtain ⟨l0, l1, ll⟩ := hlb'.facts2
            have HLB9 := Lib.hid hlb'
            have HXB := Lib.hid hxb'
            clear hlb' hxb'
            have t9 := contains_none HK9'.out HKY.out (by omega)
            go_wp2_with (fail)
            refine t9.mono ?_
            clear t9
            rintro e w10 ⟨rfl, o10⟩
            have hlb10 := o10.blk HLB9.out (by simp)
            have hxb10 := o10.blk HXB.out (by simp)
            have K10 := ownsRow_only o10 HK9'.out (fun _ _ => by simp)
            have H10 := HH9'.out.keep o10
            have O10 := HO9'.out.trans o10 (by simp)
            obtain ⟨q, c9, w11, hrun, K11, o11, hq⟩ := run_append1 (P := Try.prog) 3 48 Try.underlying48 int_info rfl K10 (.int .i64 y.1) rfl (by unfold maxLen; omega) (by omega)
            have hkB : ∀ b, (Value.slice Ak K.length ck).ownBlock = some b → b ∉ heapS g A1 (some bm) := H10.num K10
            have hkb3 : ∀ b, (Value.slice Ak K.length ck).ownBlock = some b → ∃ cur, Blk w10 b 3 cur := fun b hb => own_blk1 K10 hb
            have hoS : ∀ b, b ∈ (Value.slice Ak K.length ck).ownBlock.toList → (Value.slice Ak K.length ck).ownBlock = some b := fun b hb => by simpa using hb
            have hlb11 := o11.blk hlb10 (fun h => by obtain ⟨cur, hc⟩ := hkb3 _ (hoS _ h); exact Blk.ne_ hc hlb10 (by decide) rfl)
            have hxb11 := o11.blk hxb10 (fun h => by obtain ⟨cur, hc⟩ := hkb3 _ (hoS _ h); exact Blk.ne_ hc hxb10 (by decide) rfl)
            have H11 := H10.only o11 (fun y hy hm => hkB y (hoS _ hm) hy)
            have hkw : ∀ b, (Value.slice Ak K.length ck).ownBlock = some b → w.heap.size ≤ b := fun b hb => by
              cases Ak with
              | none => simp [Value.ownBlock] at hb
              | some p => simp [Value.ownBlock] at hb; subst hb; exact HKW.out p rfl
            have O11 := O10.trans o11 (fun b hb => .inr (hkw b (hoS _ hb)))
            have hqw : w.heap.size ≤ q := by
              rcases hq with h | h
              · exact hkw q h
              · exact Nat.le_trans O10.size h
            have hql : q ≠ lb := fun e => by
              obtain ⟨cur, hc⟩ := own_blk1 K11 (b := q) rfl
              subst e
              exact Blk.ne_ hc hlb11 (by decide) rfl
            have f0 := hlb11.frozen 0
            have f1 := hlb11.frozen 1
            have H11' := Lib.hid H11
            have K11' := Lib.hid K11
            have O11' := Lib.hid O11
            have hlb' := Lib.hid hlb11
            clear x0 x1 xl l0 l1 ll HH9' HK9' HO9' HLB9 HXB o10 hlb10 K10 H10 O10 o11 H11 K11 O11 hkB hkb3 hoS hkw
            obtain ⟨l0, l1, ll⟩ := hlb11.facts2
            obtain ⟨x0, x1, xl⟩ := hxb10.facts2
            obtain ⟨X0, X1, XL⟩ := hxb11.facts2
            clear hlb11 hxb10 hxb11
            go_wp2_with (at_builtin; refine wpList_append_run hrun rfl _ _ rfl rfl rfl rfl ?_; clear hrun x0 x1 xl)
            go_roundw
            case rel =>
              have oS : Only [lb] w11 ((w11.setCell ⟨lb, 0, none⟩ (.int .i64 y.1)).setCell ⟨lb, 1, none⟩ (.int .i64 y.2)) := ((Only.refl [lb] w11).setCell (.inl (by simp)) _).setCell (.inl (by simp)) _
              refine ⟨j + 1, L8, r, K ++ [y.1], _, c9, y, by rw [List.length_append]; rfl, by go_num, by simp [HKj.out], hjN, H11'.out.only oS (fun b hb hm => ?_), S8, ?_, (fun p hp => by injection hp with hp; subst hp; exact hqw), HK2.out, (hlb'.out.set_ 0 _).set_ 1 _, fun _ => HYR.out, O11'.out.trans oS (fun b hb => .inr (by simp at hb; omega))⟩
              · simp at hm
                subst hm
                exact hln hb
              · have := ownsRow_only oS K11'.out (fun b hb => by simp [Value.ownBlock] at hb; subst hb; simpa using hql)
                simpa [nums] using this
            case measure => simp [intOf]; omega
          · have jz2 : ¬ (0 : Int) < (j : Int) := by omega
            have jz3 : decide ((0 : Int) < (j : Int)) = false := by simp; omega
            go_wp2_with (fail)
            generalize hW9 : w8.alloc (.cells #[.int .i64 y.1, .int .i64 y.2] 40) = w9 at *
            clear hW9
            have t9 := contains_none HK9.out HKY.out (by omega)
            refine t9.mono ?_
            clear t9
            rintro e w10 ⟨rfl, o10⟩
            have hlb10 := o10.blk HLB9.out (by simp)
            have hxb10 := o10.blk HXB.out (by simp)
            have K10 := ownsRow_only o10 HK9.out (fun _ _ => by simp)
            have H10 := HH9.out.keep o10
            have O10 := HO9.out.trans o10 (by simp)
            obtain ⟨q, c9, w11, hrun, K11, o11, hq⟩ := run_append1 (P := Try.prog) 3 48 Try.underlying48 int_info rfl K10 (.int .i64 y.1) rfl (by unfold maxLen; omega) (by omega)
            have hkB : ∀ b, (Value.slice Ak K.length ck).ownBlock = some b → b ∉ heapS g A1 (some bm) := H10.num K10
            have hkb3 : ∀ b, (Value.slice Ak K.length ck).ownBlock = some b → ∃ cur, Blk w10 b 3 cur := fun b hb => own_blk1 K10 hb
            have hoS : ∀ b, b ∈ (Value.slice Ak K.length ck).ownBlock.toList → (Value.slice Ak K.length ck).ownBlock = some b := fun b hb => by simpa using hb
            have hlb11 := o11.blk hlb10 (fun h => by obtain ⟨cur, hc⟩ := hkb3 _ (hoS _ h); exact Blk.ne_ hc hlb10 (by decide) rfl)
            have hxb11 := o11.blk hxb10 (fun h => by obtain ⟨cur, hc⟩ := hkb3 _ (hoS _ h); exact Blk.ne_ hc hxb10 (by decide) rfl)
            have H11 := H10.only o11 (fun y hy hm => hkB y (hoS _ hm) hy)
            have hkw : ∀ b, (Value.slice Ak K.length ck).ownBlock = some b → w.heap.size ≤ b := fun b hb => by
              cases Ak with
              | none => simp [Value.ownBlock] at hb
              | some p => simp [Value.ownBlock] at hb; subst hb; exact HKW.out p rfl
            have O11 := O10.trans o11 (fun b hb => .inr (hkw b (hoS _ hb)))
            have hqw : w.heap.size ≤ q := by
              rcases hq with h | h
              · exact hkw q h
              · exact Nat.le_trans O10.size h
            have hql : q ≠ lb := fun e => by
              obtain ⟨cur, hc⟩ := own_blk1 K11 (b := q) rfl
              subst e
              exact Blk.ne_ hc hlb11 (by decide) rfl
            have f0 := hlb11.frozen 0
            have f1 := hlb11.frozen 1
            have H11' := Lib.hid H11
            have K11' := Lib.hid K11
            have O11' := Lib.hid O11
            have hlb' := Lib.hid hlb11
            clear x0 x1 xl l0 l1 ll HH9 HK9 HO9 HLB9 HXB o10 hlb10 K10 H10 O10 o11 H11 K11 O11 hkB hkb3 hoS hkw
            obtain ⟨l0, l1, ll⟩ := hlb11.facts2
            obtain ⟨x0, x1, xl⟩ := hxb10.facts2
            obtain ⟨X0, X1, XL⟩ := hxb11.facts2
            clear hlb11 hxb10 hxb11
            go_wp2_with (at_builtin; refine wpList_append_run hrun rfl _ _ rfl rfl rfl rfl ?_; clear hrun x0 x1 xl)
            go_roundw
            case rel =>
              have oS : Only [lb] w11 ((w11.setCell ⟨lb, 0, none⟩ (.int .i64 y.1)).setCell ⟨lb, 1, none⟩ (.int .i64 y.2)) := ((Only.refl [lb] w11).setCell (.inl (by simp)) _).setCell (.inl (by simp)) _
              refine ⟨j + 1, L8, r, K ++ [y.1], _, c9, y, by rw [List.length_append]; rfl, by go_num, by simp [HKj.out], hjN, H11'.out.only oS (fun b hb hm => ?_), S8, ?_, (fun p hp => by injection hp with hp; subst hp; exact hqw), HK2.out, (hlb'.out.set_ 0 _).set_ 1 _, fun _ => HYR.out, O11'.out.trans oS (fun b hb => .inr (by simp at hb; omega))⟩
              · simp at hm
                subst hm
                exact hln hb
              · have := ownsRow_only oS K11'.out (fun b hb => by simp [Value.ownBlock] at hb; subst hb; simpa using hql)
                simpa [nums] using this
            case measure => simp [intOf]; omega
theorem heappops_any {A : Option Addr} {cap : Nat} {L : List Ac} {w : World} (hL : Acs w A L) (hlen : L.length ≤ 9223372036854775807) :
    Calls Try.prog 5 #[.slice A L.length cap] w fun e w' => e = .returned (.bool true) ∧ Only [] w w' := by
  by_cases hl : 200 < L.length
  · exact pops_many hl hlen
  · exact pops_few hL (by omega)
end Go.Proofs.Ytodiemichniehaa
