/- Drop, Merge, Same. -/
import Derived.Test.YtpedlapemgjgaaaRefPut
namespace Go.Proofs.Ytpedlapemgjgaaa
open Go.RowKit Go.Kx Go.Bag
set_option maxRecDepth 100000
section
variable {α : Type} (key : α → Int)
def delK (l : List α) (k : Int) : List α := l.eraseP (fun y => key y == k)
def hasK (l : List α) (k : Int) : Bool := l.any (fun y => key y == k)
variable {key}
theorem hasK_none {L : List α} {k : Int} (h : ∀ y ∈ L, key y ≠ k) : hasK key L k = false := by
  unfold hasK
  rw [List.any_eq_false]
  intro y hy
  simpa using h y hy
theorem delK_none {L : List α} {k : Int} (h : hasK key L k = false) : delK key L k = L := by
  unfold delK hasK at *
  refine List.eraseP_of_forall_not (fun a ha => ?_)
  have := List.any_eq_false.1 h a ha
  simpa using this
theorem delK_at {L : List α} (hs : Sorted key L) {i : Nat} {y : α} {k : Int} (hi : aheadB key L k = i) (hy : L[i]? = some y) (hk : key y = k) : hasK key L k = true ∧ delK key L k = L.take i ++ L.drop (i + 1) := by
  have ha := (hs.ahead k).1
  rw [hi] at ha
  have hil : i < L.length := (List.getElem?_eq_some_iff.1 hy).1
  have hL : L = L.take i ++ (y :: L.drop (i + 1)) := by
    have h := List.drop_eq_getElem_cons hil
    rw [List.getElem?_eq_getElem hil] at hy
    rw [Option.some.inj hy] at h
    rw [← h, List.take_append_drop]
  constructor
  · unfold hasK
    rw [List.any_eq_true]
    exact ⟨y, List.mem_of_getElem? hy, by simpa using hk⟩
  · generalize hP : L.take i = P at *
    generalize hQ : L.drop (i + 1) = Q at *
    rw [hL]
    unfold delK
    rw [List.eraseP_append_right]
    · rw [List.eraseP_cons_of_pos (by simpa using hk)]
    · intro b hb
      have := ha b hb
      simp
      omega
theorem hasK_end {L : List α} (hs : Sorted key L) {k : Int} (hi : aheadB key L k = L.length) : hasK key L k = false := by
  have ha := (hs.ahead k).1
  rw [hi, List.take_length] at ha
  exact hasK_none (fun y hy => by have := ha y hy; omega)
theorem hasK_no {L : List α} (hs : Sorted key L) {i : Nat} {y : α} {k : Int} (hi : aheadB key L k = i) (hy : L[i]? = some y) (hk : key y ≠ k) : hasK key L k = false := by
  obtain ⟨ha, hb⟩ := hs.ahead k
  rw [hi] at ha hb
  have hil : i < L.length := (List.getElem?_eq_some_iff.1 hy).1
  have hd : L.drop i = y :: L.drop (i + 1) := by
    have h := List.drop_eq_getElem_cons hil
    rw [List.getElem?_eq_getElem hil] at hy
    rw [Option.some.inj hy] at h
    exact h
  have hy1 : k ≤ key y := hb y (by rw [hd]; exact List.mem_cons_self ..)
  have hs2 : Sorted key (L.drop i) := List.Pairwise.sublist (List.drop_sublist _ _) hs
  rw [hd] at hs2
  have hs3 := (List.pairwise_cons.1 hs2).1
  refine hasK_none (fun z hz => ?_)
  rw [← List.take_append_drop i L] at hz
  rcases List.mem_append.1 hz with h | h
  · have := ha z h; omega
  · rw [hd] at h
    rcases List.mem_cons.1 h with rfl | h
    · exact hk
    · have := hs3 z h; omega
end
theorem BBI.base {B B' : Nat} {w : World} {g : Nat} {L : List Int} {A : Option Addr} {c : Nat} (h : BBI B w g L A c) (hB : B' ≤ B) : BBI B' w g L A c := ⟨h.blk, own_base h.row hB, h.srt⟩
theorem BBI.rowC {B : Nat} {w : World} {g : Nat} {L : List Int} {A : Option Addr} {c : Nat} (h : BBI B w g L A c) : RowC w A (flat1 L) := own_rowC (by rw [len_flat1]) h.row
theorem dropI {B : Nat} {w : World} {g : Nat} {L : List Int} {A : Option Addr} {c : Nat} (hT : BBI B w g L A c) (x : Int) (hn : L.length ≤ 1000000) (hB : B ≤ w.heap.size) :
    Calls Try.prog 19 #[.pointer (some ⟨g, 0, none⟩), .int .i64 x] w fun e w' => e = .returned (.bool (hasK keyI L (keyI x))) ∧ (∃ A' c', BBI B w' g (delK keyI L (keyI x)) A' c') ∧ Only [g] w w' := by
  obtain ⟨i, hi⟩ : ∃ i, aheadB keyI L (keyI x) = i := ⟨_, rfl⟩
  have hle := aheadB_le (key := keyI) L (keyI x)
  rw [hi] at hle
  rcases Nat.lt_or_eq_of_le hle with hlt | heq
  · obtain ⟨y, hy⟩ := at_some hlt
    by_cases hk : keyI y = keyI x
    · obtain ⟨e1, e2⟩ := delK_at hT.srt hi hy hk
      rw [e1, e2]
      by_cases hc : c = i + 1
      · have hl : L.length = c := by
          rcases own_form hT.row with ⟨_, h, h2⟩ | ⟨_, h⟩ <;> omega
        subst hl
        exact dropyes45 hT x hn hi hy hk hB hc
      · exact dropyesI hT x hn hi hy hk hB (by simpa using hc)
    · have e1 := hasK_no hT.srt hi hy hk
      have e2 := delK_none e1
      rw [e1, e2]
      refine (dropnoI hT x hn hi hy hk).mono ?_
      rintro e w' ⟨rfl, o⟩
      exact ⟨rfl, ⟨A, c, hT.keep o⟩, o.mono (fun _ h => by simp at h)⟩
  · rw [heq] at hi
    have e1 := hasK_end hT.srt hi
    have e2 := delK_none e1
    rw [e1, e2]
    refine (dropendI hT x hn hi).mono ?_
    rintro e w' ⟨rfl, o⟩
    exact ⟨rfl, ⟨A, c, hT.keep o⟩, o.mono (fun _ h => by simp at h)⟩
set_option maxHeartbeats 4000000 in
theorem mergeI {B B' : Nat} {w : World} {ga gb : Nat} {La Lb : List Int} {Aa Ab : Option Addr} {ca cb : Nat} (hA : BBI B w ga La Aa ca) (hB : BBI B' w gb Lb Ab cb) (hsum : La.length + Lb.length ≤ 1000000) :
    Calls Try.prog 15 #[.pointer (some ⟨ga, 0, none⟩), .pointer (some ⟨gb, 0, none⟩)] w fun e w' => ∃ g' A' c', e = .returned (.pointer (some ⟨g', 0, none⟩)) ∧ w.heap.size ≤ g' ∧ BBI w.heap.size w' g' (st keyI (La ++ Lb)) A' c' ∧ Only [] w w' := by
  have HG := Lib.hid hA.blk.facts2
  have HA := Lib.hid hA
  have HB := Lib.hid hB
  have HN := Lib.hid (fun (W : World) (o : Only [] w W) => newI (cl := ca) (hA.rowC.only o) rfl (by omega))
  have hst := st_self hA.srt
  rw [hst] at HN
  obtain ⟨na, hna⟩ : ∃ na, La.length = na := ⟨_, rfl⟩
  obtain ⟨nb, hnb⟩ : ∃ nb, Lb.length = nb := ⟨_, rfl⟩
  have HL := Lib.hid (And.intro hna hnb)
  rw [hna] at HN HG
  rw [hna, hnb] at hsum
  clear hst hna hnb hA hB
  go_enter Try.func15, Try.ntmps15
  go_wp2_with (fail)
  refine (wpIn_wide (n := 9)).1 ?_
  refine wpIn_region_relR 9 (Only []) (fr := ?frg) (tl := ?tlg) (fun iq v wv => match iq with
    | 0 => v = .pointer (some ⟨ga, 0, none⟩)
    | 1 => v = .pointer (some ⟨ga, 0, none⟩)
    | 2 => v = .pointer (some ⟨ga, 0, none⟩)
    | 3 => v = .func (.func 11) #[] #[]
    | 4 => v = .pointer (some ⟨ga, 0, none⟩)
    | 5 => v = .pointer (some ⟨ga, 0, none⟩)
    | 6 => v = .pointer (some ⟨ga, 1, none⟩)
    | 7 => v = .slice Aa na ca
    | 8 => ∃ g', v = .pointer (some ⟨g', 0, none⟩) ∧ w.heap.size ≤ g' ∧ ∃ A' c', BBI w.heap.size wv g' La A' c'
    | _ => True) (.inl rfl) (by kernel_rfl) (by kernel_rfl) (by kernel_rfl) (by kernel_rfl) (by kernel_rfl) (by kernel_rfl) (by decide) ?htlg ?hfrg (Only.refl _ _) (fun _ _ _ h k => h.trans k (fun _ hx => .inl hx)) ?stabg ?stepsg ?doneg
  case htlg => simp only [List.drop_succ_cons, List.drop_zero]; rfl
  case hfrg => intro vals; simp only [putAll, dstAt, Act.put, List.getElem?_toArray, List.getElem?_cons_zero, List.getElem?_cons_succ, Option.bind_some, List.setIfInBounds_toArray, List.set_cons_zero, List.set_cons_succ]; rfl
  case stabg =>
    intro i v wa wb h
    try dsimp only
    split <;> first | exact id | (rintro ⟨g', e, h1, A', c', h2⟩; exact ⟨g', e, h1, A', c', h2.keep h⟩)
  case stepsg =>
    refine ⟨?_, ?_, ?_, ?_, ?_, ?_, ?_, ?_, ?_, trivial⟩
    · intro vals wr hR hp K hK
      dsimp only at hK ⊢
      clear hp
      unfold RunsOp
      go_simp
      exact hK.out _ _ ⟨_, rfl, Only.refl _ _, rfl⟩
    · intro vals wr hR hp K hK
      dsimp only at hK ⊢
      obtain ⟨p0, -⟩ := hp
      replace p0 := p0 rfl
      dsimp only at p0
      rw [p0] at hK ⊢
      clear p0
      unfold RunsOp
      go_simp
      exact hK.out _ _ ⟨_, rfl, Only.refl _ _, rfl⟩
    · intro vals wr hR hp K hK
      dsimp only at hK ⊢
      obtain ⟨p1, -⟩ := hp
      replace p1 := p1 rfl
      dsimp only at p1
      rw [p1] at hK ⊢
      clear p1
      unfold RunsOp
      go_simp
      exact hK.out _ _ ⟨_, rfl, Only.refl _ _, rfl⟩
    · intro vals wr hR hp K hK
      dsimp only at hK ⊢
      obtain ⟨p2, -⟩ := hp
      replace p2 := p2 rfl
      dsimp only at p2
      rw [p2] at hK ⊢
      clear p2
      unfold RunsOp
      have k0 := (hR.cell (p := ⟨ga, 0, none⟩) HG.out.2.2 (by simp)).trans HG.out.1
      go_simp
      exact hK.out _ _ ⟨_, rfl, Only.refl _ _, rfl⟩
    · intro vals wr hR hp K hK
      dsimp only at hK ⊢
      clear hp
      unfold RunsOp
      go_simp
      exact hK.out _ _ ⟨_, rfl, Only.refl _ _, rfl⟩
    · intro vals wr hR hp K hK
      dsimp only at hK ⊢
      obtain ⟨p4, -⟩ := hp
      replace p4 := p4 rfl
      dsimp only at p4
      rw [p4] at hK ⊢
      clear p4
      unfold RunsOp
      go_simp
      exact hK.out _ _ ⟨_, rfl, Only.refl _ _, rfl⟩
    · intro vals wr hR hp K hK
      dsimp only at hK ⊢
      obtain ⟨p5, -⟩ := hp
      replace p5 := p5 rfl
      dsimp only at p5
      rw [p5] at hK ⊢
      clear p5
      unfold RunsOp
      go_simp
      exact hK.out _ _ ⟨_, rfl, Only.refl _ _, rfl⟩
    · intro vals wr hR hp K hK
      dsimp only at hK ⊢
      obtain ⟨p6, -⟩ := hp
      replace p6 := p6 rfl
      dsimp only at p6
      rw [p6] at hK ⊢
      clear p6
      unfold RunsOp
      have k0 := (hR.cell (p := ⟨ga, 1, none⟩) HG.out.2.2 (by simp)).trans HG.out.2.1
      go_simp
      exact hK.out _ _ ⟨_, rfl, Only.refl _ _, rfl⟩
    · intro vals wr hR hp K hK
      dsimp only at hK ⊢
      obtain ⟨p3, p7, -⟩ := hp
      replace p3 := p3 rfl
      replace p7 := p7 rfl
      dsimp only at p3 p7
      rw [p3, p7] at hK ⊢
      clear p3 p7
      unfold RunsOp
      go_simp
      have hsz := ((Only.refl [] w).drew.trans hR (by simp)).size
      refine (HN.out _ ((Only.refl [] _).drew.trans hR (by simp))).mono ?_
      rintro e' w2 ⟨rfl, ⟨A', c', h2⟩, o2⟩
      exact hK.out _ _ ⟨_, rfl, o2, _, rfl, hsz, A', c', h2.base hsz⟩
  case doneg =>
    intro vals wd hR hF
    have f0 : vals 0 = .pointer (some ⟨ga, 0, none⟩) := hF 0 (by decide)
    have f1 : vals 1 = .pointer (some ⟨ga, 0, none⟩) := hF 1 (by decide)
    have f2 : vals 2 = .pointer (some ⟨ga, 0, none⟩) := hF 2 (by decide)
    have f3 : vals 3 = .func (.func 11) #[] #[] := hF 3 (by decide)
    have f4 : vals 4 = .pointer (some ⟨ga, 0, none⟩) := hF 4 (by decide)
    have f5 : vals 5 = .pointer (some ⟨ga, 0, none⟩) := hF 5 (by decide)
    have f6 : vals 6 = .pointer (some ⟨ga, 1, none⟩) := hF 6 (by decide)
    have f7 : vals 7 = .slice Aa na ca := hF 7 (by decide)
    have f8 : ∃ g', (vals 8) = .pointer (some ⟨g', 0, none⟩) ∧ w.heap.size ≤ g' ∧ ∃ A' c', BBI w.heap.size wd g' La A' c' := hF 8 (by decide)
    rw [f0, f1, f2, f3, f4, f5, f6, f7]
    clear f0 f1 f2 f3 f4 f5 f6 f7
    have HOd := Lib.hid (((Only.refl [] w).drew.trans hR (by simp)))
    obtain ⟨g', f8, hg1, A1, c1, hnw⟩ := f8
    rw [f8]
    have hgl := hnw.blk.lt
    have hbk := (HB.out.keep HOd.out)
    have hg2 := hbk.blk.facts2
    rw [HL.out.2] at hg2
    obtain ⟨b0, b1, bl⟩ := hg2
    have hsz := HOd.out.size
    have HP := Lib.hid (putI (cl := cb) hnw hbk.rowC HL.out.2 (by rw [HL.out.1]; exact hsum) hsz)
    clear hR hF f8 hnw hbk
    gi_wp2_with (fail)
    go_wp2_with (fail)
    refine HP.out.mono ?_
    rintro e w2 ⟨rfl, ⟨A2, c2, hb⟩, o2⟩
    have HF := Lib.hid hb
    have HO := Lib.hid (HOd.out.trans o2 (fun x hx => .inr (by simp at hx; omega)))
    clear hb o2 b0 b1 bl
    go_wp2_with (fail)
    go_ret
    exact ⟨g', A2, c2, rfl, hg1, HF.out, HO.out⟩
theorem cmpZ_zeroI (x y : Int) : (cmpZ (keyI x) (keyI y) != 0) = !decide (keyI x = keyI y) := by
  unfold cmpZ
  rcases Int.lt_trichotomy (keyI x) (keyI y) with h | h | h
  · rw [if_pos h, decide_eq_false (by omega)]; rfl
  · rw [if_neg (by omega), if_neg (by omega), decide_eq_true h]; rfl
  · rw [if_neg (by omega), if_pos h, decide_eq_false (by omega)]; rfl
set_option maxHeartbeats 4000000 in
theorem sameI {B B' : Nat} {w : World} {ga gb : Nat} {La Lb : List Int} {Aa Ab : Option Addr} {ca cb : Nat} (hA : BBI B w ga La Aa ca) (hB : BBI B' w gb Lb Ab cb) (hn : La.length ≤ 1000000) (_hm : Lb.length ≤ 1000000) :
    Calls Try.prog 14 #[.pointer (some ⟨ga, 0, none⟩), .pointer (some ⟨gb, 0, none⟩)] w fun e w' => e = .returned (.bool (decide (La.map keyI = Lb.map keyI))) ∧ Only [] w w' := by
  have HA := Lib.hid hA
  have HB := Lib.hid hB
  by_cases hlen : La.length = Lb.length
  · have HL := Lib.hid hlen
    obtain ⟨n, hna⟩ : ∃ n, La.length = n := ⟨_, rfl⟩
    have HN := Lib.hid (show La.length = n ∧ Lb.length = n from ⟨hna, by omega⟩)
    rw [hna] at hn
    have e0 : ((n : Int) != (n : Int)) = false := by simp
    have hg := hA.blk.facts2
    have hg2 := hB.blk.facts2
    rw [hna] at hg
    rw [HN.out.2] at hg2
    obtain ⟨a0, a1, al⟩ := hg
    obtain ⟨b0, b1, bl⟩ := hg2
    clear hA hB hlen hna
    go_enter Try.func14, Try.ntmps14
    go_wp2_with (fail)
    go_quiet (fail)
    generalize hW : w.drewN _ = W0
    have o0 : Only [] w W0 := by rw [← hW]; exact (Only.refl _ _).drewN _
    clear a0 a1 al b0 b1 bl hW
    have HO0 := Lib.hid o0
    have hg := (HA.out.keep o0).blk.facts2
    rw [HN.out.1] at hg
    obtain ⟨a0, a1, al⟩ := hg
    clear o0
    go_wp2_with (fail)
    clear a0 a1 al
    go_loopw [35] (fun u wr => ∃ (i : Nat), u = .int .i64 i ∧ i ≤ n ∧ Hid ((La.take i).map keyI = (Lb.take i).map keyI) ∧ Hid (Only [] w wr)) (fun u _ => n - (intOf u).toNat)
    case atStart => exact ⟨0, rfl, Nat.zero_le _, Lib.hid rfl, HO0⟩
    case round =>
      obtain ⟨wq, rfl⟩ : ∃ wq : World, wq = wr := ⟨_, rfl⟩
      obtain ⟨i, rfl, hi, HE, HO⟩ := hrel
      by_cases hlt : i < n
      · obtain ⟨x, hx⟩ := at_some (L := La) (i := i) (by rw [HN.out.1]; exact hlt)
        obtain ⟨y, hy⟩ := at_some (L := Lb) (i := i) (by rw [HN.out.2]; exact hlt)
        obtain ⟨p, po, hpa, pl, c0⟩ := rowI (HA.out.keep HO.out).rowC hx
        obtain ⟨q, qo, hqa, ql, d0⟩ := rowI ((HB.out.keep HO.out).keep (Only.refl [] wq)).rowC hy
        have hp0 := own_form HA.out.row
        obtain rfl : po = 0 := by
          rcases own_form HA.out.row with ⟨h, _⟩ | ⟨⟨b, h⟩, _⟩
          · rw [h] at hpa; cases hpa
          · rw [h] at hpa; cases hpa; rfl
        obtain rfl : qo = 0 := by
          rcases own_form HB.out.row with ⟨h, _⟩ | ⟨⟨b, h⟩, _⟩
          · rw [h] at hqa; cases hqa
          · rw [h] at hqa; cases hqa; rfl
        rw [Nat.zero_add] at c0 d0
        cases hpa
        cases hqa
        clear hp0
        have HD := Lib.hid (And.intro ql d0)
        have hga := ((HA.out.keep HO.out).keep (Only.refl [] wq)).blk.facts2
        have hgb := ((HB.out.keep HO.out).keep (Only.refl [] wq)).blk.facts2
        rw [HN.out.1] at hga
        rw [HN.out.2] at hgb
        have HGA := Lib.hid hga
        have HGB := Lib.hid hgb
        skip
        have iz1 : (i : Int) < (n : Int) := by omega
        have hcz := cmpZ_zeroI x y
        have HXY := Lib.hid (And.intro hx hy)
        clear hga hgb hx hy d0 ql
        by_cases hxy : keyI x = keyI y
        · rw [decide_eq_true hxy] at hcz
          have HK := Lib.hid hxy
          clear hxy
          go_wp2_with (fail)
          refine (wpIn_wide (n := 9)).1 ?_
          refine wpIn_region_relR 13 (Only []) (fr := ?frt) (tl := ?tlt) (fun iq v wv => match iq with
            | 0 => v = .pointer (some ⟨ga, 0, none⟩)
            | 1 => v = .pointer (some ⟨ga, 0, none⟩)
            | 2 => v = .pointer (some ⟨ga, 0, none⟩)
            | 3 => v = .func (.func 11) #[] #[]
            | 4 => v = .int .i64 x
            | 5 => v = .pointer (some ⟨gb, 0, none⟩)
            | 6 => v = .pointer (some ⟨gb, 0, none⟩)
            | 7 => v = .pointer (some ⟨gb, 1, none⟩)
            | 8 => v = .slice (some ⟨q, 0, none⟩) n cb
            | 9 => v = .int .i64 (i : Nat)
            | 10 => v = .pointer (some ⟨q, i, none⟩)
            | 11 => v = .int .i64 y
            | 12 => v = .int .i64 (cmpZ (keyI x) (keyI y))
            | _ => True) (.inl rfl) (by kernel_rfl) (by kernel_rfl) (by kernel_rfl) (by kernel_rfl) (by kernel_rfl) (by kernel_rfl) (by decide) ?htlt ?hfrt (Only.refl _ _) (fun _ _ _ h k => h.trans k (fun _ hx => .inl hx)) ?stabt ?stepst ?donet
          case htlt => simp only [List.drop_succ_cons, List.drop_zero]; rfl
          case hfrt => intro vals; simp only [putAll, dstAt, Act.put, List.getElem?_toArray, List.getElem?_cons_zero, List.getElem?_cons_succ, Option.bind_some, List.setIfInBounds_toArray, List.set_cons_zero, List.set_cons_succ]; rfl
          case stabt =>
            intro i v wa wb h
            try dsimp only
            split <;> first | exact id
          case stepst =>
            refine ⟨?_, ?_, ?_, ?_, ?_, ?_, ?_, ?_, ?_, ?_, ?_, ?_, ?_, trivial⟩
            · intro vals wr hR hp K hK
              dsimp only at hK ⊢
              clear hp
              unfold RunsOp
              go_simp
              exact hK.out _ _ ⟨_, rfl, Only.refl _ _, rfl⟩
            · intro vals wr hR hp K hK
              dsimp only at hK ⊢
              obtain ⟨p0, -⟩ := hp
              replace p0 := p0 rfl
              dsimp only at p0
              rw [p0] at hK ⊢
              clear p0
              unfold RunsOp
              go_simp
              exact hK.out _ _ ⟨_, rfl, Only.refl _ _, rfl⟩
            · intro vals wr hR hp K hK
              dsimp only at hK ⊢
              obtain ⟨p1, -⟩ := hp
              replace p1 := p1 rfl
              dsimp only at p1
              rw [p1] at hK ⊢
              clear p1
              unfold RunsOp
              go_simp
              exact hK.out _ _ ⟨_, rfl, Only.refl _ _, rfl⟩
            · intro vals wr hR hp K hK
              dsimp only at hK ⊢
              obtain ⟨p2, -⟩ := hp
              replace p2 := p2 rfl
              dsimp only at p2
              rw [p2] at hK ⊢
              clear p2
              unfold RunsOp
              have k0 := (hR.cell (p := ⟨ga, 0, none⟩) HGA.out.2.2 (by simp)).trans HGA.out.1
              go_simp
              exact hK.out _ _ ⟨_, rfl, Only.refl _ _, rfl⟩
            · intro vals wr hR hp K hK
              dsimp only at hK ⊢
              clear hp
              unfold RunsOp
              go_simp
              exact hK.out _ _ ⟨_, rfl, Only.refl _ _, rfl⟩
            · intro vals wr hR hp K hK
              dsimp only at hK ⊢
              clear hp
              unfold RunsOp
              go_simp
              exact hK.out _ _ ⟨_, rfl, Only.refl _ _, rfl⟩
            · intro vals wr hR hp K hK
              dsimp only at hK ⊢
              obtain ⟨p5, -⟩ := hp
              replace p5 := p5 rfl
              dsimp only at p5
              rw [p5] at hK ⊢
              clear p5
              unfold RunsOp
              go_simp
              exact hK.out _ _ ⟨_, rfl, Only.refl _ _, rfl⟩
            · intro vals wr hR hp K hK
              dsimp only at hK ⊢
              obtain ⟨p6, -⟩ := hp
              replace p6 := p6 rfl
              dsimp only at p6
              rw [p6] at hK ⊢
              clear p6
              unfold RunsOp
              go_simp
              exact hK.out _ _ ⟨_, rfl, Only.refl _ _, rfl⟩
            · intro vals wr hR hp K hK
              dsimp only at hK ⊢
              obtain ⟨p7, -⟩ := hp
              replace p7 := p7 rfl
              dsimp only at p7
              rw [p7] at hK ⊢
              clear p7
              unfold RunsOp
              have k0 := (hR.cell (p := ⟨gb, 1, none⟩) HGB.out.2.2 (by simp)).trans HGB.out.2.1
              go_simp
              exact hK.out _ _ ⟨_, rfl, Only.refl _ _, rfl⟩
            · intro vals wr hR hp K hK
              dsimp only at hK ⊢
              clear hp
              unfold RunsOp
              go_simp
              exact hK.out _ _ ⟨_, rfl, Only.refl _ _, rfl⟩
            · intro vals wr hR hp K hK
              dsimp only at hK ⊢
              obtain ⟨p8, p9, -⟩ := hp
              replace p8 := p8 rfl
              replace p9 := p9 rfl
              dsimp only at p8 p9
              rw [p8, p9] at hK ⊢
              clear p8 p9
              unfold RunsOp
              have i0 : (0 : Int) ≤ (i : Int) := by omega
              have i1 : (i : Int) < (n : Int) := by omega
              go_simp
              exact hK.out _ _ ⟨_, rfl, Only.refl _ _, rfl⟩
            · intro vals wr hR hp K hK
              dsimp only at hK ⊢
              obtain ⟨p10, -⟩ := hp
              replace p10 := p10 rfl
              dsimp only at p10
              rw [p10] at hK ⊢
              clear p10
              unfold RunsOp
              have k0 := (hR.cell (p := ⟨q, i, none⟩) HD.out.1 (by simp)).trans HD.out.2
              go_simp
              exact hK.out _ _ ⟨_, rfl, Only.refl _ _, rfl⟩
            · intro vals wr hR hp K hK
              dsimp only at hK ⊢
              obtain ⟨p3, p4, p11, -⟩ := hp
              replace p3 := p3 rfl
              replace p4 := p4 rfl
              replace p11 := p11 rfl
              dsimp only at p3 p4 p11
              rw [p3, p4, p11] at hK ⊢
              clear p3 p4 p11
              unfold RunsOp
              go_simp
              refine (order_any x y _).mono ?_
              rintro e' w2 ⟨rfl, o2⟩
              exact hK.out _ _ ⟨_, rfl, o2, rfl⟩
          case donet =>
            intro vals wd hR hF
            have f12 : (vals 12) = .int .i64 (cmpZ (keyI x) (keyI y)) := hF 12 (by decide)
            rw [f12]
            clear f12
            have HOd := Lib.hid ((HO.out.trans (Only.refl [] wq) (by simp)).trans ((Only.refl [] (wq)).drew.trans hR (by simp)) (by simp))
            clear hR hF
            gi_wp2_with (fail)
            go_wp2_with (fail)
            go_roundw
            case rel => exact ⟨i + 1, by go_num, by omega, Lib.hid (by rw [take_succ_of HXY.out.1, take_succ_of HXY.out.2, List.map_append, List.map_append, HE.out, List.map_cons, List.map_cons, HK.out]), HOd⟩
            case measure => simp [intOf]; omega
        · rw [decide_eq_false hxy] at hcz
          have HK := Lib.hid (show La.map keyI ≠ Lb.map keyI from fun h => hxy (by
            have h2 := congrArg (·[i]?) h
            simp only [List.getElem?_map, HXY.out.1, HXY.out.2, Option.map_some] at h2
            exact Option.some.inj h2))
          clear hxy
          go_wp2_with (fail)
          refine (wpIn_wide (n := 9)).1 ?_
          refine wpIn_region_relR 13 (Only []) (fr := ?frf) (tl := ?tlf) (fun iq v wv => match iq with
            | 0 => v = .pointer (some ⟨ga, 0, none⟩)
            | 1 => v = .pointer (some ⟨ga, 0, none⟩)
            | 2 => v = .pointer (some ⟨ga, 0, none⟩)
            | 3 => v = .func (.func 11) #[] #[]
            | 4 => v = .int .i64 x
            | 5 => v = .pointer (some ⟨gb, 0, none⟩)
            | 6 => v = .pointer (some ⟨gb, 0, none⟩)
            | 7 => v = .pointer (some ⟨gb, 1, none⟩)
            | 8 => v = .slice (some ⟨q, 0, none⟩) n cb
            | 9 => v = .int .i64 (i : Nat)
            | 10 => v = .pointer (some ⟨q, i, none⟩)
            | 11 => v = .int .i64 y
            | 12 => v = .int .i64 (cmpZ (keyI x) (keyI y))
            | _ => True) (.inl rfl) (by kernel_rfl) (by kernel_rfl) (by kernel_rfl) (by kernel_rfl) (by kernel_rfl) (by kernel_rfl) (by decide) ?htlf ?hfrf (Only.refl _ _) (fun _ _ _ h k => h.trans k (fun _ hx => .inl hx)) ?stabf ?stepsf ?donef
          case htlf => simp only [List.drop_succ_cons, List.drop_zero]; rfl
          case hfrf => intro vals; simp only [putAll, dstAt, Act.put, List.getElem?_toArray, List.getElem?_cons_zero, List.getElem?_cons_succ, Option.bind_some, List.setIfInBounds_toArray, List.set_cons_zero, List.set_cons_succ]; rfl
          case stabf =>
            intro i v wa wb h
            try dsimp only
            split <;> first | exact id
          case stepsf =>
            refine ⟨?_, ?_, ?_, ?_, ?_, ?_, ?_, ?_, ?_, ?_, ?_, ?_, ?_, trivial⟩
            · intro vals wr hR hp K hK
              dsimp only at hK ⊢
              clear hp
              unfold RunsOp
              go_simp
              exact hK.out _ _ ⟨_, rfl, Only.refl _ _, rfl⟩
            · intro vals wr hR hp K hK
              dsimp only at hK ⊢
              obtain ⟨p0, -⟩ := hp
              replace p0 := p0 rfl
              dsimp only at p0
              rw [p0] at hK ⊢
              clear p0
              unfold RunsOp
              go_simp
              exact hK.out _ _ ⟨_, rfl, Only.refl _ _, rfl⟩
            · intro vals wr hR hp K hK
              dsimp only at hK ⊢
              obtain ⟨p1, -⟩ := hp
              replace p1 := p1 rfl
              dsimp only at p1
              rw [p1] at hK ⊢
              clear p1
              unfold RunsOp
              go_simp
              exact hK.out _ _ ⟨_, rfl, Only.refl _ _, rfl⟩
            · intro vals wr hR hp K hK
              dsimp only at hK ⊢
              obtain ⟨p2, -⟩ := hp
              replace p2 := p2 rfl
              dsimp only at p2
              rw [p2] at hK ⊢
              clear p2
              unfold RunsOp
              have k0 := (hR.cell (p := ⟨ga, 0, none⟩) HGA.out.2.2 (by simp)).trans HGA.out.1
              go_simp
              exact hK.out _ _ ⟨_, rfl, Only.refl _ _, rfl⟩
            · intro vals wr hR hp K hK
              dsimp only at hK ⊢
              clear hp
              unfold RunsOp
              go_simp
              exact hK.out _ _ ⟨_, rfl, Only.refl _ _, rfl⟩
            · intro vals wr hR hp K hK
              dsimp only at hK ⊢
              clear hp
              unfold RunsOp
              go_simp
              exact hK.out _ _ ⟨_, rfl, Only.refl _ _, rfl⟩
            · intro vals wr hR hp K hK
              dsimp only at hK ⊢
              obtain ⟨p5, -⟩ := hp
              replace p5 := p5 rfl
              dsimp only at p5
              rw [p5] at hK ⊢
              clear p5
              unfold RunsOp
              go_simp
              exact hK.out _ _ ⟨_, rfl, Only.refl _ _, rfl⟩
            · intro vals wr hR hp K hK
              dsimp only at hK ⊢
              obtain ⟨p6, -⟩ := hp
              replace p6 := p6 rfl
              dsimp only at p6
              rw [p6] at hK ⊢
              clear p6
              unfold RunsOp
              go_simp
              exact hK.out _ _ ⟨_, rfl, Only.refl _ _, rfl⟩
            · intro vals wr hR hp K hK
              dsimp only at hK ⊢
              obtain ⟨p7, -⟩ := hp
              replace p7 := p7 rfl
              dsimp only at p7
              rw [p7] at hK ⊢
              clear p7
              unfold RunsOp
              have k0 := (hR.cell (p := ⟨gb, 1, none⟩) HGB.out.2.2 (by simp)).trans HGB.out.2.1
              go_simp
              exact hK.out _ _ ⟨_, rfl, Only.refl _ _, rfl⟩
            · intro vals wr hR hp K hK
              dsimp only at hK ⊢
              clear hp
              unfold RunsOp
              go_simp
              exact hK.out _ _ ⟨_, rfl, Only.refl _ _, rfl⟩
            · intro vals wr hR hp K hK
              dsimp only at hK ⊢
              obtain ⟨p8, p9, -⟩ := hp
              replace p8 := p8 rfl
              replace p9 := p9 rfl
              dsimp only at p8 p9
              rw [p8, p9] at hK ⊢
              clear p8 p9
              unfold RunsOp
              have i0 : (0 : Int) ≤ (i : Int) := by omega
              have i1 : (i : Int) < (n : Int) := by omega
              go_simp
              exact hK.out _ _ ⟨_, rfl, Only.refl _ _, rfl⟩
            · intro vals wr hR hp K hK
              dsimp only at hK ⊢
              obtain ⟨p10, -⟩ := hp
              replace p10 := p10 rfl
              dsimp only at p10
              rw [p10] at hK ⊢
              clear p10
              unfold RunsOp
              have k0 := (hR.cell (p := ⟨q, i, none⟩) HD.out.1 (by simp)).trans HD.out.2
              go_simp
              exact hK.out _ _ ⟨_, rfl, Only.refl _ _, rfl⟩
            · intro vals wr hR hp K hK
              dsimp only at hK ⊢
              obtain ⟨p3, p4, p11, -⟩ := hp
              replace p3 := p3 rfl
              replace p4 := p4 rfl
              replace p11 := p11 rfl
              dsimp only at p3 p4 p11
              rw [p3, p4, p11] at hK ⊢
              clear p3 p4 p11
              unfold RunsOp
              go_simp
              refine (order_any x y _).mono ?_
              rintro e' w2 ⟨rfl, o2⟩
              exact hK.out _ _ ⟨_, rfl, o2, rfl⟩
          case donef =>
            intro vals wd hR hF
            have f12 : (vals 12) = .int .i64 (cmpZ (keyI x) (keyI y)) := hF 12 (by decide)
            rw [f12]
            clear f12
            have HOd := Lib.hid ((HO.out.trans (Only.refl [] wq) (by simp)).trans ((Only.refl [] (wq)).drew.trans hR (by simp)) (by simp))
            clear hR hF
            gi_wp2_with (fail)
            go_wp2_with (fail)
            go_ret
            exact ⟨by rw [decide_eq_false HK.out]; rfl, HOd.out⟩
      · have hie : i = n := by omega
        have HK := Lib.hid (show La.map keyI = Lb.map keyI by
          have h := HE.out
          rw [hie, List.take_of_length_le (by rw [HN.out.1]; exact Nat.le_refl _), List.take_of_length_le (by rw [HN.out.2]; exact Nat.le_refl _)] at h
          exact h)
        have iz1 : ¬ (i : Int) < (n : Int) := by omega
        clear hie
        go_wp2_with (fail)
        go_ret
        exact ⟨by rw [decide_eq_true HK.out]; rfl, HO.out⟩
  · have HK := Lib.hid (show La.map keyI ≠ Lb.map keyI from fun h => hlen (by have := congrArg List.length h; simpa using this))
    obtain ⟨a0, a1, al⟩ := hA.blk.facts2
    obtain ⟨b0, b1, bl⟩ := hB.blk.facts2
    generalize La.length = n at *
    generalize Lb.length = m at *
    have e0 : ((n : Int) != (m : Int)) = true := by simp; omega
    clear hA hB HA HB
    go_enter Try.func14, Try.ntmps14
    go_wp2_with (fail)
    go_quiet (fail)
    generalize hW : w.drewN _ = W0
    have o0 : Only [] w W0 := by rw [← hW]; exact (Only.refl _ _).drewN _
    clear a0 a1 al b0 b1 bl hW
    go_wp2_with (fail)
    go_ret
    exact ⟨by rw [decide_eq_false HK.out]; rfl, o0⟩
theorem BBJ.base {B B' : Nat} {w : World} {g : Nat} {L : List Ent} {A : Option Addr} {c : Nat} (h : BBJ B w g L A c) (hB : B' ≤ B) : BBJ B' w g L A c := ⟨h.blk, own_base h.row hB, h.srt⟩
theorem BBJ.rowC {B : Nat} {w : World} {g : Nat} {L : List Ent} {A : Option Addr} {c : Nat} (h : BBJ B w g L A c) : RowC w A (flat2 L) := own_rowC (by rw [len_flat2]) h.row
theorem dropJ {B : Nat} {w : World} {g : Nat} {L : List Ent} {A : Option Addr} {c : Nat} (hT : BBJ B w g L A c) (x : Ent) (hn : L.length ≤ 1000000) (hB : B ≤ w.heap.size) :
    Calls Try.prog 26 #[.pointer (some ⟨g, 0, none⟩), .agg #[.int .i64 x.1, .int .i64 x.2]] w fun e w' => e = .returned (.bool (hasK keyJ L (keyJ x))) ∧ (∃ A' c', BBJ B w' g (delK keyJ L (keyJ x)) A' c') ∧ Only [g] w w' := by
  obtain ⟨i, hi⟩ : ∃ i, aheadB keyJ L (keyJ x) = i := ⟨_, rfl⟩
  have hle := aheadB_le (key := keyJ) L (keyJ x)
  rw [hi] at hle
  rcases Nat.lt_or_eq_of_le hle with hlt | heq
  · obtain ⟨y, hy⟩ := at_some hlt
    by_cases hk : keyJ y = keyJ x
    · obtain ⟨e1, e2⟩ := delK_at hT.srt hi hy hk
      rw [e1, e2]
      by_cases hc : c = i + 1
      · have hl : L.length = c := by
          rcases own_form hT.row with ⟨_, h, h2⟩ | ⟨_, h⟩ <;> omega
        subst hl
        exact dropyes41 hT x hn hi hy hk hB hc
      · exact dropyesJ hT x hn hi hy hk hB (by simpa using hc)
    · have e1 := hasK_no hT.srt hi hy hk
      have e2 := delK_none e1
      rw [e1, e2]
      refine (dropnoJ hT x hn hi hy hk).mono ?_
      rintro e w' ⟨rfl, o⟩
      exact ⟨rfl, ⟨A, c, hT.keep o⟩, o.mono (fun _ h => by simp at h)⟩
  · rw [heq] at hi
    have e1 := hasK_end hT.srt hi
    have e2 := delK_none e1
    rw [e1, e2]
    refine (dropendJ hT x hn hi).mono ?_
    rintro e w' ⟨rfl, o⟩
    exact ⟨rfl, ⟨A, c, hT.keep o⟩, o.mono (fun _ h => by simp at h)⟩
set_option maxHeartbeats 4000000 in
theorem mergeJ {B B' : Nat} {w : World} {ga gb : Nat} {La Lb : List Ent} {Aa Ab : Option Addr} {ca cb : Nat} (hA : BBJ B w ga La Aa ca) (hB : BBJ B' w gb Lb Ab cb) (hsum : La.length + Lb.length ≤ 1000000) :
    Calls Try.prog 30 #[.pointer (some ⟨ga, 0, none⟩), .pointer (some ⟨gb, 0, none⟩)] w fun e w' => ∃ g' A' c', e = .returned (.pointer (some ⟨g', 0, none⟩)) ∧ w.heap.size ≤ g' ∧ BBJ w.heap.size w' g' (st keyJ (La ++ Lb)) A' c' ∧ Only [] w w' := by
  have HG := Lib.hid hA.blk.facts2
  have HA := Lib.hid hA
  have HB := Lib.hid hB
  have HN := Lib.hid (fun (W : World) (o : Only [] w W) => newJ (cl := ca) (hA.rowC.only o) rfl (by omega))
  have hst := st_self hA.srt
  rw [hst] at HN
  obtain ⟨na, hna⟩ : ∃ na, La.length = na := ⟨_, rfl⟩
  obtain ⟨nb, hnb⟩ : ∃ nb, Lb.length = nb := ⟨_, rfl⟩
  have HL := Lib.hid (And.intro hna hnb)
  rw [hna] at HN HG
  rw [hna, hnb] at hsum
  clear hst hna hnb hA hB
  go_enter Try.func30, Try.ntmps30
  go_wp2_with (fail)
  refine (wpIn_wide (n := 9)).1 ?_
  refine wpIn_region_relR 9 (Only []) (fr := ?frg) (tl := ?tlg) (fun iq v wv => match iq with
    | 0 => v = .pointer (some ⟨ga, 0, none⟩)
    | 1 => v = .pointer (some ⟨ga, 0, none⟩)
    | 2 => v = .pointer (some ⟨ga, 0, none⟩)
    | 3 => v = .func (.func 22) #[] #[]
    | 4 => v = .pointer (some ⟨ga, 0, none⟩)
    | 5 => v = .pointer (some ⟨ga, 0, none⟩)
    | 6 => v = .pointer (some ⟨ga, 1, none⟩)
    | 7 => v = .slice Aa na ca
    | 8 => ∃ g', v = .pointer (some ⟨g', 0, none⟩) ∧ w.heap.size ≤ g' ∧ ∃ A' c', BBJ w.heap.size wv g' La A' c'
    | _ => True) (.inl rfl) (by kernel_rfl) (by kernel_rfl) (by kernel_rfl) (by kernel_rfl) (by kernel_rfl) (by kernel_rfl) (by decide) ?htlg ?hfrg (Only.refl _ _) (fun _ _ _ h k => h.trans k (fun _ hx => .inl hx)) ?stabg ?stepsg ?doneg
  case htlg => simp only [List.drop_succ_cons, List.drop_zero]; rfl
  case hfrg => intro vals; simp only [putAll, dstAt, Act.put, List.getElem?_toArray, List.getElem?_cons_zero, List.getElem?_cons_succ, Option.bind_some, List.setIfInBounds_toArray, List.set_cons_zero, List.set_cons_succ]; rfl
  case stabg =>
    intro i v wa wb h
    try dsimp only
    split <;> first | exact id | (rintro ⟨g', e, h1, A', c', h2⟩; exact ⟨g', e, h1, A', c', h2.keep h⟩)
  case stepsg =>
    refine ⟨?_, ?_, ?_, ?_, ?_, ?_, ?_, ?_, ?_, trivial⟩
    · intro vals wr hR hp K hK
      dsimp only at hK ⊢
      clear hp
      unfold RunsOp
      go_simp
      exact hK.out _ _ ⟨_, rfl, Only.refl _ _, rfl⟩
    · intro vals wr hR hp K hK
      dsimp only at hK ⊢
      obtain ⟨p0, -⟩ := hp
      replace p0 := p0 rfl
      dsimp only at p0
      rw [p0] at hK ⊢
      clear p0
      unfold RunsOp
      go_simp
      exact hK.out _ _ ⟨_, rfl, Only.refl _ _, rfl⟩
    · intro vals wr hR hp K hK
      dsimp only at hK ⊢
      obtain ⟨p1, -⟩ := hp
      replace p1 := p1 rfl
      dsimp only at p1
      rw [p1] at hK ⊢
      clear p1
      unfold RunsOp
      go_simp
      exact hK.out _ _ ⟨_, rfl, Only.refl _ _, rfl⟩
    · intro vals wr hR hp K hK
      dsimp only at hK ⊢
      obtain ⟨p2, -⟩ := hp
      replace p2 := p2 rfl
      dsimp only at p2
      rw [p2] at hK ⊢
      clear p2
      unfold RunsOp
      have k0 := (hR.cell (p := ⟨ga, 0, none⟩) HG.out.2.2 (by simp)).trans HG.out.1
      go_simp
      exact hK.out _ _ ⟨_, rfl, Only.refl _ _, rfl⟩
    · intro vals wr hR hp K hK
      dsimp only at hK ⊢
      clear hp
      unfold RunsOp
      go_simp
      exact hK.out _ _ ⟨_, rfl, Only.refl _ _, rfl⟩
    · intro vals wr hR hp K hK
      dsimp only at hK ⊢
      obtain ⟨p4, -⟩ := hp
      replace p4 := p4 rfl
      dsimp only at p4
      rw [p4] at hK ⊢
      clear p4
      unfold RunsOp
      go_simp
      exact hK.out _ _ ⟨_, rfl, Only.refl _ _, rfl⟩
    · intro vals wr hR hp K hK
      dsimp only at hK ⊢
      obtain ⟨p5, -⟩ := hp
      replace p5 := p5 rfl
      dsimp only at p5
      rw [p5] at hK ⊢
      clear p5
      unfold RunsOp
      go_simp
      exact hK.out _ _ ⟨_, rfl, Only.refl _ _, rfl⟩
    · intro vals wr hR hp K hK
      dsimp only at hK ⊢
      obtain ⟨p6, -⟩ := hp
      replace p6 := p6 rfl
      dsimp only at p6
      rw [p6] at hK ⊢
      clear p6
      unfold RunsOp
      have k0 := (hR.cell (p := ⟨ga, 1, none⟩) HG.out.2.2 (by simp)).trans HG.out.2.1
      go_simp
      exact hK.out _ _ ⟨_, rfl, Only.refl _ _, rfl⟩
    · intro vals wr hR hp K hK
      dsimp only at hK ⊢
      obtain ⟨p3, p7, -⟩ := hp
      replace p3 := p3 rfl
      replace p7 := p7 rfl
      dsimp only at p3 p7
      rw [p3, p7] at hK ⊢
      clear p3 p7
      unfold RunsOp
      go_simp
      have hsz := ((Only.refl [] w).drew.trans hR (by simp)).size
      refine (HN.out _ ((Only.refl [] _).drew.trans hR (by simp))).mono ?_
      rintro e' w2 ⟨rfl, ⟨A', c', h2⟩, o2⟩
      exact hK.out _ _ ⟨_, rfl, o2, _, rfl, hsz, A', c', h2.base hsz⟩
  case doneg =>
    intro vals wd hR hF
    have f0 : vals 0 = .pointer (some ⟨ga, 0, none⟩) := hF 0 (by decide)
    have f1 : vals 1 = .pointer (some ⟨ga, 0, none⟩) := hF 1 (by decide)
    have f2 : vals 2 = .pointer (some ⟨ga, 0, none⟩) := hF 2 (by decide)
    have f3 : vals 3 = .func (.func 22) #[] #[] := hF 3 (by decide)
    have f4 : vals 4 = .pointer (some ⟨ga, 0, none⟩) := hF 4 (by decide)
    have f5 : vals 5 = .pointer (some ⟨ga, 0, none⟩) := hF 5 (by decide)
    have f6 : vals 6 = .pointer (some ⟨ga, 1, none⟩) := hF 6 (by decide)
    have f7 : vals 7 = .slice Aa na ca := hF 7 (by decide)
    have f8 : ∃ g', (vals 8) = .pointer (some ⟨g', 0, none⟩) ∧ w.heap.size ≤ g' ∧ ∃ A' c', BBJ w.heap.size wd g' La A' c' := hF 8 (by decide)
    rw [f0, f1, f2, f3, f4, f5, f6, f7]
    clear f0 f1 f2 f3 f4 f5 f6 f7
    have HOd := Lib.hid (((Only.refl [] w).drew.trans hR (by simp)))
    obtain ⟨g', f8, hg1, A1, c1, hnw⟩ := f8
    rw [f8]
    have hgl := hnw.blk.lt
    have hbk := (HB.out.keep HOd.out)
    have hg2 := hbk.blk.facts2
    rw [HL.out.2] at hg2
    obtain ⟨b0, b1, bl⟩ := hg2
    have hsz := HOd.out.size
    have HP := Lib.hid (putJ (cl := cb) hnw hbk.rowC HL.out.2 (by rw [HL.out.1]; exact hsum) hsz)
    clear hR hF f8 hnw hbk
    gi_wp2_with (fail)
    go_wp2_with (fail)
    refine HP.out.mono ?_
    rintro e w2 ⟨rfl, ⟨A2, c2, hb⟩, o2⟩
    have HF := Lib.hid hb
    have HO := Lib.hid (HOd.out.trans o2 (fun x hx => .inr (by simp at hx; omega)))
    clear hb o2 b0 b1 bl
    go_wp2_with (fail)
    go_ret
    exact ⟨g', A2, c2, rfl, hg1, HF.out, HO.out⟩
theorem cmpZ_zeroJ (x y : Ent) : (cmpZ (keyJ x) (keyJ y) != 0) = !decide (keyJ x = keyJ y) := by
  unfold cmpZ
  rcases Int.lt_trichotomy (keyJ x) (keyJ y) with h | h | h
  · rw [if_pos h, decide_eq_false (by omega)]; rfl
  · rw [if_neg (by omega), if_neg (by omega), decide_eq_true h]; rfl
  · rw [if_neg (by omega), if_pos h, decide_eq_false (by omega)]; rfl
set_option maxHeartbeats 4000000 in
theorem sameJ {B B' : Nat} {w : World} {ga gb : Nat} {La Lb : List Ent} {Aa Ab : Option Addr} {ca cb : Nat} (hA : BBJ B w ga La Aa ca) (hB : BBJ B' w gb Lb Ab cb) (hn : La.length ≤ 1000000) (_hm : Lb.length ≤ 1000000) :
    Calls Try.prog 33 #[.pointer (some ⟨ga, 0, none⟩), .pointer (some ⟨gb, 0, none⟩)] w fun e w' => e = .returned (.bool (decide (La.map keyJ = Lb.map keyJ))) ∧ Only [] w w' := by
  have HA := Lib.hid hA
  have HB := Lib.hid hB
  by_cases hlen : La.length = Lb.length
  · have HL := Lib.hid hlen
    obtain ⟨n, hna⟩ : ∃ n, La.length = n := ⟨_, rfl⟩
    have HN := Lib.hid (show La.length = n ∧ Lb.length = n from ⟨hna, by omega⟩)
    rw [hna] at hn
    have e0 : ((n : Int) != (n : Int)) = false := by simp
    have hg := hA.blk.facts2
    have hg2 := hB.blk.facts2
    rw [hna] at hg
    rw [HN.out.2] at hg2
    obtain ⟨a0, a1, al⟩ := hg
    obtain ⟨b0, b1, bl⟩ := hg2
    clear hA hB hlen hna
    go_enter Try.func33, Try.ntmps33
    go_wp2_with (fail)
    go_quiet (fail)
    generalize hW : w.drewN _ = W0
    have o0 : Only [] w W0 := by rw [← hW]; exact (Only.refl _ _).drewN _
    clear a0 a1 al b0 b1 bl hW
    have HO0 := Lib.hid o0
    have hg := (HA.out.keep o0).blk.facts2
    rw [HN.out.1] at hg
    obtain ⟨a0, a1, al⟩ := hg
    clear o0
    go_wp2_with (fail)
    clear a0 a1 al
    go_loopw [35] (fun u wr => ∃ (i : Nat), u = .int .i64 i ∧ i ≤ n ∧ Hid ((La.take i).map keyJ = (Lb.take i).map keyJ) ∧ Hid (Only [] w wr)) (fun u _ => n - (intOf u).toNat)
    case atStart => exact ⟨0, rfl, Nat.zero_le _, Lib.hid rfl, HO0⟩
    case round =>
      obtain ⟨wq, rfl⟩ : ∃ wq : World, wq = wr := ⟨_, rfl⟩
      obtain ⟨i, rfl, hi, HE, HO⟩ := hrel
      by_cases hlt : i < n
      · obtain ⟨x, hx⟩ := at_some (L := La) (i := i) (by rw [HN.out.1]; exact hlt)
        obtain ⟨y, hy⟩ := at_some (L := Lb) (i := i) (by rw [HN.out.2]; exact hlt)
        obtain ⟨p, po, hpa, pl, c0, c1⟩ := rowJ (HA.out.keep HO.out).rowC hx
        obtain ⟨q, qo, hqa, ql, d0, d1⟩ := rowJ ((HB.out.keep HO.out).keep ((Only.refl [] wq).alloc (.cells #[.int .i64 x.1, .int .i64 x.2] 49))).rowC hy
        have hp0 := own_form HA.out.row
        obtain rfl : po = 0 := by
          rcases own_form HA.out.row with ⟨h, _⟩ | ⟨⟨b, h⟩, _⟩
          · rw [h] at hpa; cases hpa
          · rw [h] at hpa; cases hpa; rfl
        obtain rfl : qo = 0 := by
          rcases own_form HB.out.row with ⟨h, _⟩ | ⟨⟨b, h⟩, _⟩
          · rw [h] at hqa; cases hqa
          · rw [h] at hqa; cases hqa; rfl
        rw [Nat.zero_add] at c0 c1 d0 d1
        cases hpa
        cases hqa
        clear hp0
        have HD := Lib.hid (And.intro ql (And.intro d0 d1))
        have hga := ((HA.out.keep HO.out).keep ((Only.refl [] wq).alloc (.cells #[.int .i64 x.1, .int .i64 x.2] 49))).blk.facts2
        have hgb := ((HB.out.keep HO.out).keep ((Only.refl [] wq).alloc (.cells #[.int .i64 x.1, .int .i64 x.2] 49))).blk.facts2
        rw [HN.out.1] at hga
        rw [HN.out.2] at hgb
        have HGA := Lib.hid hga
        have HGB := Lib.hid hgb
        have HBX := Lib.hid (Blk.new wq 49 #[.int .i64 x.1, .int .i64 x.2]).facts2
        have iz1 : (i : Int) < (n : Int) := by omega
        have hcz := cmpZ_zeroJ x y
        have HXY := Lib.hid (And.intro hx hy)
        clear hga hgb hx hy d0 d1 ql
        by_cases hxy : keyJ x = keyJ y
        · rw [decide_eq_true hxy] at hcz
          have HK := Lib.hid hxy
          clear hxy
          go_wp2_with (fail)
          refine (wpIn_wide (n := 9)).1 ?_
          refine wpIn_region_relR 13 (Only []) (fr := ?frt) (tl := ?tlt) (fun iq v wv => match iq with
            | 0 => v = .pointer (some ⟨ga, 0, none⟩)
            | 1 => v = .pointer (some ⟨ga, 0, none⟩)
            | 2 => v = .pointer (some ⟨ga, 0, none⟩)
            | 3 => v = .func (.func 22) #[] #[]
            | 4 => v = .agg #[.int .i64 x.1, .int .i64 x.2]
            | 5 => v = .pointer (some ⟨gb, 0, none⟩)
            | 6 => v = .pointer (some ⟨gb, 0, none⟩)
            | 7 => v = .pointer (some ⟨gb, 1, none⟩)
            | 8 => v = .slice (some ⟨q, 0, none⟩) n cb
            | 9 => v = .int .i64 (i : Nat)
            | 10 => v = .pointer (some ⟨q, i * 2, none⟩)
            | 11 => v = .agg #[.int .i64 y.1, .int .i64 y.2]
            | 12 => v = .int .i64 (cmpZ (keyJ x) (keyJ y))
            | _ => True) (.inl rfl) (by kernel_rfl) (by kernel_rfl) (by kernel_rfl) (by kernel_rfl) (by kernel_rfl) (by kernel_rfl) (by decide) ?htlt ?hfrt (Only.refl _ _) (fun _ _ _ h k => h.trans k (fun _ hx => .inl hx)) ?stabt ?stepst ?donet
          case htlt => simp only [List.drop_succ_cons, List.drop_zero]; rfl
          case hfrt => intro vals; simp only [putAll, dstAt, Act.put, List.getElem?_toArray, List.getElem?_cons_zero, List.getElem?_cons_succ, Option.bind_some, List.setIfInBounds_toArray, List.set_cons_zero, List.set_cons_succ]; rfl
          case stabt =>
            intro i v wa wb h
            try dsimp only
            split <;> first | exact id
          case stepst =>
            refine ⟨?_, ?_, ?_, ?_, ?_, ?_, ?_, ?_, ?_, ?_, ?_, ?_, ?_, trivial⟩
            · intro vals wr hR hp K hK
              dsimp only at hK ⊢
              clear hp
              unfold RunsOp
              go_simp
              exact hK.out _ _ ⟨_, rfl, Only.refl _ _, rfl⟩
            · intro vals wr hR hp K hK
              dsimp only at hK ⊢
              obtain ⟨p0, -⟩ := hp
              replace p0 := p0 rfl
              dsimp only at p0
              rw [p0] at hK ⊢
              clear p0
              unfold RunsOp
              go_simp
              exact hK.out _ _ ⟨_, rfl, Only.refl _ _, rfl⟩
            · intro vals wr hR hp K hK
              dsimp only at hK ⊢
              obtain ⟨p1, -⟩ := hp
              replace p1 := p1 rfl
              dsimp only at p1
              rw [p1] at hK ⊢
              clear p1
              unfold RunsOp
              go_simp
              exact hK.out _ _ ⟨_, rfl, Only.refl _ _, rfl⟩
            · intro vals wr hR hp K hK
              dsimp only at hK ⊢
              obtain ⟨p2, -⟩ := hp
              replace p2 := p2 rfl
              dsimp only at p2
              rw [p2] at hK ⊢
              clear p2
              unfold RunsOp
              have k0 := (hR.cell (p := ⟨ga, 0, none⟩) HGA.out.2.2 (by simp)).trans HGA.out.1
              go_simp
              exact hK.out _ _ ⟨_, rfl, Only.refl _ _, rfl⟩
            · intro vals wr hR hp K hK
              dsimp only at hK ⊢
              clear hp
              unfold RunsOp
              have k0 := (hR.cell (p := ⟨wq.heap.size, 0, none⟩) HBX.out.2.2 (by simp)).trans HBX.out.1
              have k1 := (hR.cell (p := ⟨wq.heap.size, 1, none⟩) HBX.out.2.2 (by simp)).trans HBX.out.2.1
              go_simp
              exact hK.out _ _ ⟨_, rfl, Only.refl _ _, rfl⟩
            · intro vals wr hR hp K hK
              dsimp only at hK ⊢
              clear hp
              unfold RunsOp
              go_simp
              exact hK.out _ _ ⟨_, rfl, Only.refl _ _, rfl⟩
            · intro vals wr hR hp K hK
              dsimp only at hK ⊢
              obtain ⟨p5, -⟩ := hp
              replace p5 := p5 rfl
              dsimp only at p5
              rw [p5] at hK ⊢
              clear p5
              unfold RunsOp
              go_simp
              exact hK.out _ _ ⟨_, rfl, Only.refl _ _, rfl⟩
            · intro vals wr hR hp K hK
              dsimp only at hK ⊢
              obtain ⟨p6, -⟩ := hp
              replace p6 := p6 rfl
              dsimp only at p6
              rw [p6] at hK ⊢
              clear p6
              unfold RunsOp
              go_simp
              exact hK.out _ _ ⟨_, rfl, Only.refl _ _, rfl⟩
            · intro vals wr hR hp K hK
              dsimp only at hK ⊢
              obtain ⟨p7, -⟩ := hp
              replace p7 := p7 rfl
              dsimp only at p7
              rw [p7] at hK ⊢
              clear p7
              unfold RunsOp
              have k0 := (hR.cell (p := ⟨gb, 1, none⟩) HGB.out.2.2 (by simp)).trans HGB.out.2.1
              go_simp
              exact hK.out _ _ ⟨_, rfl, Only.refl _ _, rfl⟩
            · intro vals wr hR hp K hK
              dsimp only at hK ⊢
              clear hp
              unfold RunsOp
              go_simp
              exact hK.out _ _ ⟨_, rfl, Only.refl _ _, rfl⟩
            · intro vals wr hR hp K hK
              dsimp only at hK ⊢
              obtain ⟨p8, p9, -⟩ := hp
              replace p8 := p8 rfl
              replace p9 := p9 rfl
              dsimp only at p8 p9
              rw [p8, p9] at hK ⊢
              clear p8 p9
              unfold RunsOp
              have i0 : (0 : Int) ≤ (i : Int) := by omega
              have i1 : (i : Int) < (n : Int) := by omega
              go_simp
              exact hK.out _ _ ⟨_, rfl, Only.refl _ _, rfl⟩
            · intro vals wr hR hp K hK
              dsimp only at hK ⊢
              obtain ⟨p10, -⟩ := hp
              replace p10 := p10 rfl
              dsimp only at p10
              rw [p10] at hK ⊢
              clear p10
              unfold RunsOp
              have k0 := (hR.cell (p := ⟨q, i * 2, none⟩) HD.out.1 (by simp)).trans HD.out.2.1
              have k1 := (hR.cell (p := ⟨q, i * 2 + 1, none⟩) HD.out.1 (by simp)).trans HD.out.2.2
              go_simp
              exact hK.out _ _ ⟨_, rfl, Only.refl _ _, rfl⟩
            · intro vals wr hR hp K hK
              dsimp only at hK ⊢
              obtain ⟨p3, p4, p11, -⟩ := hp
              replace p3 := p3 rfl
              replace p4 := p4 rfl
              replace p11 := p11 rfl
              dsimp only at p3 p4 p11
              rw [p3, p4, p11] at hK ⊢
              clear p3 p4 p11
              unfold RunsOp
              go_simp
              refine (level_any x.1 x.2 y.1 y.2 _).mono ?_
              rintro e' w2 ⟨rfl, o2⟩
              exact hK.out _ _ ⟨_, rfl, o2, rfl⟩
          case donet =>
            intro vals wd hR hF
            have f12 : (vals 12) = .int .i64 (cmpZ (keyJ x) (keyJ y)) := hF 12 (by decide)
            rw [f12]
            clear f12
            have HOd := Lib.hid ((HO.out.trans ((Only.refl [] wq).alloc (.cells #[.int .i64 x.1, .int .i64 x.2] 49)) (by simp)).trans ((Only.refl [] (wq.alloc (.cells #[.int .i64 x.1, .int .i64 x.2] 49))).drew.trans hR (by simp)) (by simp))
            clear hR hF
            gi_wp2_with (fail)
            go_wp2_with (fail)
            go_roundw
            case rel => exact ⟨i + 1, by go_num, by omega, Lib.hid (by rw [take_succ_of HXY.out.1, take_succ_of HXY.out.2, List.map_append, List.map_append, HE.out, List.map_cons, List.map_cons, HK.out]), HOd⟩
            case measure => simp [intOf]; omega
        · rw [decide_eq_false hxy] at hcz
          have HK := Lib.hid (show La.map keyJ ≠ Lb.map keyJ from fun h => hxy (by
            have h2 := congrArg (·[i]?) h
            simp only [List.getElem?_map, HXY.out.1, HXY.out.2, Option.map_some] at h2
            exact Option.some.inj h2))
          clear hxy
          go_wp2_with (fail)
          refine (wpIn_wide (n := 9)).1 ?_
          refine wpIn_region_relR 13 (Only []) (fr := ?frf) (tl := ?tlf) (fun iq v wv => match iq with
            | 0 => v = .pointer (some ⟨ga, 0, none⟩)
            | 1 => v = .pointer (some ⟨ga, 0, none⟩)
            | 2 => v = .pointer (some ⟨ga, 0, none⟩)
            | 3 => v = .func (.func 22) #[] #[]
            | 4 => v = .agg #[.int .i64 x.1, .int .i64 x.2]
            | 5 => v = .pointer (some ⟨gb, 0, none⟩)
            | 6 => v = .pointer (some ⟨gb, 0, none⟩)
            | 7 => v = .pointer (some ⟨gb, 1, none⟩)
            | 8 => v = .slice (some ⟨q, 0, none⟩) n cb
            | 9 => v = .int .i64 (i : Nat)
            | 10 => v = .pointer (some ⟨q, i * 2, none⟩)
            | 11 => v = .agg #[.int .i64 y.1, .int .i64 y.2]
            | 12 => v = .int .i64 (cmpZ (keyJ x) (keyJ y))
            | _ => True) (.inl rfl) (by kernel_rfl) (by kernel_rfl) (by kernel_rfl) (by kernel_rfl) (by kernel_rfl) (by kernel_rfl) (by decide) ?htlf ?hfrf (Only.refl _ _) (fun _ _ _ h k => h.trans k (fun _ hx => .inl hx)) ?stabf ?stepsf ?donef
          case htlf => simp only [List.drop_succ_cons, List.drop_zero]; rfl
          case hfrf => intro vals; simp only [putAll, dstAt, Act.put, List.getElem?_toArray, List.getElem?_cons_zero, List.getElem?_cons_succ, Option.bind_some, List.setIfInBounds_toArray, List.set_cons_zero, List.set_cons_succ]; rfl
          case stabf =>
            intro i v wa wb h
            try dsimp only
            split <;> first | exact id
          case stepsf =>
            refine ⟨?_, ?_, ?_, ?_, ?_, ?_, ?_, ?_, ?_, ?_, ?_, ?_, ?_, trivial⟩
            · intro vals wr hR hp K hK
              dsimp only at hK ⊢
              clear hp
              unfold RunsOp
              go_simp
              exact hK.out _ _ ⟨_, rfl, Only.refl _ _, rfl⟩
            · intro vals wr hR hp K hK
              dsimp only at hK ⊢
              obtain ⟨p0, -⟩ := hp
              replace p0 := p0 rfl
              dsimp only at p0
              rw [p0] at hK ⊢
              clear p0
              unfold RunsOp
              go_simp
              exact hK.out _ _ ⟨_, rfl, Only.refl _ _, rfl⟩
            · intro vals wr hR hp K hK
              dsimp only at hK ⊢
              obtain ⟨p1, -⟩ := hp
              replace p1 := p1 rfl
              dsimp only at p1
              rw [p1] at hK ⊢
              clear p1
              unfold RunsOp
              go_simp
              exact hK.out _ _ ⟨_, rfl, Only.refl _ _, rfl⟩
            · intro vals wr hR hp K hK
              dsimp only at hK ⊢
              obtain ⟨p2, -⟩ := hp
              replace p2 := p2 rfl
              dsimp only at p2
              rw [p2] at hK ⊢
              clear p2
              unfold RunsOp
              have k0 := (hR.cell (p := ⟨ga, 0, none⟩) HGA.out.2.2 (by simp)).trans HGA.out.1
              go_simp
              exact hK.out _ _ ⟨_, rfl, Only.refl _ _, rfl⟩
            · intro vals wr hR hp K hK
              dsimp only at hK ⊢
              clear hp
              unfold RunsOp
              have k0 := (hR.cell (p := ⟨wq.heap.size, 0, none⟩) HBX.out.2.2 (by simp)).trans HBX.out.1
              have k1 := (hR.cell (p := ⟨wq.heap.size, 1, none⟩) HBX.out.2.2 (by simp)).trans HBX.out.2.1
              go_simp
              exact hK.out _ _ ⟨_, rfl, Only.refl _ _, rfl⟩
            · intro vals wr hR hp K hK
              dsimp only at hK ⊢
              clear hp
              unfold RunsOp
              go_simp
              exact hK.out _ _ ⟨_, rfl, Only.refl _ _, rfl⟩
            · intro vals wr hR hp K hK
              dsimp only at hK ⊢
              obtain ⟨p5, -⟩ := hp
              replace p5 := p5 rfl
              dsimp only at p5
              rw [p5] at hK ⊢
              clear p5
              unfold RunsOp
              go_simp
              exact hK.out _ _ ⟨_, rfl, Only.refl _ _, rfl⟩
            · intro vals wr hR hp K hK
              dsimp only at hK ⊢
              obtain ⟨p6, -⟩ := hp
              replace p6 := p6 rfl
              dsimp only at p6
              rw [p6] at hK ⊢
              clear p6
              unfold RunsOp
              go_simp
              exact hK.out _ _ ⟨_, rfl, Only.refl _ _, rfl⟩
            · intro vals wr hR hp K hK
              dsimp only at hK ⊢
              obtain ⟨p7, -⟩ := hp
              replace p7 := p7 rfl
              dsimp only at p7
              rw [p7] at hK ⊢
              clear p7
              unfold RunsOp
              have k0 := (hR.cell (p := ⟨gb, 1, none⟩) HGB.out.2.2 (by simp)).trans HGB.out.2.1
              go_simp
              exact hK.out _ _ ⟨_, rfl, Only.refl _ _, rfl⟩
            · intro vals wr hR hp K hK
              dsimp only at hK ⊢
              clear hp
              unfold RunsOp
              go_simp
              exact hK.out _ _ ⟨_, rfl, Only.refl _ _, rfl⟩
            · intro vals wr hR hp K hK
              dsimp only at hK ⊢
              obtain ⟨p8, p9, -⟩ := hp
              replace p8 := p8 rfl
              replace p9 := p9 rfl
              dsimp only at p8 p9
              rw [p8, p9] at hK ⊢
              clear p8 p9
              unfold RunsOp
              have i0 : (0 : Int) ≤ (i : Int) := by omega
              have i1 : (i : Int) < (n : Int) := by omega
              go_simp
              exact hK.out _ _ ⟨_, rfl, Only.refl _ _, rfl⟩
            · intro vals wr hR hp K hK
              dsimp only at hK ⊢
              obtain ⟨p10, -⟩ := hp
              replace p10 := p10 rfl
              dsimp only at p10
              rw [p10] at hK ⊢
              clear p10
              unfold RunsOp
              have k0 := (hR.cell (p := ⟨q, i * 2, none⟩) HD.out.1 (by simp)).trans HD.out.2.1
              have k1 := (hR.cell (p := ⟨q, i * 2 + 1, none⟩) HD.out.1 (by simp)).trans HD.out.2.2
              go_simp
              exact hK.out _ _ ⟨_, rfl, Only.refl _ _, rfl⟩
            · intro vals wr hR hp K hK
              dsimp only at hK ⊢
              obtain ⟨p3, p4, p11, -⟩ := hp
              replace p3 := p3 rfl
              replace p4 := p4 rfl
              replace p11 := p11 rfl
              dsimp only at p3 p4 p11
              rw [p3, p4, p11] at hK ⊢
              clear p3 p4 p11
              unfold RunsOp
              go_simp
              refine (level_any x.1 x.2 y.1 y.2 _).mono ?_
              rintro e' w2 ⟨rfl, o2⟩
              exact hK.out _ _ ⟨_, rfl, o2, rfl⟩
          case donef =>
            intro vals wd hR hF
            have f12 : (vals 12) = .int .i64 (cmpZ (keyJ x) (keyJ y)) := hF 12 (by decide)
            rw [f12]
            clear f12
            have HOd := Lib.hid ((HO.out.trans ((Only.refl [] wq).alloc (.cells #[.int .i64 x.1, .int .i64 x.2] 49)) (by simp)).trans ((Only.refl [] (wq.alloc (.cells #[.int .i64 x.1, .int .i64 x.2] 49))).drew.trans hR (by simp)) (by simp))
            clear hR hF
            gi_wp2_with (fail)
            go_wp2_with (fail)
            go_ret
            exact ⟨by rw [decide_eq_false HK.out]; rfl, HOd.out⟩
      · have hie : i = n := by omega
        have HK := Lib.hid (show La.map keyJ = Lb.map keyJ by
          have h := HE.out
          rw [hie, List.take_of_length_le (by rw [HN.out.1]; exact Nat.le_refl _), List.take_of_length_le (by rw [HN.out.2]; exact Nat.le_refl _)] at h
          exact h)
        have iz1 : ¬ (i : Int) < (n : Int) := by omega
        clear hie
        go_wp2_with (fail)
        go_ret
        exact ⟨by rw [decide_eq_true HK.out]; rfl, HO.out⟩
  · have HK := Lib.hid (show La.map keyJ ≠ Lb.map keyJ from fun h => hlen (by have := congrArg List.length h; simpa using this))
    obtain ⟨a0, a1, al⟩ := hA.blk.facts2
    obtain ⟨b0, b1, bl⟩ := hB.blk.facts2
    generalize La.length = n at *
    generalize Lb.length = m at *
    have e0 : ((n : Int) != (m : Int)) = true := by simp; omega
    clear hA hB HA HB
    go_enter Try.func33, Try.ntmps33
    go_wp2_with (fail)
    go_quiet (fail)
    generalize hW : w.drewN _ = W0
    have o0 : Only [] w W0 := by rw [← hW]; exact (Only.refl _ _).drewN _
    clear a0 a1 al b0 b1 bl hW
    go_wp2_with (fail)
    go_ret
    exact ⟨by rw [decide_eq_false HK.out]; rfl, o0⟩
end Go.Proofs.Ytpedlapemgjgaaa
