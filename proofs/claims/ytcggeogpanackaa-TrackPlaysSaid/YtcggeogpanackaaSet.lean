/- Set. -/
import Derived.Test.YtcggeogpanackaaAwake
namespace Go.Proofs.Ytcggeogpanackaa
open Go.RowKit Go.Kx
set_option maxRecDepth 20000

theorem flat4_set : ∀ (L : List En) (i : Nat) (x : Int), i < L.length → (flat4 L).set (i * 4 + 3) (.int .i64 x) = flat4 (L.set i ((L.getD i dE).1, x))
  | [], i, x, h => by simp at h
  | a :: L, 0, x, _ => by simp [flat4, cells4]
  | a :: L, i + 1, x, h => by
    have ih := flat4_set L i x (by simpa using h)
    have e : (i + 1) * 4 + 3 = i * 4 + 3 + 1 + 1 + 1 + 1 := by omega
    show (cells4 a ++ flat4 L).set ((i + 1) * 4 + 3) _ = cells4 a ++ flat4 (L.set i _)
    rw [e]
    have e2 : (L.getD i dE) = ((a :: L).getD (i + 1) dE) := by simp
    rw [← e2, ← ih]
    rfl
theorem own_set {W : World} {base n cap b i : Nat} {t : TypeId} {L : List En} {x : Int} (hn : L.length = n) (h : W.ownsRow base t 4 (.slice (some ⟨b, 0, none⟩) n cap) n (flat4 L)) (hi : i < n) :
    (W.setCell ⟨b, i * 4 + 3, none⟩ (.int .i64 x)).ownsRow base t 4 (.slice (some ⟨b, 0, none⟩) n cap) n (flat4 (L.set i ((L.getD i dE).1, x))) := by
  rcases h.2 with ⟨h1, h2⟩ | ⟨g, cap', cur, h1, hb, hg, hnc, hcm, hcs, hcur⟩
  · omega
  · injection h1 with h1 _ h3
    injection h1 with h1
    injection h1 with h1 _ _
    subst h1
    subst h3
    refine ⟨by rw [flat4_length, List.length_set, hn], .inr ⟨b, cap, cur.setIfInBounds (i * 4 + 3) (.int .i64 x), rfl, hb, Blk.set_ (w := W) (cs := cur) (t := t) hg _ _, hnc, hcm, by simp [hcs], ?_⟩⟩
    rw [← flat4_set L i x (by omega), ← hcur]
    simp [List.take_set]
def setT (L : List En) (s : St) (x : Int) : List En := if stR s = true ∧ pbT L s ≠ [] then paT L s ++ [(s, x)] ++ pcT L s else L
theorem set_found {L : List En} (hk : Trk L) {s : St} (os : s.ok) (rs : stR s = true) : (pbT L s ≠ [] ↔ ∃ h : aheadT L s < L.length, (L[aheadT L s]).1 = s) := by
  obtain ⟨h1, h2⟩ := hk.ahead os rs
  have h3 : ∀ e, (pbT L s ++ pcT L s)[0]? = some e → L[aheadT L s]? = some e := fun e he => by
    rw [← h2, List.getElem?_drop] at he; simpa using he
  constructor
  · intro hne
    rcases hk.pb os rs with h | ⟨y, hy⟩
    · exact absurd h hne
    · have := h3 (s, y) (by rw [hy]; rfl)
      obtain ⟨hlt, he⟩ := List.getElem?_eq_some_iff.1 this
      exact ⟨hlt, by rw [he]⟩
  · rintro ⟨hlt, he⟩ hb
    rw [hb, List.nil_append] at h2
    have hm : L[aheadT L s] ∈ pcT L s := by
      rw [← h2, List.mem_iff_getElem?]
      exact ⟨0, by rw [List.getElem?_drop]; simp [hlt]⟩
    have h4 := (List.mem_filter.1 hm).2
    rw [he] at h4
    have hz := (stC_zero os os rs rs).2 rfl
    simp [hz] at h4
theorem set_eq {L : List En} (hk : Trk L) {s : St} (os : s.ok) (rs : stR s = true) (hlt : aheadT L s < L.length) (he : (L[aheadT L s]).1 = s) (x : Int) : setT L s x = L.set (aheadT L s) ((L.getD (aheadT L s) dE).1, x) := by
  obtain ⟨h1, h2⟩ := hk.ahead os rs
  have hne := (set_found hk os rs).2 ⟨hlt, he⟩
  have hg : (L.getD (aheadT L s) dE).1 = s := by simp [List.getD, hlt, he]
  unfold setT
  rw [if_pos ⟨rs, hne⟩, hg, List.set_eq_take_append_cons_drop, if_pos hlt, h1]
  rcases hk.pb os rs with h | ⟨y, hy⟩
  · exact absurd h hne
  · have : L.drop (aheadT L s + 1) = pcT L s := by
      rw [← List.drop_drop, h2, hy]; rfl
    rw [this]; simp
theorem Trk.set {L : List En} (hk : Trk L) {s : St} (os : s.ok) (rs : stR s = true) {x : Int} (ox : I64 x) (hlt : aheadT L s < L.length) (he : (L[aheadT L s]).1 = s) : Trk (setT L s x) := by
  rw [set_eq hk os rs hlt he]
  have hg : (L.getD (aheadT L s) dE).1 = (L[aheadT L s]).1 := by simp [List.getD, hlt]
  have key : ∀ j (hj : j < (L.set (aheadT L s) ((L.getD (aheadT L s) dE).1, x)).length), ((L.set (aheadT L s) ((L.getD (aheadT L s) dE).1, x))[j]).1 = (L[j]'(by simpa using hj)).1 := fun j hj => by
    rw [List.getElem_set]
    split
    · rename_i h; subst h; exact hg
    · rfl
  refine ⟨fun e hm => ?_, fun e hm => ?_, ?_⟩
  · obtain ⟨j, hj, rfl⟩ := List.getElem_of_mem hm
    refine ⟨by rw [key]; exact (hk.ok _ (List.getElem_mem _)).1, ?_⟩
    rw [List.getElem_set]
    split
    · exact ox
    · exact (hk.ok _ (List.getElem_mem _)).2
  · obtain ⟨j, hj, rfl⟩ := List.getElem_of_mem hm
    rw [key]
    exact hk.right _ (List.getElem_mem _)
  · rw [List.pairwise_iff_getElem]
    intro a b ha hb hab
    rw [key, key]
    exact List.pairwise_iff_getElem.1 hk.rise a b _ _ hab
theorem neq34 (a b : St) {p : Bool} (h : decide (a = b) = p) (W : World) : (binOp .neq 34 (.agg #[.int .i64 a.1.1, .int .i64 a.1.2, .int .i64 a.2]) (.agg #[.int .i64 b.1.1, .int .i64 b.1.2, .int .i64 b.2])).run Try.prog W = .ok (.bool (!p)) W := by
  subst h
  obtain ⟨⟨x, y⟩, z⟩ := a
  obtain ⟨⟨x', y'⟩, z'⟩ := b
  by_cases h1 : x = x' <;> by_cases h2 : y = y' <;> by_cases h3 : z = z' <;> simp [go_sem, h1, h2, h3]
theorem set_wrong {g : Nat} {s : St} {x : Int} (os : s.ok) (rs : stR s = false) (w : World) : Calls Try.prog 22 #[.pointer (some ⟨g, 0, none⟩), .agg #[.int .i64 s.1.1, .int .i64 s.1.2, .int .i64 s.2], .int .i64 x] w fun e w' => e = .returned (.bool false) ∧ Only [] w w' := by
  go_enter Try.func22, Try.ntmps22
  go_wp2_with (fail)
  refine (strightr os rs _).mono ?_
  rintro e w2 ⟨rfl, o2⟩
  go_wp2_with (fail)
  go_ret
  exact ⟨rfl, ((Only.refl _ _).alloc _).trans o2 (by simp)⟩

set_option maxHeartbeats 4000000 in
theorem set_end {B : Nat} {w : World} {g : Nat} {room : Int} {L : List En} {A : Option Addr} {c n r : Nat} {s : St} {x : Int}  (hT : TB B w g room L A c) (hk : Trk L) (os : s.ok) (rs : stR s = true) (hlen : L.length ≤ 1048576) (hn : L.length = n) (hc : aheadT L s = r) (hr : r = n) :
    Calls Try.prog 22 #[.pointer (some ⟨g, 0, none⟩), .agg #[.int .i64 s.1.1, .int .i64 s.1.2, .int .i64 s.2], .int .i64 x] w fun e w' => e = .returned (.bool false) ∧ Only [] w w' := by
  have O0 := Lib.hid (Only.refl [] w)
  have hrn := hr
  subst hr
  have hbk := hT.blk
  rw [hn] at hbk
  have BG := Lib.hid hbk
  have HT := Lib.hid hT
  have HK := Lib.hid hk
  have RS := Lib.hid rs
  have HC := Lib.hid hc
  clear hbk
  clear hT hk rs hc
  go_enter Try.func22, Try.ntmps22
  go_wp2_with (fail)
  refine (strightr os RS.out _).mono ?_
  rintro e w1 ⟨rfl, o⟩
  have SBn : Blk (w.alloc (.cells #[.int .i64 s.1.1, .int .i64 s.1.2, .int .i64 s.2] 34)) (w.heap.size) 34 #[.int .i64 s.1.1, .int .i64 s.1.2, .int .i64 s.2] := (by have h := Blk.new w 34 #[.int .i64 s.1.1, .int .i64 s.1.2, .int .i64 s.2]; simpa using h)
  have BGx := o.blk (t := 66) (cs := #[.int .i64 room, .slice A r c]) (g := g) (by first | exact (BG.out.alloc _) | exact Blk.drewN (BG.out.alloc _) _ | exact Blk.drew (BG.out.alloc _)) (by simp)
  have SBx := o.blk (t := 34) (cs := #[.int .i64 s.1.1, .int .i64 s.1.2, .int .i64 s.2]) (g := w.heap.size) (by first | exact SBn | exact Blk.drewN SBn _ | exact Blk.drew SBn) (by simp)
  have O1x : Only [] w w1 := (by first | exact Only.trans (O0.out.alloc _) o (by simp) | exact Only.trans (Only.drewN (O0.out.alloc _) _) o (by simp) | exact Only.trans (Only.drew (O0.out.alloc _)) o (by simp))
  obtain ⟨BGc0, BGc1, BGl⟩ := BGx.facts2
  obtain ⟨SBc0, SBc1, SBc2, SBl⟩ := SBx.facts3
  clear BG SBn O0 o
  have BG := Lib.hid BGx; have SB := Lib.hid SBx; have O1 := Lib.hid O1x
  clear BGx SBx O1x
  go_wp2_with (fail)
  refine (ahead_any (HT.out.keep O1.out) HK.out os RS.out hlen).mono ?_
  rintro e w2 ⟨rfl, o⟩
  rw [HC.out]
  have BGx := o.blk (t := 66) (cs := #[.int .i64 room, .slice A r c]) (g := g) (by first | exact BG.out | exact Blk.drewN BG.out _ | exact Blk.drew BG.out) (by simp)
  have SBx := o.blk (t := 34) (cs := #[.int .i64 s.1.1, .int .i64 s.1.2, .int .i64 s.2]) (g := w.heap.size) (by first | exact SB.out | exact Blk.drewN SB.out _ | exact Blk.drew SB.out) (by simp)
  have O2x : Only [] w w2 := (by first | exact Only.trans O1.out o (by simp) | exact Only.trans (Only.drewN O1.out _) o (by simp) | exact Only.trans (Only.drew O1.out) o (by simp))
  obtain ⟨BGc0, BGc1, BGl⟩ := BGx.facts2
  obtain ⟨SBc0, SBc1, SBc2, SBl⟩ := SBx.facts3
  clear BG SB O1 o
  have BG := Lib.hid BGx; have SB := Lib.hid SBx; have O2 := Lib.hid O2x
  clear BGx SBx O2x
  go_wp2_with (fail)
  refine wp_region_facts 19 [] (fr := ?frb) (tl := ?tlb) (fun i v wv => match i with
    | 0 => v = .int .i64 r
    | 1 => v = .pointer (some ⟨g, 0, none⟩)
    | 2 => v = .pointer (some ⟨g, 0, none⟩)
    | 3 => v = .pointer (some ⟨g, 1, none⟩)
    | 4 => v = .slice A r c
    | 5 => v = .int .i64 r
    | 6 => v = .bool true
    | 7 => v = .bool true
    | 8 => v = undef
    | 9 => v = undef
    | 10 => v = undef
    | 11 => v = undef
    | 12 => v = undef
    | 13 => v = undef
    | 14 => v = undef
    | 15 => v = undef
    | 16 => v = undef
    | 17 => v = undef
    | 18 => v = .bool true
    | _ => True) (by kernel_rfl) (by kernel_rfl) (by kernel_rfl) (by kernel_rfl) (by decide) ?htlb ?hfrb ?stabb ?stepsb ?doneb
  case htlb => simp only [List.drop_succ_cons, List.drop_zero]; rfl
  case hfrb => intro vals; simp only [putAll, dstAt, Act.put, List.getElem?_toArray, List.getElem?_cons_zero, List.getElem?_cons_succ, Option.bind_some, List.setIfInBounds_toArray, List.set_cons_zero, List.set_cons_succ]; rfl
  case stabb =>
    intro i v wa wb h
    try dsimp only
    split <;> first | exact id | fail
  case stepsb =>
    refine ⟨?_, ?_, ?_, ?_, ?_, ?_, ?_, ?_, ?_, ?_, ?_, ?_, ?_, ?_, ?_, ?_, ?_, ?_, ?_, trivial⟩
    · intro vals wr hR hp K hK
      dsimp only at hK ⊢
      clear hp
      unfold RunsOp
      go_simp
      exact hK.out _ _ ⟨_, rfl, Only.refl _ _, rfl⟩
    · intro vals wr hR hp K hK
      dsimp only at hK ⊢
      clear hp
      unfold RunsOp
      go_simp
      exact hK.out _ _ ⟨_, rfl, Only.refl _ _, rfl⟩
    · intro vals wr hR hp K hK
      dsimp only at hK ⊢
      obtain ⟨p1, -⟩ := hp
      replace p1 := p1 rfl
      dsimp only at p1
      rw [p1] at hK ⊢
      clear p1
      unfold RunsOp
      go_simp
      exact hK.out _ _ ⟨_, rfl, Only.refl _ _, rfl⟩
    · intro vals wr hR hp K hK
      dsimp only at hK ⊢
      obtain ⟨p2, -⟩ := hp
      replace p2 := p2 rfl
      dsimp only at p2
      rw [p2] at hK ⊢
      clear p2
      unfold RunsOp
      go_simp
      exact hK.out _ _ ⟨_, rfl, Only.refl _ _, rfl⟩
    · intro vals wr hR hp K hK
      dsimp only at hK ⊢
      obtain ⟨p3, -⟩ := hp
      replace p3 := p3 rfl
      dsimp only at p3
      rw [p3] at hK ⊢
      clear p3
      unfold RunsOp
      have tbBG := hR.blk (by first | exact BG.out | exact Blk.drew BG.out) (by simp)
      obtain ⟨cBG0, cBG1, clBG⟩ := tbBG.facts2
      clear tbBG
      go_simp
      exact hK.out _ _ ⟨_, rfl, Only.refl _ _, rfl⟩
    · intro vals wr hR hp K hK
      dsimp only at hK ⊢
      obtain ⟨p4, -⟩ := hp
      replace p4 := p4 rfl
      dsimp only at p4
      rw [p4] at hK ⊢
      clear p4
      unfold RunsOp
      go_simp
      exact hK.out _ _ ⟨_, rfl, Only.refl _ _, rfl⟩
    · intro vals wr hR hp K hK
      dsimp only at hK ⊢
      obtain ⟨p0, p5, -⟩ := hp
      replace p0 := p0 rfl
      replace p5 := p5 rfl
      dsimp only at p0 p5
      rw [p0, p5] at hK ⊢
      clear p0 p5
      unfold RunsOp
      go_simp
      exact hK.out _ _ ⟨_, rfl, Only.refl _ _, rfl⟩
    · intro vals wr hR hp K hK
      dsimp only at hK ⊢
      obtain ⟨p6, -⟩ := hp
      replace p6 := p6 rfl
      dsimp only at p6
      rw [p6] at hK ⊢
      clear p6
      unfold RunsOp
      go_simp
      exact hK.out _ _ ⟨_, rfl, Only.refl _ _, rfl⟩
    · intro vals wr hR hp K hK
      dsimp only at hK ⊢
      obtain ⟨p7, -⟩ := hp
      replace p7 := p7 rfl
      dsimp only at p7
      rw [p7] at hK ⊢
      clear p7
      unfold RunsOp
      go_simp
      exact hK.out _ _ ⟨_, rfl, Only.refl _ _, rfl⟩
    · intro vals wr hR hp K hK
      dsimp only at hK ⊢
      obtain ⟨p8, p7, -⟩ := hp
      replace p8 := p8 rfl
      replace p7 := p7 rfl
      dsimp only at p8 p7
      rw [p8, p7] at hK ⊢
      clear p8 p7
      unfold RunsOp
      go_simp
      exact hK.out _ _ ⟨_, rfl, Only.refl _ _, rfl⟩
    · intro vals wr hR hp K hK
      dsimp only at hK ⊢
      obtain ⟨p9, p7, -⟩ := hp
      replace p9 := p9 rfl
      replace p7 := p7 rfl
      dsimp only at p9 p7
      rw [p9, p7] at hK ⊢
      clear p9 p7
      unfold RunsOp
      go_simp
      exact hK.out _ _ ⟨_, rfl, Only.refl _ _, rfl⟩
    · intro vals wr hR hp K hK
      dsimp only at hK ⊢
      obtain ⟨p10, p7, -⟩ := hp
      replace p10 := p10 rfl
      replace p7 := p7 rfl
      dsimp only at p10 p7
      rw [p10, p7] at hK ⊢
      clear p10 p7
      unfold RunsOp
      go_simp
      exact hK.out _ _ ⟨_, rfl, Only.refl _ _, rfl⟩
    · intro vals wr hR hp K hK
      dsimp only at hK ⊢
      obtain ⟨p7, -⟩ := hp
      replace p7 := p7 rfl
      dsimp only at p7
      rw [p7] at hK ⊢
      clear p7
      unfold RunsOp
      go_simp
      exact hK.out _ _ ⟨_, rfl, Only.refl _ _, rfl⟩
    · intro vals wr hR hp K hK
      dsimp only at hK ⊢
      obtain ⟨p11, p12, p7, -⟩ := hp
      replace p11 := p11 rfl
      replace p12 := p12 rfl
      replace p7 := p7 rfl
      dsimp only at p11 p12 p7
      rw [p11, p12, p7] at hK ⊢
      clear p11 p12 p7
      unfold RunsOp
      go_simp
      exact hK.out _ _ ⟨_, rfl, Only.refl _ _, rfl⟩
    · intro vals wr hR hp K hK
      dsimp only at hK ⊢
      obtain ⟨p13, p7, -⟩ := hp
      replace p13 := p13 rfl
      replace p7 := p7 rfl
      dsimp only at p13 p7
      rw [p13, p7] at hK ⊢
      clear p13 p7
      unfold RunsOp
      go_simp
      exact hK.out _ _ ⟨_, rfl, Only.refl _ _, rfl⟩
    · intro vals wr hR hp K hK
      dsimp only at hK ⊢
      obtain ⟨p14, p7, -⟩ := hp
      replace p14 := p14 rfl
      replace p7 := p7 rfl
      dsimp only at p14 p7
      rw [p14, p7] at hK ⊢
      clear p14 p7
      unfold RunsOp
      go_simp
      exact hK.out _ _ ⟨_, rfl, Only.refl _ _, rfl⟩
    · intro vals wr hR hp K hK
      dsimp only at hK ⊢
      obtain ⟨p7, -⟩ := hp
      replace p7 := p7 rfl
      dsimp only at p7
      rw [p7] at hK ⊢
      clear p7
      unfold RunsOp
      go_simp
      exact hK.out _ _ ⟨_, rfl, Only.refl _ _, rfl⟩
    · intro vals wr hR hp K hK
      dsimp only at hK ⊢
      obtain ⟨p15, p16, p7, -⟩ := hp
      replace p15 := p15 rfl
      replace p16 := p16 rfl
      replace p7 := p7 rfl
      dsimp only at p15 p16 p7
      rw [p15, p16, p7] at hK ⊢
      clear p15 p16 p7
      unfold RunsOp
      go_simp
      exact hK.out _ _ ⟨_, rfl, Only.refl _ _, rfl⟩
    · intro vals wr hR hp K hK
      dsimp only at hK ⊢
      obtain ⟨p7, p17, -⟩ := hp
      replace p7 := p7 rfl
      replace p17 := p17 rfl
      dsimp only at p7 p17
      rw [p7, p17] at hK ⊢
      clear p7 p17
      unfold RunsOp
      go_simp
      exact hK.out _ _ ⟨_, rfl, Only.refl _ _, rfl⟩
  intro vals w5 hR hF
  have f18 : vals 18 = .bool true := hF 18 (by decide)
  rw [f18]
  clear hF f18
  refine wpList_nil ?_
  have BGx := hR.blk (t := 66) (cs := #[.int .i64 room, .slice A r c]) (g := g) (by first | exact BG.out | exact Blk.drewN BG.out _ | exact Blk.drew BG.out) (by simp)
  have SBx := hR.blk (t := 34) (cs := #[.int .i64 s.1.1, .int .i64 s.1.2, .int .i64 s.2]) (g := w.heap.size) (by first | exact SB.out | exact Blk.drewN SB.out _ | exact Blk.drew SB.out) (by simp)
  have O3x : Only [] w w5 := (by first | exact Only.trans O2.out hR (by simp) | exact Only.trans (Only.drewN O2.out _) hR (by simp) | exact Only.trans (Only.drew O2.out) hR (by simp))
  obtain ⟨BGc0, BGc1, BGl⟩ := BGx.facts2
  obtain ⟨SBc0, SBc1, SBc2, SBl⟩ := SBx.facts3
  clear BG SB O2 hR
  have BG := Lib.hid BGx; have SB := Lib.hid SBx; have O3 := Lib.hid O3x
  clear BGx SBx O3x
  go_wp2_with (fail)
  go_ret
  exact ⟨rfl, O3.out⟩

theorem set_other {B : Nat} {w : World} {g : Nat} {room : Int} {L : List En} {A : Option Addr} {c n r : Nat} {s : St} {x : Int} {l : En} (hT : TB B w g room L A c) (hk : Trk L) (os : s.ok) (rs : stR s = true) (hlen : L.length ≤ 1048576) (hn : L.length = n) (hc : aheadT L s = r) (hl : L[r]? = some l) (hrn : r < n) (hne : l.1 ≠ s) :
    Calls Try.prog 22 #[.pointer (some ⟨g, 0, none⟩), .agg #[.int .i64 s.1.1, .int .i64 s.1.2, .int .i64 s.2], .int .i64 x] w fun e w' => e = .returned (.bool false) ∧ Only [] w w' := by
  have O0 := Lib.hid (Only.refl [] w)
  have hE := neq34 l.1 s (decide_eq_false hne)
  have hd : ((r : Int) == (n : Int)) = false := by simp; omega
  have hd2 : decide ((r : Int) = (n : Int)) = false := by simp; omega
  clear hne
  have hw := hT.own
  rw [hn] at hw
  obtain ⟨b, rfl, hb, -, c0, c1, c2, c3⟩ := own_cell hn.symm hw hl
  have HC0 := Lib.hid c0
  have HC1 := Lib.hid c1
  have HC2 := Lib.hid c2
  have HC3 := Lib.hid c3
  clear c0 c1 c2 c3 hw
  have hbk := hT.blk
  rw [hn] at hbk
  have BG := Lib.hid hbk
  have HT := Lib.hid hT
  have HK := Lib.hid hk
  have RS := Lib.hid rs
  have HC := Lib.hid hc
  clear hbk
  clear hT hk rs hc
  go_enter Try.func22, Try.ntmps22
  go_wp2_with (fail)
  refine (strightr os RS.out _).mono ?_
  rintro e w1 ⟨rfl, o⟩
  have SBn : Blk (w.alloc (.cells #[.int .i64 s.1.1, .int .i64 s.1.2, .int .i64 s.2] 34)) (w.heap.size) 34 #[.int .i64 s.1.1, .int .i64 s.1.2, .int .i64 s.2] := (by have h := Blk.new w 34 #[.int .i64 s.1.1, .int .i64 s.1.2, .int .i64 s.2]; simpa using h)
  have BGx := o.blk (t := 66) (cs := #[.int .i64 room, .slice (some ⟨b, 0, none⟩) n c]) (g := g) (by first | exact (BG.out.alloc _) | exact Blk.drewN (BG.out.alloc _) _ | exact Blk.drew (BG.out.alloc _)) (by simp)
  have SBx := o.blk (t := 34) (cs := #[.int .i64 s.1.1, .int .i64 s.1.2, .int .i64 s.2]) (g := w.heap.size) (by first | exact SBn | exact Blk.drewN SBn _ | exact Blk.drew SBn) (by simp)
  have O1x : Only [] w w1 := (by first | exact Only.trans (O0.out.alloc _) o (by simp) | exact Only.trans (Only.drewN (O0.out.alloc _) _) o (by simp) | exact Only.trans (Only.drew (O0.out.alloc _)) o (by simp))
  obtain ⟨BGc0, BGc1, BGl⟩ := BGx.facts2
  obtain ⟨SBc0, SBc1, SBc2, SBl⟩ := SBx.facts3
  clear BG SBn O0 o
  have BG := Lib.hid BGx; have SB := Lib.hid SBx; have O1 := Lib.hid O1x
  clear BGx SBx O1x
  go_wp2_with (fail)
  refine (ahead_any (HT.out.keep O1.out) HK.out os RS.out hlen).mono ?_
  rintro e w2 ⟨rfl, o⟩
  rw [HC.out]
  have BGx := o.blk (t := 66) (cs := #[.int .i64 room, .slice (some ⟨b, 0, none⟩) n c]) (g := g) (by first | exact BG.out | exact Blk.drewN BG.out _ | exact Blk.drew BG.out) (by simp)
  have SBx := o.blk (t := 34) (cs := #[.int .i64 s.1.1, .int .i64 s.1.2, .int .i64 s.2]) (g := w.heap.size) (by first | exact SB.out | exact Blk.drewN SB.out _ | exact Blk.drew SB.out) (by simp)
  have O2x : Only [] w w2 := (by first | exact Only.trans O1.out o (by simp) | exact Only.trans (Only.drewN O1.out _) o (by simp) | exact Only.trans (Only.drew O1.out) o (by simp))
  obtain ⟨BGc0, BGc1, BGl⟩ := BGx.facts2
  obtain ⟨SBc0, SBc1, SBc2, SBl⟩ := SBx.facts3
  clear BG SB O1 o
  have BG := Lib.hid BGx; have SB := Lib.hid SBx; have O2 := Lib.hid O2x
  clear BGx SBx O2x
  have HC0' := (O2.out.cell (p := ⟨b, r * 4, none⟩) hb (by simp)).trans HC0.out
  have HC1' := (O2.out.cell (p := ⟨b, r * 4 + 1, none⟩) hb (by simp)).trans HC1.out
  have HC2' := (O2.out.cell (p := ⟨b, r * 4 + 2, none⟩) hb (by simp)).trans HC2.out
  have HC3' := (O2.out.cell (p := ⟨b, r * 4 + 3, none⟩) hb (by simp)).trans HC3.out
  have hb := Nat.lt_of_lt_of_le hb O2.out.size
  clear HC0 HC1 HC2 HC3
  have HC0 := Lib.hid HC0'
  have HC1 := Lib.hid HC1'
  have HC2 := Lib.hid HC2'
  have HC3 := Lib.hid HC3'
  clear HC0' HC1' HC2' HC3'
  go_wp2_with (fail)
  refine wp_region_facts 19 [] (fr := ?frb) (tl := ?tlb) (fun i v wv => match i with
    | 0 => v = .int .i64 r
    | 1 => v = .pointer (some ⟨g, 0, none⟩)
    | 2 => v = .pointer (some ⟨g, 0, none⟩)
    | 3 => v = .pointer (some ⟨g, 1, none⟩)
    | 4 => v = .slice (some ⟨b, 0, none⟩) n c
    | 5 => v = .int .i64 n
    | 6 => v = .bool false
    | 7 => v = .bool false
    | 8 => v = .pointer (some ⟨g, 0, none⟩)
    | 9 => v = .pointer (some ⟨g, 0, none⟩)
    | 10 => v = .pointer (some ⟨g, 1, none⟩)
    | 11 => v = .slice (some ⟨b, 0, none⟩) n c
    | 12 => v = .int .i64 r
    | 13 => v = .pointer (some ⟨b, r * 4, none⟩)
    | 14 => v = .pointer (some ⟨b, r * 4, none⟩)
    | 15 => v = .agg #[.int .i64 l.1.1.1, .int .i64 l.1.1.2, .int .i64 l.1.2]
    | 16 => v = .agg #[.int .i64 s.1.1, .int .i64 s.1.2, .int .i64 s.2]
    | 17 => v = .bool true
    | 18 => v = .bool true
    | _ => True) (by kernel_rfl) (by kernel_rfl) (by kernel_rfl) (by kernel_rfl) (by decide) ?htlb ?hfrb ?stabb ?stepsb ?doneb
  case htlb => simp only [List.drop_succ_cons, List.drop_zero]; rfl
  case hfrb => intro vals; simp only [putAll, dstAt, Act.put, List.getElem?_toArray, List.getElem?_cons_zero, List.getElem?_cons_succ, Option.bind_some, List.setIfInBounds_toArray, List.set_cons_zero, List.set_cons_succ]; rfl
  case stabb =>
    intro i v wa wb h
    try dsimp only
    split <;> first | exact id | fail
  case stepsb =>
    refine ⟨?_, ?_, ?_, ?_, ?_, ?_, ?_, ?_, ?_, ?_, ?_, ?_, ?_, ?_, ?_, ?_, ?_, ?_, ?_, trivial⟩
    · intro vals wr hR hp K hK
      dsimp only at hK ⊢
      clear hp
      unfold RunsOp
      go_simp
      exact hK.out _ _ ⟨_, rfl, Only.refl _ _, rfl⟩
    · intro vals wr hR hp K hK
      dsimp only at hK ⊢
      clear hp
      unfold RunsOp
      go_simp
      exact hK.out _ _ ⟨_, rfl, Only.refl _ _, rfl⟩
    · intro vals wr hR hp K hK
      dsimp only at hK ⊢
      obtain ⟨p1, -⟩ := hp
      replace p1 := p1 rfl
      dsimp only at p1
      rw [p1] at hK ⊢
      clear p1
      unfold RunsOp
      go_simp
      exact hK.out _ _ ⟨_, rfl, Only.refl _ _, rfl⟩
    · intro vals wr hR hp K hK
      dsimp only at hK ⊢
      obtain ⟨p2, -⟩ := hp
      replace p2 := p2 rfl
      dsimp only at p2
      rw [p2] at hK ⊢
      clear p2
      unfold RunsOp
      go_simp
      exact hK.out _ _ ⟨_, rfl, Only.refl _ _, rfl⟩
    · intro vals wr hR hp K hK
      dsimp only at hK ⊢
      obtain ⟨p3, -⟩ := hp
      replace p3 := p3 rfl
      dsimp only at p3
      rw [p3] at hK ⊢
      clear p3
      unfold RunsOp
      have tbBG := hR.blk (by first | exact BG.out | exact Blk.drew BG.out) (by simp)
      obtain ⟨cBG0, cBG1, clBG⟩ := tbBG.facts2
      clear tbBG
      go_simp
      exact hK.out _ _ ⟨_, rfl, Only.refl _ _, rfl⟩
    · intro vals wr hR hp K hK
      dsimp only at hK ⊢
      obtain ⟨p4, -⟩ := hp
      replace p4 := p4 rfl
      dsimp only at p4
      rw [p4] at hK ⊢
      clear p4
      unfold RunsOp
      go_simp
      exact hK.out _ _ ⟨_, rfl, Only.refl _ _, rfl⟩
    · intro vals wr hR hp K hK
      dsimp only at hK ⊢
      obtain ⟨p0, p5, -⟩ := hp
      replace p0 := p0 rfl
      replace p5 := p5 rfl
      dsimp only at p0 p5
      rw [p0, p5] at hK ⊢
      clear p0 p5
      unfold RunsOp
      go_simp
      exact hK.out _ _ ⟨_, rfl, Only.refl _ _, rfl⟩
    · intro vals wr hR hp K hK
      dsimp only at hK ⊢
      obtain ⟨p6, -⟩ := hp
      replace p6 := p6 rfl
      dsimp only at p6
      rw [p6] at hK ⊢
      clear p6
      unfold RunsOp
      go_simp
      exact hK.out _ _ ⟨_, rfl, Only.refl _ _, rfl⟩
    · intro vals wr hR hp K hK
      dsimp only at hK ⊢
      obtain ⟨p7, -⟩ := hp
      replace p7 := p7 rfl
      dsimp only at p7
      rw [p7] at hK ⊢
      clear p7
      unfold RunsOp
      go_simp
      exact hK.out _ _ ⟨_, rfl, Only.refl _ _, rfl⟩
    · intro vals wr hR hp K hK
      dsimp only at hK ⊢
      obtain ⟨p8, p7, -⟩ := hp
      replace p8 := p8 rfl
      replace p7 := p7 rfl
      dsimp only at p8 p7
      rw [p8, p7] at hK ⊢
      clear p8 p7
      unfold RunsOp
      go_simp
      exact hK.out _ _ ⟨_, rfl, Only.refl _ _, rfl⟩
    · intro vals wr hR hp K hK
      dsimp only at hK ⊢
      obtain ⟨p9, p7, -⟩ := hp
      replace p9 := p9 rfl
      replace p7 := p7 rfl
      dsimp only at p9 p7
      rw [p9, p7] at hK ⊢
      clear p9 p7
      unfold RunsOp
      go_simp
      exact hK.out _ _ ⟨_, rfl, Only.refl _ _, rfl⟩
    · intro vals wr hR hp K hK
      dsimp only at hK ⊢
      obtain ⟨p10, p7, -⟩ := hp
      replace p10 := p10 rfl
      replace p7 := p7 rfl
      dsimp only at p10 p7
      rw [p10, p7] at hK ⊢
      clear p10 p7
      unfold RunsOp
      have tbBG := hR.blk (by first | exact BG.out | exact Blk.drew BG.out) (by simp)
      obtain ⟨cBG0, cBG1, clBG⟩ := tbBG.facts2
      clear tbBG
      go_simp
      exact hK.out _ _ ⟨_, rfl, Only.refl _ _, rfl⟩
    · intro vals wr hR hp K hK
      dsimp only at hK ⊢
      obtain ⟨p7, -⟩ := hp
      replace p7 := p7 rfl
      dsimp only at p7
      rw [p7] at hK ⊢
      clear p7
      unfold RunsOp
      go_simp
      exact hK.out _ _ ⟨_, rfl, Only.refl _ _, rfl⟩
    · intro vals wr hR hp K hK
      dsimp only at hK ⊢
      obtain ⟨p11, p12, p7, -⟩ := hp
      replace p11 := p11 rfl
      replace p12 := p12 rfl
      replace p7 := p7 rfl
      dsimp only at p11 p12 p7
      rw [p11, p12, p7] at hK ⊢
      clear p11 p12 p7
      unfold RunsOp
      go_simp
      exact hK.out _ _ ⟨_, rfl, Only.refl _ _, rfl⟩
    · intro vals wr hR hp K hK
      dsimp only at hK ⊢
      obtain ⟨p13, p7, -⟩ := hp
      replace p13 := p13 rfl
      replace p7 := p7 rfl
      dsimp only at p13 p7
      rw [p13, p7] at hK ⊢
      clear p13 p7
      unfold RunsOp
      go_simp
      exact hK.out _ _ ⟨_, rfl, Only.refl _ _, rfl⟩
    · intro vals wr hR hp K hK
      dsimp only at hK ⊢
      obtain ⟨p14, p7, -⟩ := hp
      replace p14 := p14 rfl
      replace p7 := p7 rfl
      dsimp only at p14 p7
      rw [p14, p7] at hK ⊢
      clear p14 p7
      unfold RunsOp
      have c0 := (hR.cell (p := ⟨b, r * 4, none⟩) hb (by simp)).trans HC0.out
      have c1 := (hR.cell (p := ⟨b, r * 4 + 1, none⟩) hb (by simp)).trans HC1.out
      have c2 := (hR.cell (p := ⟨b, r * 4 + 2, none⟩) hb (by simp)).trans HC2.out
      go_simp
      exact hK.out _ _ ⟨_, rfl, Only.refl _ _, rfl⟩
    · intro vals wr hR hp K hK
      dsimp only at hK ⊢
      obtain ⟨p7, -⟩ := hp
      replace p7 := p7 rfl
      dsimp only at p7
      rw [p7] at hK ⊢
      clear p7
      unfold RunsOp
      have tbSB := hR.blk (by first | exact SB.out | exact Blk.drew SB.out) (by simp)
      obtain ⟨cSB0, cSB1, cSB2, clSB⟩ := tbSB.facts3
      clear tbSB
      go_simp
      exact hK.out _ _ ⟨_, rfl, Only.refl _ _, rfl⟩
    · intro vals wr hR hp K hK
      dsimp only at hK ⊢
      obtain ⟨p15, p16, p7, -⟩ := hp
      replace p15 := p15 rfl
      replace p16 := p16 rfl
      replace p7 := p7 rfl
      dsimp only at p15 p16 p7
      rw [p15, p16, p7] at hK ⊢
      clear p15 p16 p7
      unfold RunsOp
      go_simp
      exact hK.out _ _ ⟨_, rfl, Only.refl _ _, rfl⟩
    · intro vals wr hR hp K hK
      dsimp only at hK ⊢
      obtain ⟨p7, p17, -⟩ := hp
      replace p7 := p7 rfl
      replace p17 := p17 rfl
      dsimp only at p7 p17
      rw [p7, p17] at hK ⊢
      clear p7 p17
      unfold RunsOp
      go_simp
      exact hK.out _ _ ⟨_, rfl, Only.refl _ _, rfl⟩
  intro vals w5 hR hF
  have f18 : vals 18 = .bool true := hF 18 (by decide)
  rw [f18]
  clear hF f18
  refine wpList_nil ?_
  have BGx := hR.blk (t := 66) (cs := #[.int .i64 room, .slice (some ⟨b, 0, none⟩) n c]) (g := g) (by first | exact BG.out | exact Blk.drewN BG.out _ | exact Blk.drew BG.out) (by simp)
  have SBx := hR.blk (t := 34) (cs := #[.int .i64 s.1.1, .int .i64 s.1.2, .int .i64 s.2]) (g := w.heap.size) (by first | exact SB.out | exact Blk.drewN SB.out _ | exact Blk.drew SB.out) (by simp)
  have O3x : Only [] w w5 := (by first | exact Only.trans O2.out hR (by simp) | exact Only.trans (Only.drewN O2.out _) hR (by simp) | exact Only.trans (Only.drew O2.out) hR (by simp))
  obtain ⟨BGc0, BGc1, BGl⟩ := BGx.facts2
  obtain ⟨SBc0, SBc1, SBc2, SBl⟩ := SBx.facts3
  clear BG SB O2 hR
  have BG := Lib.hid BGx; have SB := Lib.hid SBx; have O3 := Lib.hid O3x
  clear BGx SBx O3x
  go_wp2_with (fail)
  go_ret
  exact ⟨rfl, O3.out⟩

theorem set_found' {B : Nat} {w : World} {g : Nat} {room : Int} {L : List En} {A : Option Addr} {c n r : Nat} {s : St} {x : Int} {l : En} (hT : TB B w g room L A c) (hk : Trk L) (os : s.ok) (rs : stR s = true) (hlen : L.length ≤ 1048576) (hn : L.length = n) (hc : aheadT L s = r) (hl : L[r]? = some l) (hrn : r < n) (heq : l.1 = s) :
    Calls Try.prog 22 #[.pointer (some ⟨g, 0, none⟩), .agg #[.int .i64 s.1.1, .int .i64 s.1.2, .int .i64 s.2], .int .i64 x] w fun e w' => e = .returned (.bool true) ∧ TB B w' g room (L.set r ((L.getD r dE).1, x)) A c ∧ Only (g :: A.toList.map (·.block)) w w' := by
  have O0 := Lib.hid (Only.refl [] w)
  have hE := neq34 l.1 s (decide_eq_true heq)
  have hd : ((r : Int) == (n : Int)) = false := by simp; omega
  have hd2 : decide ((r : Int) = (n : Int)) = false := by simp; omega
  clear heq
  have hw := hT.own
  rw [hn] at hw
  obtain ⟨b, rfl, hb, -, c0, c1, c2, c3⟩ := own_cell hn.symm hw hl
  have HC0 := Lib.hid c0
  have HC1 := Lib.hid c1
  have HC2 := Lib.hid c2
  have HC3 := Lib.hid c3
  have HC33 := Lib.hid c3
  clear c0 c1 c2 c3 hw
  have hbk := hT.blk
  rw [hn] at hbk
  have BG := Lib.hid hbk
  have HT := Lib.hid hT
  have HK := Lib.hid hk
  have RS := Lib.hid rs
  have HC := Lib.hid hc
  clear hbk
  clear hT hk rs hc
  go_enter Try.func22, Try.ntmps22
  go_wp2_with (fail)
  refine (strightr os RS.out _).mono ?_
  rintro e w1 ⟨rfl, o⟩
  have SBn : Blk (w.alloc (.cells #[.int .i64 s.1.1, .int .i64 s.1.2, .int .i64 s.2] 34)) (w.heap.size) 34 #[.int .i64 s.1.1, .int .i64 s.1.2, .int .i64 s.2] := (by have h := Blk.new w 34 #[.int .i64 s.1.1, .int .i64 s.1.2, .int .i64 s.2]; simpa using h)
  have BGx := o.blk (t := 66) (cs := #[.int .i64 room, .slice (some ⟨b, 0, none⟩) n c]) (g := g) (by first | exact (BG.out.alloc _) | exact Blk.drewN (BG.out.alloc _) _ | exact Blk.drew (BG.out.alloc _)) (by simp)
  have SBx := o.blk (t := 34) (cs := #[.int .i64 s.1.1, .int .i64 s.1.2, .int .i64 s.2]) (g := w.heap.size) (by first | exact SBn | exact Blk.drewN SBn _ | exact Blk.drew SBn) (by simp)
  have O1x : Only [] w w1 := (by first | exact Only.trans (O0.out.alloc _) o (by simp) | exact Only.trans (Only.drewN (O0.out.alloc _) _) o (by simp) | exact Only.trans (Only.drew (O0.out.alloc _)) o (by simp))
  obtain ⟨BGc0, BGc1, BGl⟩ := BGx.facts2
  obtain ⟨SBc0, SBc1, SBc2, SBl⟩ := SBx.facts3
  clear BG SBn O0 o
  have BG := Lib.hid BGx; have SB := Lib.hid SBx; have O1 := Lib.hid O1x
  clear BGx SBx O1x
  go_wp2_with (fail)
  refine (ahead_any (HT.out.keep O1.out) HK.out os RS.out hlen).mono ?_
  rintro e w2 ⟨rfl, o⟩
  rw [HC.out]
  have BGx := o.blk (t := 66) (cs := #[.int .i64 room, .slice (some ⟨b, 0, none⟩) n c]) (g := g) (by first | exact BG.out | exact Blk.drewN BG.out _ | exact Blk.drew BG.out) (by simp)
  have SBx := o.blk (t := 34) (cs := #[.int .i64 s.1.1, .int .i64 s.1.2, .int .i64 s.2]) (g := w.heap.size) (by first | exact SB.out | exact Blk.drewN SB.out _ | exact Blk.drew SB.out) (by simp)
  have O2x : Only [] w w2 := (by first | exact Only.trans O1.out o (by simp) | exact Only.trans (Only.drewN O1.out _) o (by simp) | exact Only.trans (Only.drew O1.out) o (by simp))
  obtain ⟨BGc0, BGc1, BGl⟩ := BGx.facts2
  obtain ⟨SBc0, SBc1, SBc2, SBl⟩ := SBx.facts3
  clear BG SB O1 o
  have BG := Lib.hid BGx; have SB := Lib.hid SBx; have O2 := Lib.hid O2x
  clear BGx SBx O2x
  have HC0' := (O2.out.cell (p := ⟨b, r * 4, none⟩) hb (by simp)).trans HC0.out
  have HC1' := (O2.out.cell (p := ⟨b, r * 4 + 1, none⟩) hb (by simp)).trans HC1.out
  have HC2' := (O2.out.cell (p := ⟨b, r * 4 + 2, none⟩) hb (by simp)).trans HC2.out
  have HC3' := (O2.out.cell (p := ⟨b, r * 4 + 3, none⟩) hb (by simp)).trans HC3.out
  have hb := Nat.lt_of_lt_of_le hb O2.out.size
  clear HC0 HC1 HC2 HC3
  have HC0 := Lib.hid HC0'
  have HC1 := Lib.hid HC1'
  have HC2 := Lib.hid HC2'
  have HC3 := Lib.hid HC3'
  clear HC0' HC1' HC2' HC3'
  go_wp2_with (fail)
  refine wp_region_facts 19 [] (fr := ?frb) (tl := ?tlb) (fun i v wv => match i with
    | 0 => v = .int .i64 r
    | 1 => v = .pointer (some ⟨g, 0, none⟩)
    | 2 => v = .pointer (some ⟨g, 0, none⟩)
    | 3 => v = .pointer (some ⟨g, 1, none⟩)
    | 4 => v = .slice (some ⟨b, 0, none⟩) n c
    | 5 => v = .int .i64 n
    | 6 => v = .bool false
    | 7 => v = .bool false
    | 8 => v = .pointer (some ⟨g, 0, none⟩)
    | 9 => v = .pointer (some ⟨g, 0, none⟩)
    | 10 => v = .pointer (some ⟨g, 1, none⟩)
    | 11 => v = .slice (some ⟨b, 0, none⟩) n c
    | 12 => v = .int .i64 r
    | 13 => v = .pointer (some ⟨b, r * 4, none⟩)
    | 14 => v = .pointer (some ⟨b, r * 4, none⟩)
    | 15 => v = .agg #[.int .i64 l.1.1.1, .int .i64 l.1.1.2, .int .i64 l.1.2]
    | 16 => v = .agg #[.int .i64 s.1.1, .int .i64 s.1.2, .int .i64 s.2]
    | 17 => v = .bool false
    | 18 => v = .bool false
    | _ => True) (by kernel_rfl) (by kernel_rfl) (by kernel_rfl) (by kernel_rfl) (by decide) ?htlb ?hfrb ?stabb ?stepsb ?doneb
  case htlb => simp only [List.drop_succ_cons, List.drop_zero]; rfl
  case hfrb => intro vals; simp only [putAll, dstAt, Act.put, List.getElem?_toArray, List.getElem?_cons_zero, List.getElem?_cons_succ, Option.bind_some, List.setIfInBounds_toArray, List.set_cons_zero, List.set_cons_succ]; rfl
  case stabb =>
    intro i v wa wb h
    try dsimp only
    split <;> first | exact id | fail
  case stepsb =>
    refine ⟨?_, ?_, ?_, ?_, ?_, ?_, ?_, ?_, ?_, ?_, ?_, ?_, ?_, ?_, ?_, ?_, ?_, ?_, ?_, trivial⟩
    · intro vals wr hR hp K hK
      dsimp only at hK ⊢
      clear hp
      unfold RunsOp
      go_simp
      exact hK.out _ _ ⟨_, rfl, Only.refl _ _, rfl⟩
    · intro vals wr hR hp K hK
      dsimp only at hK ⊢
      clear hp
      unfold RunsOp
      go_simp
      exact hK.out _ _ ⟨_, rfl, Only.refl _ _, rfl⟩
    · intro vals wr hR hp K hK
      dsimp only at hK ⊢
      obtain ⟨p1, -⟩ := hp
      replace p1 := p1 rfl
      dsimp only at p1
      rw [p1] at hK ⊢
      clear p1
      unfold RunsOp
      go_simp
      exact hK.out _ _ ⟨_, rfl, Only.refl _ _, rfl⟩
    · intro vals wr hR hp K hK
      dsimp only at hK ⊢
      obtain ⟨p2, -⟩ := hp
      replace p2 := p2 rfl
      dsimp only at p2
      rw [p2] at hK ⊢
      clear p2
      unfold RunsOp
      go_simp
      exact hK.out _ _ ⟨_, rfl, Only.refl _ _, rfl⟩
    · intro vals wr hR hp K hK
      dsimp only at hK ⊢
      obtain ⟨p3, -⟩ := hp
      replace p3 := p3 rfl
      dsimp only at p3
      rw [p3] at hK ⊢
      clear p3
      unfold RunsOp
      have tbBG := hR.blk (by first | exact BG.out | exact Blk.drew BG.out) (by simp)
      obtain ⟨cBG0, cBG1, clBG⟩ := tbBG.facts2
      clear tbBG
      go_simp
      exact hK.out _ _ ⟨_, rfl, Only.refl _ _, rfl⟩
    · intro vals wr hR hp K hK
      dsimp only at hK ⊢
      obtain ⟨p4, -⟩ := hp
      replace p4 := p4 rfl
      dsimp only at p4
      rw [p4] at hK ⊢
      clear p4
      unfold RunsOp
      go_simp
      exact hK.out _ _ ⟨_, rfl, Only.refl _ _, rfl⟩
    · intro vals wr hR hp K hK
      dsimp only at hK ⊢
      obtain ⟨p0, p5, -⟩ := hp
      replace p0 := p0 rfl
      replace p5 := p5 rfl
      dsimp only at p0 p5
      rw [p0, p5] at hK ⊢
      clear p0 p5
      unfold RunsOp
      go_simp
      exact hK.out _ _ ⟨_, rfl, Only.refl _ _, rfl⟩
    · intro vals wr hR hp K hK
      dsimp only at hK ⊢
      obtain ⟨p6, -⟩ := hp
      replace p6 := p6 rfl
      dsimp only at p6
      rw [p6] at hK ⊢
      clear p6
      unfold RunsOp
      go_simp
      exact hK.out _ _ ⟨_, rfl, Only.refl _ _, rfl⟩
    · intro vals wr hR hp K hK
      dsimp only at hK ⊢
      obtain ⟨p7, -⟩ := hp
      replace p7 := p7 rfl
      dsimp only at p7
      rw [p7] at hK ⊢
      clear p7
      unfold RunsOp
      go_simp
      exact hK.out _ _ ⟨_, rfl, Only.refl _ _, rfl⟩
    · intro vals wr hR hp K hK
      dsimp only at hK ⊢
      obtain ⟨p8, p7, -⟩ := hp
      replace p8 := p8 rfl
      replace p7 := p7 rfl
      dsimp only at p8 p7
      rw [p8, p7] at hK ⊢
      clear p8 p7
      unfold RunsOp
      go_simp
      exact hK.out _ _ ⟨_, rfl, Only.refl _ _, rfl⟩
    · intro vals wr hR hp K hK
      dsimp only at hK ⊢
      obtain ⟨p9, p7, -⟩ := hp
      replace p9 := p9 rfl
      replace p7 := p7 rfl
      dsimp only at p9 p7
      rw [p9, p7] at hK ⊢
      clear p9 p7
      unfold RunsOp
      go_simp
      exact hK.out _ _ ⟨_, rfl, Only.refl _ _, rfl⟩
    · intro vals wr hR hp K hK
      dsimp only at hK ⊢
      obtain ⟨p10, p7, -⟩ := hp
      replace p10 := p10 rfl
      replace p7 := p7 rfl
      dsimp only at p10 p7
      rw [p10, p7] at hK ⊢
      clear p10 p7
      unfold RunsOp
      have tbBG := hR.blk (by first | exact BG.out | exact Blk.drew BG.out) (by simp)
      obtain ⟨cBG0, cBG1, clBG⟩ := tbBG.facts2
      clear tbBG
      go_simp
      exact hK.out _ _ ⟨_, rfl, Only.refl _ _, rfl⟩
    · intro vals wr hR hp K hK
      dsimp only at hK ⊢
      obtain ⟨p7, -⟩ := hp
      replace p7 := p7 rfl
      dsimp only at p7
      rw [p7] at hK ⊢
      clear p7
      unfold RunsOp
      go_simp
      exact hK.out _ _ ⟨_, rfl, Only.refl _ _, rfl⟩
    · intro vals wr hR hp K hK
      dsimp only at hK ⊢
      obtain ⟨p11, p12, p7, -⟩ := hp
      replace p11 := p11 rfl
      replace p12 := p12 rfl
      replace p7 := p7 rfl
      dsimp only at p11 p12 p7
      rw [p11, p12, p7] at hK ⊢
      clear p11 p12 p7
      unfold RunsOp
      go_simp
      exact hK.out _ _ ⟨_, rfl, Only.refl _ _, rfl⟩
    · intro vals wr hR hp K hK
      dsimp only at hK ⊢
      obtain ⟨p13, p7, -⟩ := hp
      replace p13 := p13 rfl
      replace p7 := p7 rfl
      dsimp only at p13 p7
      rw [p13, p7] at hK ⊢
      clear p13 p7
      unfold RunsOp
      go_simp
      exact hK.out _ _ ⟨_, rfl, Only.refl _ _, rfl⟩
    · intro vals wr hR hp K hK
      dsimp only at hK ⊢
      obtain ⟨p14, p7, -⟩ := hp
      replace p14 := p14 rfl
      replace p7 := p7 rfl
      dsimp only at p14 p7
      rw [p14, p7] at hK ⊢
      clear p14 p7
      unfold RunsOp
      have c0 := (hR.cell (p := ⟨b, r * 4, none⟩) hb (by simp)).trans HC0.out
      have c1 := (hR.cell (p := ⟨b, r * 4 + 1, none⟩) hb (by simp)).trans HC1.out
      have c2 := (hR.cell (p := ⟨b, r * 4 + 2, none⟩) hb (by simp)).trans HC2.out
      go_simp
      exact hK.out _ _ ⟨_, rfl, Only.refl _ _, rfl⟩
    · intro vals wr hR hp K hK
      dsimp only at hK ⊢
      obtain ⟨p7, -⟩ := hp
      replace p7 := p7 rfl
      dsimp only at p7
      rw [p7] at hK ⊢
      clear p7
      unfold RunsOp
      have tbSB := hR.blk (by first | exact SB.out | exact Blk.drew SB.out) (by simp)
      obtain ⟨cSB0, cSB1, cSB2, clSB⟩ := tbSB.facts3
      clear tbSB
      go_simp
      exact hK.out _ _ ⟨_, rfl, Only.refl _ _, rfl⟩
    · intro vals wr hR hp K hK
      dsimp only at hK ⊢
      obtain ⟨p15, p16, p7, -⟩ := hp
      replace p15 := p15 rfl
      replace p16 := p16 rfl
      replace p7 := p7 rfl
      dsimp only at p15 p16 p7
      rw [p15, p16, p7] at hK ⊢
      clear p15 p16 p7
      unfold RunsOp
      go_simp
      exact hK.out _ _ ⟨_, rfl, Only.refl _ _, rfl⟩
    · intro vals wr hR hp K hK
      dsimp only at hK ⊢
      obtain ⟨p7, p17, -⟩ := hp
      replace p7 := p7 rfl
      replace p17 := p17 rfl
      dsimp only at p7 p17
      rw [p7, p17] at hK ⊢
      clear p7 p17
      unfold RunsOp
      go_simp
      exact hK.out _ _ ⟨_, rfl, Only.refl _ _, rfl⟩
  intro vals w5 hR hF
  have f18 : vals 18 = .bool false := hF 18 (by decide)
  rw [f18]
  clear hF f18
  refine wpList_nil ?_
  have BGx := hR.blk (t := 66) (cs := #[.int .i64 room, .slice (some ⟨b, 0, none⟩) n c]) (g := g) (by first | exact BG.out | exact Blk.drewN BG.out _ | exact Blk.drew BG.out) (by simp)
  have SBx := hR.blk (t := 34) (cs := #[.int .i64 s.1.1, .int .i64 s.1.2, .int .i64 s.2]) (g := w.heap.size) (by first | exact SB.out | exact Blk.drewN SB.out _ | exact Blk.drew SB.out) (by simp)
  have O3x : Only [] w w5 := (by first | exact Only.trans O2.out hR (by simp) | exact Only.trans (Only.drewN O2.out _) hR (by simp) | exact Only.trans (Only.drew O2.out) hR (by simp))
  obtain ⟨BGc0, BGc1, BGl⟩ := BGx.facts2
  obtain ⟨SBc0, SBc1, SBc2, SBl⟩ := SBx.facts3
  clear BG SB O2 hR
  have BG := Lib.hid BGx; have SB := Lib.hid SBx; have O3 := Lib.hid O3x
  clear BGx SBx O3x
  have cc3 := (O3.out.cell (p := ⟨b, r * 4 + 3, none⟩) (HT.out.lt ⟨b, 0, none⟩ rfl).1 (by simp)).trans HC33.out
  have T5 := HT.out.keep O3.out
  have ow := T5.own
  rw [hn] at ow
  have fr3 : w5.frozen? ⟨b, r * 4 + 3, none⟩ = false := by
    rcases ow.2 with ⟨h1, _⟩ | ⟨g', cap', cur, h1, _, hg, _⟩
    · cases h1
    · injection h1 with h1 _ _
      injection h1 with h1
      injection h1 with h1 _ _
      subst h1
      exact Blk.frozen (cs := cur) (t := 71) hg _
  have ows := own_set (x := x) hn ow hrn
  have hbg := (HT.out.lt ⟨b, 0, none⟩ rfl).2.2
  have HOW := Lib.hid ows
  have HT5 := Lib.hid T5
  clear ow T5 ows
  go_wp2_with (fail)
  go_ret
  refine ⟨rfl, ⟨?_, ?_, HT.out.base⟩, (O3.out.mono (fun _ h => by simp at h)).setCell (.inl (by simp)) _⟩
  · rw [List.length_set, hn]; exact BG.out.far (fun h => hbg h.symm) _
  · subst hn
    rw [List.length_set]
    have h := HOW.out
    first | exact h | simpa [List.getD, hrn] using h

theorem set_any {B : Nat} {w : World} {g : Nat} {room : Int} {L : List En} {A : Option Addr} {c : Nat} {s : St} {x : Int} (hT : TB B w g room L A c) (hk : Trk L) (os : s.ok) (hlen : L.length ≤ 1048576) :
    Calls Try.prog 22 #[.pointer (some ⟨g, 0, none⟩), .agg #[.int .i64 s.1.1, .int .i64 s.1.2, .int .i64 s.2], .int .i64 x] w fun e w' => e = .returned (.bool (stR s && !(pbT L s).isEmpty)) ∧ TB B w' g room (setT L s x) A c ∧ Only (g :: A.toList.map (·.block)) w w' := by
  cases rs : stR s with
  | false =>
    refine (set_wrong os rs w).mono ?_
    rintro e w' ⟨rfl, o⟩
    exact ⟨rfl, by unfold setT; rw [if_neg (by rw [rs]; simp)]; exact hT.keep o, o.mono (fun _ h => by simp at h)⟩
  | true =>
    have keep : pbT L s = [] → (Calls Try.prog 22 #[.pointer (some ⟨g, 0, none⟩), .agg #[.int .i64 s.1.1, .int .i64 s.1.2, .int .i64 s.2], .int .i64 x] w fun e w' => e = .returned (.bool false) ∧ Only [] w w') →
        Calls Try.prog 22 #[.pointer (some ⟨g, 0, none⟩), .agg #[.int .i64 s.1.1, .int .i64 s.1.2, .int .i64 s.2], .int .i64 x] w fun e w' => e = .returned (.bool (true && !(pbT L s).isEmpty)) ∧ TB B w' g room (setT L s x) A c ∧ Only (g :: A.toList.map (·.block)) w w' := fun hp h =>
      h.mono fun e w' ⟨he, o⟩ => ⟨by rw [hp]; exact he, by unfold setT; rw [if_neg (fun h => h.2 hp)]; exact hT.keep o, o.mono (fun _ h => by simp at h)⟩
    have hf := set_found hk os rs
    rcases Nat.lt_or_ge (aheadT L s) L.length with hlt | hge
    · by_cases he : (L[aheadT L s]).1 = s
      · have hne := hf.2 ⟨hlt, he⟩
        refine (set_found' hT hk os rs hlen rfl rfl (List.getElem?_eq_getElem hlt) hlt he).mono ?_
        rintro e w' ⟨rfl, t, o⟩
        refine ⟨by cases hp : pbT L s with | nil => exact absurd hp hne | cons a l => rfl, by rw [set_eq hk os rs hlt he]; exact t, o⟩
      · exact keep (Classical.byContradiction fun h => he (hf.1 h).2) (set_other hT hk os rs hlen rfl rfl (List.getElem?_eq_getElem hlt) hlt he)
    · have := ahead_le L s
      exact keep (Classical.byContradiction fun h => by obtain ⟨h1, _⟩ := hf.1 h; omega) (set_end hT hk os rs hlen rfl rfl (by omega))
end Go.Proofs.Ytcggeogpanackaa
