/- How many entries stand ahead of a stamp, up to it. -/
import Derived.Test.YtcggeogpanackaaSearch
import Derived.Test.YtcggeogpanackaaRange
namespace Go.Proofs.Ytcggeogpanackaa
open Go.RowKit Go.Kx
set_option maxRecDepth 20000

def dE : En := (((0, 0), 0), 0)
theorem count_at (L : List En) (q : En → Bool) : (List.range L.length).countP (fun i => q (L.getD i dE)) = L.countP q := by
  have h : L = (List.range L.length).map (fun i => L.getD i dE) := List.ext_getElem (by simp) (by intro i h1 h2; simp [List.getD, h1])
  conv => rhs; rw [h, List.countP_map]
  rfl

set_option maxHeartbeats 2000000 in
theorem aheadc_any {B : Nat} {w : World} {g : Nat} {room : Int} {L : List En} {A : Option Addr} {c bt bs : Nat} {s : St} (hT : TB B w g room L A c) (hbt : Blk w bt 28 #[.pointer (some ⟨g, 0, none⟩)]) (hbs : Blk w bs 34 #[.int .i64 s.1.1, .int .i64 s.1.2, .int .i64 s.2])
    (os : s.ok) {k : Nat} {e : En} (hi : L[k]? = some e) (oe : e.1.ok) {y : Bool} (hy : decide (stC e.1 s < 0) = y) :
    Calls Try.prog 49 #[.int .i64 k, .pointer (some ⟨bt, 0, none⟩), .pointer (some ⟨bs, 0, none⟩)] w fun r w' => r = .returned (.bool (!y)) ∧ Only [] w w' := by
  have hlt : k < L.length := (List.getElem?_eq_some_iff.1 hi).1
  obtain ⟨b, rfl, hb, -, c0, c1, c2, c3⟩ := own_cell rfl hT.own hi
  have BG := Lib.hid hT.blk
  have BT := Lib.hid hbt
  have BS := Lib.hid hbs
  have HY := Lib.hid hy
  have HC0 := Lib.hid c0
  have HC1 := Lib.hid c1
  have HC2 := Lib.hid c2
  have O0 := Lib.hid (Only.refl [] w)
  clear hT hbt hbs hy c0 c1 c2 c3 hi
  go_enter Try.func49, Try.ntmps49
  go_wp2_with (fail)
  refine wp_region_facts 11 [] (fr := ?fr) (tl := ?tl) (fun i v wv => match i with
    | 0 => v = .pointer (some ⟨g, 0, none⟩)
    | 1 => v = .pointer (some ⟨g, 0, none⟩)
    | 2 => v = .pointer (some ⟨g, 1, none⟩)
    | 3 => v = .slice (some ⟨b, 0, none⟩) L.length c
    | 4 => v = .int .i64 k
    | 5 => v = .pointer (some ⟨b, k * 4, none⟩)
    | 6 => v = .pointer (some ⟨b, k * 4, none⟩)
    | 7 => v = .agg #[.int .i64 e.1.1.1, .int .i64 e.1.1.2, .int .i64 e.1.2]
    | 8 => v = .agg #[.int .i64 s.1.1, .int .i64 s.1.2, .int .i64 s.2]
    | 9 => v = .bool y
    | 10 => v = .bool (!y)
    | _ => True) (by kernel_rfl) (by kernel_rfl) (by kernel_rfl) (by kernel_rfl) (by decide) ?htl ?hfr ?stab ?steps ?done
  case htl => simp only [List.drop_succ_cons, List.drop_zero]; rfl
  case hfr => intro vals; simp only [putAll, dstAt, Act.put, List.getElem?_toArray, List.getElem?_cons_zero, List.getElem?_cons_succ, Option.bind_some, List.setIfInBounds_toArray, List.set_cons_zero, List.set_cons_succ]; rfl
  case stab =>
    intro i v wa wb h
    try dsimp only
    split <;> first | exact id | fail
  case steps =>
    refine ⟨?_, ?_, ?_, ?_, ?_, ?_, ?_, ?_, ?_, ?_, ?_, trivial⟩
    · intro vals wr hR hp K hK
      dsimp only at hK ⊢
      clear hp
      unfold RunsOp
      have tbBT := hR.blk (by first | exact BT.out | exact Blk.drew BT.out) (by simp)
      obtain ⟨cBT0, clBT⟩ := tbBT.facts1
      clear tbBT
      go_simp
      exact hK.out _ _ ⟨_, rfl, Only.refl _ _, rfl⟩
    · intro vals wr hR hp K hK
      dsimp only at hK ⊢
      obtain ⟨p0, -⟩ := hp
      replace p0 := p0 rfl
      dsimp only at p0
      rw [p0] at hK ⊢
      clear p0
      unfold RunsOp
      go_simp
      exact hK.out _ _ ⟨_, rfl, Only.refl _ _, rfl⟩
    · intro vals wr hR hp K hK
      dsimp only at hK ⊢
      obtain ⟨p1, -⟩ := hp
      replace p1 := p1 rfl
      dsimp only at p1
      rw [p1] at hK ⊢
      clear p1
      unfold RunsOp
      go_simp
      exact hK.out _ _ ⟨_, rfl, Only.refl _ _, rfl⟩
    · intro vals wr hR hp K hK
      dsimp only at hK ⊢
      obtain ⟨p2, -⟩ := hp
      replace p2 := p2 rfl
      dsimp only at p2
      rw [p2] at hK ⊢
      clear p2
      unfold RunsOp
      have tbBG := hR.blk (by first | exact BG.out | exact Blk.drew BG.out) (by simp)
      obtain ⟨cBG0, cBG1, clBG⟩ := tbBG.facts2
      clear tbBG
      go_simp
      exact hK.out _ _ ⟨_, rfl, Only.refl _ _, rfl⟩
    · intro vals wr hR hp K hK
      dsimp only at hK ⊢
      clear hp
      unfold RunsOp
      go_simp
      exact hK.out _ _ ⟨_, rfl, Only.refl _ _, rfl⟩
    · intro vals wr hR hp K hK
      dsimp only at hK ⊢
      obtain ⟨p3, p4, -⟩ := hp
      replace p3 := p3 rfl
      replace p4 := p4 rfl
      dsimp only at p3 p4
      rw [p3, p4] at hK ⊢
      clear p3 p4
      unfold RunsOp
      go_simp
      exact hK.out _ _ ⟨_, rfl, Only.refl _ _, rfl⟩
    · intro vals wr hR hp K hK
      dsimp only at hK ⊢
      obtain ⟨p5, -⟩ := hp
      replace p5 := p5 rfl
      dsimp only at p5
      rw [p5] at hK ⊢
      clear p5
      unfold RunsOp
      go_simp
      exact hK.out _ _ ⟨_, rfl, Only.refl _ _, rfl⟩
    · intro vals wr hR hp K hK
      dsimp only at hK ⊢
      obtain ⟨p6, -⟩ := hp
      replace p6 := p6 rfl
      dsimp only at p6
      rw [p6] at hK ⊢
      clear p6
      unfold RunsOp
      have c0 := (hR.cell (p := ⟨b, k * 4, none⟩) hb (by simp)).trans HC0.out
      have c1 := (hR.cell (p := ⟨b, k * 4 + 1, none⟩) hb (by simp)).trans HC1.out
      have c2 := (hR.cell (p := ⟨b, k * 4 + 2, none⟩) hb (by simp)).trans HC2.out
      go_simp
      exact hK.out _ _ ⟨_, rfl, Only.refl _ _, rfl⟩
    · intro vals wr hR hp K hK
      dsimp only at hK ⊢
      clear hp
      unfold RunsOp
      have tbBS := hR.blk (by first | exact BS.out | exact Blk.drew BS.out) (by simp)
      obtain ⟨cBS0, cBS1, cBS2, clBS⟩ := tbBS.facts3
      clear tbBS
      go_simp
      exact hK.out _ _ ⟨_, rfl, Only.refl _ _, rfl⟩
    · intro vals wr hR hp K hK
      dsimp only at hK ⊢
      obtain ⟨p7, p8, -⟩ := hp
      replace p7 := p7 rfl
      replace p8 := p8 rfl
      dsimp only at p7 p8
      rw [p7, p8] at hK ⊢
      clear p7 p8
      unfold RunsOp
      go_simp
      refine (less_lt e.1 s oe os HY.out _).mono ?_
      rintro e w2 ⟨rfl, o2⟩
      exact hK.out _ _ ⟨_, rfl, o2, rfl⟩
    · intro vals wr hR hp K hK
      dsimp only at hK ⊢
      obtain ⟨p9, -⟩ := hp
      replace p9 := p9 rfl
      dsimp only at p9
      obtain p9 := p9
      rw [p9] at hK ⊢
      clear p9
      unfold RunsOp
      go_simp
      exact hK.out _ _ ⟨_, rfl, Only.refl _ _, rfl⟩
  intro vals w2 hR hF
  have f10 : vals 10 = .bool (!y) := hF 10 (by decide)
  rw [f10]
  clear hF f10
  have BGx := hR.blk (t := 66) (cs := #[.int .i64 room, .slice (some ⟨b, 0, none⟩) L.length c]) (g := g) (by first | exact BG.out | exact Blk.drewN BG.out _ | exact Blk.drew BG.out) (by simp)
  have BTx := hR.blk (t := 28) (cs := #[.pointer (some ⟨g, 0, none⟩)]) (g := bt) (by first | exact BT.out | exact Blk.drewN BT.out _ | exact Blk.drew BT.out) (by simp)
  have BSx := hR.blk (t := 34) (cs := #[.int .i64 s.1.1, .int .i64 s.1.2, .int .i64 s.2]) (g := bs) (by first | exact BS.out | exact Blk.drewN BS.out _ | exact Blk.drew BS.out) (by simp)
  have O1x : Only [] w w2 := (by first | exact Only.trans O0.out hR (by simp) | exact Only.trans (Only.drewN O0.out _) hR (by simp) | exact Only.trans (Only.drew O0.out) hR (by simp))
  obtain ⟨BGc0, BGc1, BGl⟩ := BGx.facts2
  obtain ⟨BTc0, BTl⟩ := BTx.facts1
  obtain ⟨BSc0, BSc1, BSc2, BSl⟩ := BSx.facts3
  clear BG BT BS O0 hR
  have BG := Lib.hid BGx; have BT := Lib.hid BTx; have BS := Lib.hid BSx; have O1 := Lib.hid O1x
  clear BGx BTx BSx O1x
  go_wp2_with (fail)
  go_ret
  exact ⟨rfl, O1.out⟩

set_option maxHeartbeats 2000000 in
theorem upToc_any {B : Nat} {w : World} {g : Nat} {room : Int} {L : List En} {A : Option Addr} {c bt bs : Nat} {s : St} (hT : TB B w g room L A c) (hbt : Blk w bt 28 #[.pointer (some ⟨g, 0, none⟩)]) (hbs : Blk w bs 34 #[.int .i64 s.1.1, .int .i64 s.1.2, .int .i64 s.2])
    (os : s.ok) {k : Nat} {e : En} (hi : L[k]? = some e) (oe : e.1.ok) {y : Bool} (hy : decide (stC s e.1 < 0) = y) :
    Calls Try.prog 50 #[.int .i64 k, .pointer (some ⟨bs, 0, none⟩), .pointer (some ⟨bt, 0, none⟩)] w fun r w' => r = .returned (.bool y) ∧ Only [] w w' := by
  have hlt : k < L.length := (List.getElem?_eq_some_iff.1 hi).1
  obtain ⟨b, rfl, hb, -, c0, c1, c2, c3⟩ := own_cell rfl hT.own hi
  have BG := Lib.hid hT.blk
  have BT := Lib.hid hbt
  have BS := Lib.hid hbs
  have HY := Lib.hid hy
  have HC0 := Lib.hid c0
  have HC1 := Lib.hid c1
  have HC2 := Lib.hid c2
  have O0 := Lib.hid (Only.refl [] w)
  clear hT hbt hbs hy c0 c1 c2 c3 hi
  go_enter Try.func50, Try.ntmps50
  go_wp2_with (fail)
  refine wp_region_facts 10 [] (fr := ?fr) (tl := ?tl) (fun i v wv => match i with
    | 0 => v = .agg #[.int .i64 s.1.1, .int .i64 s.1.2, .int .i64 s.2]
    | 1 => v = .pointer (some ⟨g, 0, none⟩)
    | 2 => v = .pointer (some ⟨g, 0, none⟩)
    | 3 => v = .pointer (some ⟨g, 1, none⟩)
    | 4 => v = .slice (some ⟨b, 0, none⟩) L.length c
    | 5 => v = .int .i64 k
    | 6 => v = .pointer (some ⟨b, k * 4, none⟩)
    | 7 => v = .pointer (some ⟨b, k * 4, none⟩)
    | 8 => v = .agg #[.int .i64 e.1.1.1, .int .i64 e.1.1.2, .int .i64 e.1.2]
    | 9 => v = .bool y
    | _ => True) (by kernel_rfl) (by kernel_rfl) (by kernel_rfl) (by kernel_rfl) (by decide) ?htl ?hfr ?stab ?steps ?done
  case htl => simp only [List.drop_succ_cons, List.drop_zero]; rfl
  case hfr => intro vals; simp only [putAll, dstAt, Act.put, List.getElem?_toArray, List.getElem?_cons_zero, List.getElem?_cons_succ, Option.bind_some, List.setIfInBounds_toArray, List.set_cons_zero, List.set_cons_succ]; rfl
  case stab =>
    intro i v wa wb h
    try dsimp only
    split <;> first | exact id | fail
  case steps =>
    refine ⟨?_, ?_, ?_, ?_, ?_, ?_, ?_, ?_, ?_, ?_, trivial⟩
    · intro vals wr hR hp K hK
      dsimp only at hK ⊢
      clear hp
      unfold RunsOp
      have tbBS := hR.blk (by first | exact BS.out | exact Blk.drew BS.out) (by simp)
      obtain ⟨cBS0, cBS1, cBS2, clBS⟩ := tbBS.facts3
      clear tbBS
      go_simp
      exact hK.out _ _ ⟨_, rfl, Only.refl _ _, rfl⟩
    · intro vals wr hR hp K hK
      dsimp only at hK ⊢
      clear hp
      unfold RunsOp
      have tbBT := hR.blk (by first | exact BT.out | exact Blk.drew BT.out) (by simp)
      obtain ⟨cBT0, clBT⟩ := tbBT.facts1
      clear tbBT
      go_simp
      exact hK.out _ _ ⟨_, rfl, Only.refl _ _, rfl⟩
    · intro vals wr hR hp K hK
      dsimp only at hK ⊢
      obtain ⟨p1, -⟩ := hp
      replace p1 := p1 rfl
      dsimp only at p1
      rw [p1] at hK ⊢
      clear p1
      unfold RunsOp
      go_simp
      exact hK.out _ _ ⟨_, rfl, Only.refl _ _, rfl⟩
    · intro vals wr hR hp K hK
      dsimp only at hK ⊢
      obtain ⟨p2, -⟩ := hp
      replace p2 := p2 rfl
      dsimp only at p2
      rw [p2] at hK ⊢
      clear p2
      unfold RunsOp
      go_simp
      exact hK.out _ _ ⟨_, rfl, Only.refl _ _, rfl⟩
    · intro vals wr hR hp K hK
      dsimp only at hK ⊢
      obtain ⟨p3, -⟩ := hp
      replace p3 := p3 rfl
      dsimp only at p3
      rw [p3] at hK ⊢
      clear p3
      unfold RunsOp
      have tbBG := hR.blk (by first | exact BG.out | exact Blk.drew BG.out) (by simp)
      obtain ⟨cBG0, cBG1, clBG⟩ := tbBG.facts2
      clear tbBG
      go_simp
      exact hK.out _ _ ⟨_, rfl, Only.refl _ _, rfl⟩
    · intro vals wr hR hp K hK
      dsimp only at hK ⊢
      clear hp
      unfold RunsOp
      go_simp
      exact hK.out _ _ ⟨_, rfl, Only.refl _ _, rfl⟩
    · intro vals wr hR hp K hK
      dsimp only at hK ⊢
      obtain ⟨p4, p5, -⟩ := hp
      replace p4 := p4 rfl
      replace p5 := p5 rfl
      dsimp only at p4 p5
      rw [p4, p5] at hK ⊢
      clear p4 p5
      unfold RunsOp
      go_simp
      exact hK.out _ _ ⟨_, rfl, Only.refl _ _, rfl⟩
    · intro vals wr hR hp K hK
      dsimp only at hK ⊢
      obtain ⟨p6, -⟩ := hp
      replace p6 := p6 rfl
      dsimp only at p6
      rw [p6] at hK ⊢
      clear p6
      unfold RunsOp
      go_simp
      exact hK.out _ _ ⟨_, rfl, Only.refl _ _, rfl⟩
    · intro vals wr hR hp K hK
      dsimp only at hK ⊢
      obtain ⟨p7, -⟩ := hp
      replace p7 := p7 rfl
      dsimp only at p7
      rw [p7] at hK ⊢
      clear p7
      unfold RunsOp
      have c0 := (hR.cell (p := ⟨b, k * 4, none⟩) hb (by simp)).trans HC0.out
      have c1 := (hR.cell (p := ⟨b, k * 4 + 1, none⟩) hb (by simp)).trans HC1.out
      have c2 := (hR.cell (p := ⟨b, k * 4 + 2, none⟩) hb (by simp)).trans HC2.out
      go_simp
      exact hK.out _ _ ⟨_, rfl, Only.refl _ _, rfl⟩
    · intro vals wr hR hp K hK
      dsimp only at hK ⊢
      obtain ⟨p0, p8, -⟩ := hp
      replace p0 := p0 rfl
      replace p8 := p8 rfl
      dsimp only at p0 p8
      rw [p0, p8] at hK ⊢
      clear p0 p8
      unfold RunsOp
      go_simp
      refine (less_lt s e.1 os oe HY.out _).mono ?_
      rintro e w2 ⟨rfl, o2⟩
      exact hK.out _ _ ⟨_, rfl, o2, rfl⟩
  intro vals w2 hR hF
  have f9 : (vals 9) = .bool y := hF 9 (by decide)
  rw [f9]
  clear hF f9
  have BGx := hR.blk (t := 66) (cs := #[.int .i64 room, .slice (some ⟨b, 0, none⟩) L.length c]) (g := g) (by first | exact BG.out | exact Blk.drewN BG.out _ | exact Blk.drew BG.out) (by simp)
  have BTx := hR.blk (t := 28) (cs := #[.pointer (some ⟨g, 0, none⟩)]) (g := bt) (by first | exact BT.out | exact Blk.drewN BT.out _ | exact Blk.drew BT.out) (by simp)
  have BSx := hR.blk (t := 34) (cs := #[.int .i64 s.1.1, .int .i64 s.1.2, .int .i64 s.2]) (g := bs) (by first | exact BS.out | exact Blk.drewN BS.out _ | exact Blk.drew BS.out) (by simp)
  have O1x : Only [] w w2 := (by first | exact Only.trans O0.out hR (by simp) | exact Only.trans (Only.drewN O0.out _) hR (by simp) | exact Only.trans (Only.drew O0.out) hR (by simp))
  obtain ⟨BGc0, BGc1, BGl⟩ := BGx.facts2
  obtain ⟨BTc0, BTl⟩ := BTx.facts1
  obtain ⟨BSc0, BSc1, BSc2, BSl⟩ := BSx.facts3
  clear BG BT BS O0 hR
  have BG := Lib.hid BGx; have BT := Lib.hid BTx; have BS := Lib.hid BSx; have O1 := Lib.hid O1x
  clear BGx BTx BSx O1x
  go_wp2_with (fail)
  go_ret
  exact ⟨rfl, O1.out⟩

set_option maxHeartbeats 2000000 in
theorem ahead_any {B : Nat} {w : World} {g : Nat} {room : Int} {L : List En} {A : Option Addr} {c : Nat} {s : St} (hT : TB B w g room L A c) (hk : Trk L) (os : s.ok) (rs : stR s = true) (hlen : L.length ≤ 1048576) :
    Calls Try.prog 34 #[.pointer (some ⟨g, 0, none⟩), .agg #[.int .i64 s.1.1, .int .i64 s.1.2, .int .i64 s.2]] w fun e w' => e = .returned (.int .i64 (aheadT L s : Nat)) ∧ Only [] w w' := by
  have o2 : Only [] w ((w.alloc (.cells #[.pointer (some ⟨g, 0, none⟩)] 28)).alloc (.cells #[.int .i64 s.1.1, .int .i64 s.1.2, .int .i64 s.2] 34)) := ((Only.refl [] w).alloc _).alloc _
  have b0 : Blk ((w.alloc (.cells #[.pointer (some ⟨g, 0, none⟩)] 28)).alloc (.cells #[.int .i64 s.1.1, .int .i64 s.1.2, .int .i64 s.2] 34)) w.heap.size 28 #[.pointer (some ⟨g, 0, none⟩)] := (Blk.new w 28 _).alloc _
  have b1 : Blk ((w.alloc (.cells #[.pointer (some ⟨g, 0, none⟩)] 28)).alloc (.cells #[.int .i64 s.1.1, .int .i64 s.1.2, .int .i64 s.2] 34)) (w.heap.size + 1) 34 #[.int .i64 s.1.1, .int .i64 s.1.2, .int .i64 s.2] := by have h := Blk.new (w.alloc (.cells #[.pointer (some ⟨g, 0, none⟩)] 28)) 34 #[.int .i64 s.1.1, .int .i64 s.1.2, .int .i64 s.2]; simpa using h
  have t2 := hT.keep o2
  obtain ⟨g0, g1, gl⟩ := t2.blk.facts2
  have hS := search_any 49 #[.pointer (some ⟨w.heap.size, 0, none⟩), .pointer (some ⟨w.heap.size + 1, 0, none⟩)] L.length (fun i => !decide (stC (L.getD i dE).1 s < 0)) ((w.alloc (.cells #[.pointer (some ⟨g, 0, none⟩)] 28)).alloc (.cells #[.int .i64 s.1.1, .int .i64 s.1.2, .int .i64 s.2] 34)) (enters Try.func49 (by kernel_rfl) rfl) (by omega)
    (fun W i hi o => aheadc_any (t2.keep o) (o.blk b0 (by simp)) (o.blk b1 (by simp)) os (k := i) (e := L.getD i dE) (by simp [List.getD, hi]) (hk.ok _ (by simp [List.getD, hi])).1 rfl)
    (fun x y hxy hy hx => by
      have hm := List.pairwise_iff_getElem.1 (hk.mono_lt os rs)
      rcases Nat.lt_or_ge x y with h | h
      · have := hm x y (by omega) hy h
        have n1 := stC_neg s L[x].1
        have n2 := stC_neg s L[y].1
        simp [List.getD, show x < L.length by omega, hy] at hx ⊢
        omega
      · obtain rfl : x = y := by omega
        exact hx)
  have hcnt : (List.range L.length).countP (fun i => !(fun i => !decide (stC (L.getD i dE).1 s < 0)) i) = aheadT L s := by
    simp only [Bool.not_not]
    exact count_at L (fun e => decide (stC e.1 s < 0))
  rw [hcnt] at hS
  have HS := Lib.hid hS
  have HO := Lib.hid o2
  clear hS hcnt b0 b1 t2 o2
  generalize aheadT L s = r at HS ⊢
  go_enter Try.func34, Try.ntmps34
  go_wp2_with (fail)
  refine HS.out.mono ?_
  rintro e w3 ⟨rfl, o3⟩
  go_wp2_with (fail)
  go_ret
  exact ⟨rfl, HO.out.trans o3 (by simp)⟩

set_option maxHeartbeats 2000000 in
theorem upTo_any {B : Nat} {w : World} {g : Nat} {room : Int} {L : List En} {A : Option Addr} {c : Nat} {s : St} (hT : TB B w g room L A c) (hk : Trk L) (os : s.ok) (rs : stR s = true) (hlen : L.length ≤ 1048576) :
    Calls Try.prog 35 #[.pointer (some ⟨g, 0, none⟩), .agg #[.int .i64 s.1.1, .int .i64 s.1.2, .int .i64 s.2]] w fun e w' => e = .returned (.int .i64 (upToT L s : Nat)) ∧ Only [] w w' := by
  have o2 : Only [] w ((w.alloc (.cells #[.pointer (some ⟨g, 0, none⟩)] 28)).alloc (.cells #[.int .i64 s.1.1, .int .i64 s.1.2, .int .i64 s.2] 34)) := ((Only.refl [] w).alloc _).alloc _
  have b0 : Blk ((w.alloc (.cells #[.pointer (some ⟨g, 0, none⟩)] 28)).alloc (.cells #[.int .i64 s.1.1, .int .i64 s.1.2, .int .i64 s.2] 34)) w.heap.size 28 #[.pointer (some ⟨g, 0, none⟩)] := (Blk.new w 28 _).alloc _
  have b1 : Blk ((w.alloc (.cells #[.pointer (some ⟨g, 0, none⟩)] 28)).alloc (.cells #[.int .i64 s.1.1, .int .i64 s.1.2, .int .i64 s.2] 34)) (w.heap.size + 1) 34 #[.int .i64 s.1.1, .int .i64 s.1.2, .int .i64 s.2] := by have h := Blk.new (w.alloc (.cells #[.pointer (some ⟨g, 0, none⟩)] 28)) 34 #[.int .i64 s.1.1, .int .i64 s.1.2, .int .i64 s.2]; simpa using h
  have t2 := hT.keep o2
  obtain ⟨g0, g1, gl⟩ := t2.blk.facts2
  have hS := search_any 50 #[.pointer (some ⟨w.heap.size + 1, 0, none⟩), .pointer (some ⟨w.heap.size, 0, none⟩)] L.length (fun i => decide (stC s (L.getD i dE).1 < 0)) ((w.alloc (.cells #[.pointer (some ⟨g, 0, none⟩)] 28)).alloc (.cells #[.int .i64 s.1.1, .int .i64 s.1.2, .int .i64 s.2] 34)) (enters Try.func50 (by kernel_rfl) rfl) (by omega)
    (fun W i hi o => upToc_any (t2.keep o) (o.blk b0 (by simp)) (o.blk b1 (by simp)) os (k := i) (e := L.getD i dE) (by simp [List.getD, hi]) (hk.ok _ (by simp [List.getD, hi])).1 rfl)
    (fun x y hxy hy hx => by
      have hm := List.pairwise_iff_getElem.1 (hk.mono_lt os rs)
      rcases Nat.lt_or_ge x y with h | h
      · have := hm x y (by omega) hy h
        have n1 := stC_neg s L[x].1
        have n2 := stC_neg s L[y].1
        simp [List.getD, show x < L.length by omega, hy] at hx ⊢
        omega
      · obtain rfl : x = y := by omega
        exact hx)
  have hcnt : (List.range L.length).countP (fun i => !(fun i => decide (stC s (L.getD i dE).1 < 0)) i) = upToT L s := by
    skip
    exact count_at L (fun e => !decide (stC s e.1 < 0))
  rw [hcnt] at hS
  have HS := Lib.hid hS
  have HO := Lib.hid o2
  clear hS hcnt b0 b1 t2 o2
  generalize upToT L s = r at HS ⊢
  go_enter Try.func35, Try.ntmps35
  go_wp2_with (fail)
  refine HS.out.mono ?_
  rintro e w3 ⟨rfl, o3⟩
  go_wp2_with (fail)
  go_ret
  exact ⟨rfl, HO.out.trans o3 (by simp)⟩

end Go.Proofs.Ytcggeogpanackaa
