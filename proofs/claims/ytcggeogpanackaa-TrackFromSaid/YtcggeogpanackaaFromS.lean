/- From. -/
import Derived.Test.YtcggeogpanackaaHand
import Derived.Test.YtcggeogpanackaaFrees1
import Derived.Test.YtcggeogpanackaaFactsC
namespace Go.Proofs.Ytcggeogpanackaa
open Go.RowKit Go.Kx
attribute [local go_sem] Oper.semAt_some
set_option maxRecDepth 100000

def fromT (L : List En) (s : St) : List En := if stR s = true then L.drop (aheadT L s) else []
theorem trkfrom_any (g : Nat) (s : St) (w : World) :
    Calls Try.prog 15 #[.pointer (some ⟨g, 0, none⟩), .agg #[.int .i64 s.1.1, .int .i64 s.1.2, .int .i64 s.2]] w fun e w' => e = .returned (.func (.func 32) #[] #[.pointer (some ⟨w.heap.size, 0, none⟩), .pointer (some ⟨w.heap.size + 1, 0, none⟩)]) ∧ w' = (w.alloc (.cells #[.pointer (some ⟨g, 0, none⟩)] 28)).alloc (.cells #[.int .i64 s.1.1, .int .i64 s.1.2, .int .i64 s.2] 34) := by
  go_enter Try.func15, Try.ntmps15
  go_wp2_with (fail)
  go_ret
  exact ⟨rfl, rfl⟩

set_option maxHeartbeats 2000000 in
theorem from_seqs_w {B : Nat} {w : World} {g : Nat} {room : Int} {L : List En} {A : Option Addr} {c tb sb : Nat} {s : St} (hT : TB B w g room L A c) (hk : Trk L) (hlen : L.length ≤ 1048576) (os : s.ok) (rs : stR s = false) (ht : Blk w tb 28 #[.pointer (some ⟨g, 0, none⟩)]) (hs : Blk w sb 34 #[.int .i64 s.1.1, .int .i64 s.1.2, .int .i64 s.2]) :
    Seqs Try.prog 32 #[.pointer (some ⟨tb, 0, none⟩), .pointer (some ⟨sb, 0, none⟩)] (vals4 (fromT L s)) [] w := by
  intro l J Jx W S hK hl hlW hS _ hJ hY h0
  have TT : TB B W g room L A c := ⟨hK.blk hT.blk, ownsRow_keepC hK hT.own, hT.base⟩
  have bt := hK.blk ht
  have bs := hK.blk hs
  clear hT ht hs hK
  have e : fromT L s = [] := by unfold fromT; rw [if_neg (by rw [rs]; simp)]
  rw [e]
  have H0 := Lib.hid h0
  have HJ := Lib.hid hJ
  obtain ⟨t0, tl⟩ := bt.facts1
  obtain ⟨s0, s1, s2, sl⟩ := bs.facts3
  clear hJ hY h0 e TT bt bs
  show Calls Try.prog 32 #[.func (.yield l) #[] #[], .pointer (some ⟨tb, 0, none⟩), .pointer (some ⟨sb, 0, none⟩)] W _
  go_enter Try.func32, Try.ntmps32
  go_wp2_with (fail)
  refine (strightr os rs _).mono ?_
  rintro e W1 ⟨rfl, o1⟩
  have J1 := HJ.out _ _ _ _ H0.out o1
  go_wp2_with (fail)
  go_end0
  exact ⟨⟨_, rfl⟩, .inl ⟨S, J1⟩⟩

set_option maxHeartbeats 2000000 in
theorem from_seqs_re {B : Nat} {w : World} {g : Nat} {room : Int} {L : List En} {A : Option Addr} {c tb sb : Nat} {s : St} (hT : TB B w g room L A c) (hk : Trk L) (hlen : L.length ≤ 1048576) (os : s.ok) (rs : stR s = true) {b n r : Nat} (hA : A = some ⟨b, 0, none⟩) (hn : L.length = n) (hi : aheadT L s = r) (hin : r ≤ n) (hnc : n ≤ c) (hci : c = r) (ht : Blk w tb 28 #[.pointer (some ⟨g, 0, none⟩)]) (hs : Blk w sb 34 #[.int .i64 s.1.1, .int .i64 s.1.2, .int .i64 s.2]) :
    Seqs Try.prog 32 #[.pointer (some ⟨tb, 0, none⟩), .pointer (some ⟨sb, 0, none⟩)] (vals4 (fromT L s)) [] w := by
  intro l J Jx W S hK hl hlW hS _ hJ hY h0
  have TT : TB B W g room L A c := ⟨hK.blk hT.blk, ownsRow_keepC hK hT.own, hT.base⟩
  have bt := hK.blk ht
  have bs := hK.blk hs
  clear hT ht hs hK
  have e : fromT L s = L.drop r := by unfold fromT; rw [if_pos rs, hi]
  rw [e] at hY ⊢
  subst hA
  rw [hn] at hlen
  have hlm : (L.drop r).length = n - r := by simp [hn]
  have ev : (vals4 (L.drop r)).length = n - r := by simp [vals4, hn]
  rw [ev]
  have HT := Lib.hid TT
  have HK := Lib.hid hk
  have HI := Lib.hid hi
  have H0 := Lib.hid h0
  have HJ := Lib.hid hJ
  have HY := Lib.hid hY
  have HN := Lib.hid hn
  have TS := Lib.hid bs
  have TT2 := Lib.hid bt
  have BGb := TT.blk
  rw [hn] at BGb
  have BG := Lib.hid BGb
  have RS := Lib.hid rs
  obtain ⟨t0, tl⟩ := bt.facts1
  obtain ⟨s0, s1, s2, sl⟩ := bs.facts3
  clear hJ hY h0 e TT bt bs hk hi hn BGb rs ev
  have e1 : n = r := by omega
  subst e1
  have e2 : n = c := hci.symm
  subst e2
  clear hci
  rw [Nat.sub_self] at hlm ⊢
  have HLM := Lib.hid hlm
  clear hlm
  show Calls Try.prog 32 #[.func (.yield l) #[] #[], .pointer (some ⟨tb, 0, none⟩), .pointer (some ⟨sb, 0, none⟩)] W _
  go_enter Try.func32, Try.ntmps32
  go_wp2_with (fail)
  refine (strightr os RS.out _).mono ?_
  rintro e W1 ⟨rfl, o1⟩
  have J1 := HJ.out _ _ _ _ H0.out o1
  have HJ1 := Lib.hid J1
  have T1 := Lib.hid (HT.out.keep o1)
  have B1 := Lib.hid (o1.blk TT2.out (by simp))
  have S1 := Lib.hid (o1.blk TS.out (by simp))
  have G1 := Lib.hid (o1.blk BG.out (by simp))
  have hs1 := o1.size
  clear t0 s0 s1 s2 sl tl J1 o1 HT TT2 TS BG H0
  go_wp2_with (fail)
  refine wp_region_factsC 9 [] (fr := ?frz) (tl := ?tlz) (fun i v wv => match i with
    | 0 => v = .pointer (some ⟨g, 0, none⟩)
    | 1 => v = .pointer (some ⟨g, 0, none⟩)
    | 2 => v = .pointer (some ⟨g, 1, none⟩)
    | 3 => v = .slice (some ⟨b, 0, none⟩) n n
    | 4 => v = .pointer (some ⟨g, 0, none⟩)
    | 5 => v = .agg #[.int .i64 s.1.1, .int .i64 s.1.2, .int .i64 s.2]
    | 6 => v = .int .i64 n
    | 7 => v = .slice (some ⟨b, 0, none⟩) 0 0
    | 8 => v = .func (.yield l) #[] #[]
    | _ => True) (by kernel_rfl) (by kernel_rfl) (by kernel_rfl) (by kernel_rfl) (by kernel_rfl) (by decide) ?htlz ?hfrz ?stabz ?stepsz ?donez
  case htlz => simp only [List.drop_succ_cons, List.drop_zero]; rfl
  case hfrz => intro vals; simp only [putAll, dstAt, Act.put, List.getElem?_toArray, List.getElem?_cons_zero, List.getElem?_cons_succ, Option.bind_some, List.setIfInBounds_toArray, List.set_cons_zero, List.set_cons_succ]; rfl
  case stabz =>
    intro i v wa wb h
    try dsimp only
    split <;> first | exact id | fail
  case stepsz =>
    refine ⟨?_, ?_, ?_, ?_, ?_, ?_, ?_, ?_, ?_, trivial⟩
    · intro vals wr hR hp K hK
      dsimp only at hK ⊢
      clear hp
      unfold RunsOp
      have tbB1 := hR.blk (by first | exact B1.out | exact Blk.drew B1.out) (by simp)
      obtain ⟨cB10, clB1⟩ := tbB1.facts1
      clear tbB1
      go_simp
      exact hK.out _ _ ⟨_, rfl, Only.refl _ _, rfl⟩
    · intro vals wr hR hp K hK
      dsimp only at hK ⊢
      obtain ⟨p0, -⟩ := hp
      replace p0 := p0 rfl
      dsimp only at p0
      rw [p0] at hK ⊢
      clear p0
      unfold RunsOp
      go_simp
      exact hK.out _ _ ⟨_, rfl, Only.refl _ _, rfl⟩
    · intro vals wr hR hp K hK
      dsimp only at hK ⊢
      obtain ⟨p1, -⟩ := hp
      replace p1 := p1 rfl
      dsimp only at p1
      rw [p1] at hK ⊢
      clear p1
      unfold RunsOp
      go_simp
      exact hK.out _ _ ⟨_, rfl, Only.refl _ _, rfl⟩
    · intro vals wr hR hp K hK
      dsimp only at hK ⊢
      obtain ⟨p2, -⟩ := hp
      replace p2 := p2 rfl
      dsimp only at p2
      rw [p2] at hK ⊢
      clear p2
      unfold RunsOp
      have tbG1 := hR.blk (by first | exact G1.out | exact Blk.drew G1.out) (by simp)
      obtain ⟨cG10, cG11, clG1⟩ := tbG1.facts2
      clear tbG1
      go_simp
      exact hK.out _ _ ⟨_, rfl, Only.refl _ _, rfl⟩
    · intro vals wr hR hp K hK
      dsimp only at hK ⊢
      clear hp
      unfold RunsOp
      have tbB1 := hR.blk (by first | exact B1.out | exact Blk.drew B1.out) (by simp)
      obtain ⟨cB10, clB1⟩ := tbB1.facts1
      clear tbB1
      go_simp
      exact hK.out _ _ ⟨_, rfl, Only.refl _ _, rfl⟩
    · intro vals wr hR hp K hK
      dsimp only at hK ⊢
      clear hp
      unfold RunsOp
      have tbS1 := hR.blk (by first | exact S1.out | exact Blk.drew S1.out) (by simp)
      obtain ⟨cS10, cS11, cS12, clS1⟩ := tbS1.facts3
      clear tbS1
      go_simp
      exact hK.out _ _ ⟨_, rfl, Only.refl _ _, rfl⟩
    · intro vals wr hR hp K hK
      dsimp only at hK ⊢
      obtain ⟨p4, p5, -⟩ := hp
      replace p4 := p4 rfl
      replace p5 := p5 rfl
      dsimp only at p4 p5
      rw [p4, p5] at hK ⊢
      clear p4 p5
      unfold RunsOp
      go_simp
      refine (ahead_any (T1.out.keep ((Only.refl [] _).drew.trans hR (by simp))) HK.out os RS.out (by have := HN.out; omega)).mono ?_
      rintro e w2 ⟨rfl, o2⟩
      exact hK.out _ _ ⟨_, rfl, o2, congrArg (fun x : Nat => Value.int .i64 (x : Int)) HI.out⟩
    · intro vals wr hR hp K hK
      dsimp only at hK ⊢
      obtain ⟨p3, p6, -⟩ := hp
      replace p3 := p3 rfl
      replace p6 := p6 rfl
      dsimp only at p3 p6
      obtain p6 := p6
      rw [p3, p6] at hK ⊢
      clear p3 p6
      unfold RunsOp
      go_simp
      exact hK.out _ _ ⟨_, rfl, Only.refl _ _, rfl⟩
    · intro vals wr hR hp K hK
      dsimp only at hK ⊢
      clear hp
      unfold RunsOp
      go_simp
      exact hK.out _ _ ⟨_, rfl, Only.refl _ _, rfl⟩
  case donez =>
    intro vals wd hR hF
    have f7 : vals 7 = .slice (some ⟨b, 0, none⟩) 0 0 := hF 7 (by decide)
    have f8 : vals 8 = .func (.yield l) #[] #[] := hF 8 (by decide)
    rw [f7, f8]
    have T2 := T1.out.keep ((Only.refl [] _).drew.trans hR (by simp))
    have J2 := HJ.out _ _ _ _ HJ1.out ((Only.refl [] _).drew.trans hR (by simp))
    have ow := T2.own
    rw [HN.out] at ow
    have hsz := hR.size
    have hh := handout_any (c := 0) (A := some ⟨b, 0, none⟩) (l := l) (S := S) (by rw [List.drop_eq_nil_of_le (by have := HN.out; omega)]; exact Row4.nil _ _) HLM.out (by omega) (by simp at hsz; omega) (fun x hx => by have := hS x hx; simp at hsz; omega) HJ.out HY.out J2
    have HH := Lib.hid hh
    clear hF f7 f8 hR T2 J2 ow hh HJ HY T1 B1 S1 G1 HJ1
    go_wp2_with (fail)
    refine HH.out.mono ?_
    rintro e W' ⟨⟨v, rfl⟩, hx⟩
    go_wp2_with (fail)
    go_end0
    exact ⟨⟨_, rfl⟩, hx⟩

set_option maxHeartbeats 2000000 in
theorem from_seqs_rn {B : Nat} {w : World} {g : Nat} {room : Int} {L : List En} {A : Option Addr} {c tb sb : Nat} {s : St} (hT : TB B w g room L A c) (hk : Trk L) (hlen : L.length ≤ 1048576) (os : s.ok) (rs : stR s = true) {b n r : Nat} (hA : A = some ⟨b, 0, none⟩) (hn : L.length = n) (hi : aheadT L s = r) (hin : r ≤ n) (hnc : n ≤ c) (hci : ¬ c = r) (ht : Blk w tb 28 #[.pointer (some ⟨g, 0, none⟩)]) (hs : Blk w sb 34 #[.int .i64 s.1.1, .int .i64 s.1.2, .int .i64 s.2]) :
    Seqs Try.prog 32 #[.pointer (some ⟨tb, 0, none⟩), .pointer (some ⟨sb, 0, none⟩)] (vals4 (fromT L s)) [] w := by
  intro l J Jx W S hK hl hlW hS _ hJ hY h0
  have TT : TB B W g room L A c := ⟨hK.blk hT.blk, ownsRow_keepC hK hT.own, hT.base⟩
  have bt := hK.blk ht
  have bs := hK.blk hs
  clear hT ht hs hK
  have e : fromT L s = L.drop r := by unfold fromT; rw [if_pos rs, hi]
  rw [e] at hY ⊢
  subst hA
  rw [hn] at hlen
  have hlm : (L.drop r).length = n - r := by simp [hn]
  have ev : (vals4 (L.drop r)).length = n - r := by simp [vals4, hn]
  rw [ev]
  have HT := Lib.hid TT
  have HK := Lib.hid hk
  have HI := Lib.hid hi
  have H0 := Lib.hid h0
  have HJ := Lib.hid hJ
  have HY := Lib.hid hY
  have HN := Lib.hid hn
  have TS := Lib.hid bs
  have TT2 := Lib.hid bt
  have BGb := TT.blk
  rw [hn] at BGb
  have BG := Lib.hid BGb
  have RS := Lib.hid rs
  obtain ⟨t0, tl⟩ := bt.facts1
  obtain ⟨s0, s1, s2, sl⟩ := bs.facts3
  clear hJ hY h0 e TT bt bs hk hi hn BGb rs ev
  have HLM := Lib.hid hlm
  clear hlm
  show Calls Try.prog 32 #[.func (.yield l) #[] #[], .pointer (some ⟨tb, 0, none⟩), .pointer (some ⟨sb, 0, none⟩)] W _
  go_enter Try.func32, Try.ntmps32
  go_wp2_with (fail)
  refine (strightr os RS.out _).mono ?_
  rintro e W1 ⟨rfl, o1⟩
  have J1 := HJ.out _ _ _ _ H0.out o1
  have HJ1 := Lib.hid J1
  have T1 := Lib.hid (HT.out.keep o1)
  have B1 := Lib.hid (o1.blk TT2.out (by simp))
  have S1 := Lib.hid (o1.blk TS.out (by simp))
  have G1 := Lib.hid (o1.blk BG.out (by simp))
  have hs1 := o1.size
  clear t0 s0 s1 s2 sl tl J1 o1 HT TT2 TS BG H0
  go_wp2_with (fail)
  refine wp_region_factsC 9 [] (fr := ?frz) (tl := ?tlz) (fun i v wv => match i with
    | 0 => v = .pointer (some ⟨g, 0, none⟩)
    | 1 => v = .pointer (some ⟨g, 0, none⟩)
    | 2 => v = .pointer (some ⟨g, 1, none⟩)
    | 3 => v = .slice (some ⟨b, 0, none⟩) n c
    | 4 => v = .pointer (some ⟨g, 0, none⟩)
    | 5 => v = .agg #[.int .i64 s.1.1, .int .i64 s.1.2, .int .i64 s.2]
    | 6 => v = .int .i64 r
    | 7 => v = .slice (some ⟨b, r * 4, none⟩) (n - r) (c - r)
    | 8 => v = .func (.yield l) #[] #[]
    | _ => True) (by kernel_rfl) (by kernel_rfl) (by kernel_rfl) (by kernel_rfl) (by kernel_rfl) (by decide) ?htlz ?hfrz ?stabz ?stepsz ?donez
  case htlz => simp only [List.drop_succ_cons, List.drop_zero]; rfl
  case hfrz => intro vals; simp only [putAll, dstAt, Act.put, List.getElem?_toArray, List.getElem?_cons_zero, List.getElem?_cons_succ, Option.bind_some, List.setIfInBounds_toArray, List.set_cons_zero, List.set_cons_succ]; rfl
  case stabz =>
    intro i v wa wb h
    try dsimp only
    split <;> first | exact id | fail
  case stepsz =>
    refine ⟨?_, ?_, ?_, ?_, ?_, ?_, ?_, ?_, ?_, trivial⟩
    · intro vals wr hR hp K hK
      dsimp only at hK ⊢
      clear hp
      unfold RunsOp
      have tbB1 := hR.blk (by first | exact B1.out | exact Blk.drew B1.out) (by simp)
      obtain ⟨cB10, clB1⟩ := tbB1.facts1
      clear tbB1
      go_simp
      exact hK.out _ _ ⟨_, rfl, Only.refl _ _, rfl⟩
    · intro vals wr hR hp K hK
      dsimp only at hK ⊢
      obtain ⟨p0, -⟩ := hp
      replace p0 := p0 rfl
      dsimp only at p0
      rw [p0] at hK ⊢
      clear p0
      unfold RunsOp
      go_simp
      exact hK.out _ _ ⟨_, rfl, Only.refl _ _, rfl⟩
    · intro vals wr hR hp K hK
      dsimp only at hK ⊢
      obtain ⟨p1, -⟩ := hp
      replace p1 := p1 rfl
      dsimp only at p1
      rw [p1] at hK ⊢
      clear p1
      unfold RunsOp
      go_simp
      exact hK.out _ _ ⟨_, rfl, Only.refl _ _, rfl⟩
    · intro vals wr hR hp K hK
      dsimp only at hK ⊢
      obtain ⟨p2, -⟩ := hp
      replace p2 := p2 rfl
      dsimp only at p2
      rw [p2] at hK ⊢
      clear p2
      unfold RunsOp
      have tbG1 := hR.blk (by first | exact G1.out | exact Blk.drew G1.out) (by simp)
      obtain ⟨cG10, cG11, clG1⟩ := tbG1.facts2
      clear tbG1
      go_simp
      exact hK.out _ _ ⟨_, rfl, Only.refl _ _, rfl⟩
    · intro vals wr hR hp K hK
      dsimp only at hK ⊢
      clear hp
      unfold RunsOp
      have tbB1 := hR.blk (by first | exact B1.out | exact Blk.drew B1.out) (by simp)
      obtain ⟨cB10, clB1⟩ := tbB1.facts1
      clear tbB1
      go_simp
      exact hK.out _ _ ⟨_, rfl, Only.refl _ _, rfl⟩
    · intro vals wr hR hp K hK
      dsimp only at hK ⊢
      clear hp
      unfold RunsOp
      have tbS1 := hR.blk (by first | exact S1.out | exact Blk.drew S1.out) (by simp)
      obtain ⟨cS10, cS11, cS12, clS1⟩ := tbS1.facts3
      clear tbS1
      go_simp
      exact hK.out _ _ ⟨_, rfl, Only.refl _ _, rfl⟩
    · intro vals wr hR hp K hK
      dsimp only at hK ⊢
      obtain ⟨p4, p5, -⟩ := hp
      replace p4 := p4 rfl
      replace p5 := p5 rfl
      dsimp only at p4 p5
      rw [p4, p5] at hK ⊢
      clear p4 p5
      unfold RunsOp
      go_simp
      refine (ahead_any (T1.out.keep ((Only.refl [] _).drew.trans hR (by simp))) HK.out os RS.out (by have := HN.out; omega)).mono ?_
      rintro e w2 ⟨rfl, o2⟩
      exact hK.out _ _ ⟨_, rfl, o2, congrArg (fun x : Nat => Value.int .i64 (x : Int)) HI.out⟩
    · intro vals wr hR hp K hK
      dsimp only at hK ⊢
      obtain ⟨p3, p6, -⟩ := hp
      replace p3 := p3 rfl
      replace p6 := p6 rfl
      dsimp only at p3 p6
      obtain p6 := p6
      rw [p3, p6] at hK ⊢
      clear p3 p6
      unfold RunsOp
      go_simp
      exact hK.out _ _ ⟨_, rfl, Only.refl _ _, rfl⟩
    · intro vals wr hR hp K hK
      dsimp only at hK ⊢
      clear hp
      unfold RunsOp
      go_simp
      exact hK.out _ _ ⟨_, rfl, Only.refl _ _, rfl⟩
  case donez =>
    intro vals wd hR hF
    have f7 : vals 7 = .slice (some ⟨b, r * 4, none⟩) (n - r) (c - r) := hF 7 (by decide)
    have f8 : vals 8 = .func (.yield l) #[] #[] := hF 8 (by decide)
    rw [f7, f8]
    have T2 := T1.out.keep ((Only.refl [] _).drew.trans hR (by simp))
    have J2 := HJ.out _ _ _ _ HJ1.out ((Only.refl [] _).drew.trans hR (by simp))
    have ow := T2.own
    rw [HN.out] at ow
    have hsz := hR.size
    have hh := handout_any (c := c - r) (A := some ⟨b, r * 4, none⟩) (l := l) (S := S) (own_row4_drop HN.out ow r) HLM.out (by omega) (by simp at hsz; omega) (fun x hx => by have := hS x hx; simp at hsz; omega) HJ.out HY.out J2
    have HH := Lib.hid hh
    clear hF f7 f8 hR T2 J2 ow hh HJ HY T1 B1 S1 G1 HJ1
    go_wp2_with (fail)
    refine HH.out.mono ?_
    rintro e W' ⟨⟨v, rfl⟩, hx⟩
    go_wp2_with (fail)
    go_end0
    exact ⟨⟨_, rfl⟩, hx⟩

set_option maxHeartbeats 2000000 in
theorem from_seqs_z {B : Nat} {w : World} {g : Nat} {room : Int} {tb sb : Nat} {s : St} (hT : TB B w g room [] none 0) (os : s.ok) (rs : stR s = true) (ht : Blk w tb 28 #[.pointer (some ⟨g, 0, none⟩)]) (hs : Blk w sb 34 #[.int .i64 s.1.1, .int .i64 s.1.2, .int .i64 s.2]) :
    Seqs Try.prog 32 #[.pointer (some ⟨tb, 0, none⟩), .pointer (some ⟨sb, 0, none⟩)] (vals4 []) [] w := by
  intro l J Jx W S hK hl hlW hS _ hJ hY h0
  have TT : TB B W g room [] none 0 := ⟨hK.blk hT.blk, ownsRow_keepC hK hT.own, hT.base⟩
  have bt := hK.blk ht
  have bs := hK.blk hs
  clear hT ht hs hK
  have HT := Lib.hid TT
  have H0 := Lib.hid h0
  have HJ := Lib.hid hJ
  have HY := Lib.hid hY
  have TS := Lib.hid bs
  have TT2 := Lib.hid bt
  have BG := Lib.hid (show Blk W g 66 #[.int .i64 room, .slice none 0 0] from TT.blk)
  have RS := Lib.hid rs
  obtain ⟨t0, tl⟩ := bt.facts1
  obtain ⟨s0, s1, s2, sl⟩ := bs.facts3
  have ev : (vals4 []).length = 0 := rfl
  rw [ev]
  clear hJ hY h0 TT bt bs rs ev
  show Calls Try.prog 32 #[.func (.yield l) #[] #[], .pointer (some ⟨tb, 0, none⟩), .pointer (some ⟨sb, 0, none⟩)] W _
  go_enter Try.func32, Try.ntmps32
  go_wp2_with (fail)
  refine (strightr os RS.out _).mono ?_
  rintro e W1 ⟨rfl, o1⟩
  have J1 := HJ.out _ _ _ _ H0.out o1
  have HJ1 := Lib.hid J1
  have T1 := Lib.hid (HT.out.keep o1)
  have B1 := Lib.hid (o1.blk TT2.out (by simp))
  have S1 := Lib.hid (o1.blk TS.out (by simp))
  have G1 := Lib.hid (o1.blk BG.out (by simp))
  have hs1 := o1.size
  clear t0 s0 s1 s2 sl tl J1 o1 HT TT2 TS BG H0
  go_wp2_with (fail)
  refine wp_region_factsC 9 [] (fr := ?frz) (tl := ?tlz) (fun i v wv => match i with
    | 0 => v = .pointer (some ⟨g, 0, none⟩)
    | 1 => v = .pointer (some ⟨g, 0, none⟩)
    | 2 => v = .pointer (some ⟨g, 1, none⟩)
    | 3 => v = .slice none 0 0
    | 4 => v = .pointer (some ⟨g, 0, none⟩)
    | 5 => v = .agg #[.int .i64 s.1.1, .int .i64 s.1.2, .int .i64 s.2]
    | 6 => v = .int .i64 0
    | 7 => v = .slice none 0 0
    | 8 => v = .func (.yield l) #[] #[]
    | _ => True) (by kernel_rfl) (by kernel_rfl) (by kernel_rfl) (by kernel_rfl) (by kernel_rfl) (by decide) ?htlz ?hfrz ?stabz ?stepsz ?donez
  case htlz => simp only [List.drop_succ_cons, List.drop_zero]; rfl
  case hfrz => intro vals; simp only [putAll, dstAt, Act.put, List.getElem?_toArray, List.getElem?_cons_zero, List.getElem?_cons_succ, Option.bind_some, List.setIfInBounds_toArray, List.set_cons_zero, List.set_cons_succ]; rfl
  case stabz =>
    intro i v wa wb h
    try dsimp only
    split <;> first | exact id | fail
  case stepsz =>
    refine ⟨?_, ?_, ?_, ?_, ?_, ?_, ?_, ?_, ?_, trivial⟩
    · intro vals wr hR hp K hK
      dsimp only at hK ⊢
      clear hp
      unfold RunsOp
      have tbB1 := hR.blk (by first | exact B1.out | exact Blk.drew B1.out) (by simp)
      obtain ⟨cB10, clB1⟩ := tbB1.facts1
      clear tbB1
      go_simp
      exact hK.out _ _ ⟨_, rfl, Only.refl _ _, rfl⟩
    · intro vals wr hR hp K hK
      dsimp only at hK ⊢
      obtain ⟨p0, -⟩ := hp
      replace p0 := p0 rfl
      dsimp only at p0
      rw [p0] at hK ⊢
      clear p0
      unfold RunsOp
      go_simp
      exact hK.out _ _ ⟨_, rfl, Only.refl _ _, rfl⟩
    · intro vals wr hR hp K hK
      dsimp only at hK ⊢
      obtain ⟨p1, -⟩ := hp
      replace p1 := p1 rfl
      dsimp only at p1
      rw [p1] at hK ⊢
      clear p1
      unfold RunsOp
      go_simp
      exact hK.out _ _ ⟨_, rfl, Only.refl _ _, rfl⟩
    · intro vals wr hR hp K hK
      dsimp only at hK ⊢
      obtain ⟨p2, -⟩ := hp
      replace p2 := p2 rfl
      dsimp only at p2
      rw [p2] at hK ⊢
      clear p2
      unfold RunsOp
      have tbG1 := hR.blk (by first | exact G1.out | exact Blk.drew G1.out) (by simp)
      obtain ⟨cG10, cG11, clG1⟩ := tbG1.facts2
      clear tbG1
      go_simp
      exact hK.out _ _ ⟨_, rfl, Only.refl _ _, rfl⟩
    · intro vals wr hR hp K hK
      dsimp only at hK ⊢
      clear hp
      unfold RunsOp
      have tbB1 := hR.blk (by first | exact B1.out | exact Blk.drew B1.out) (by simp)
      obtain ⟨cB10, clB1⟩ := tbB1.facts1
      clear tbB1
      go_simp
      exact hK.out _ _ ⟨_, rfl, Only.refl _ _, rfl⟩
    · intro vals wr hR hp K hK
      dsimp only at hK ⊢
      clear hp
      unfold RunsOp
      have tbS1 := hR.blk (by first | exact S1.out | exact Blk.drew S1.out) (by simp)
      obtain ⟨cS10, cS11, cS12, clS1⟩ := tbS1.facts3
      clear tbS1
      go_simp
      exact hK.out _ _ ⟨_, rfl, Only.refl _ _, rfl⟩
    · intro vals wr hR hp K hK
      dsimp only at hK ⊢
      obtain ⟨p4, p5, -⟩ := hp
      replace p4 := p4 rfl
      replace p5 := p5 rfl
      dsimp only at p4 p5
      rw [p4, p5] at hK ⊢
      clear p4 p5
      unfold RunsOp
      go_simp
      refine (ahead_any (T1.out.keep ((Only.refl [] _).drew.trans hR (by simp))) Trk.nil os RS.out (by simp)).mono ?_
      rintro e w2 ⟨rfl, o2⟩
      exact hK.out _ _ ⟨_, rfl, o2, rfl⟩
    · intro vals wr hR hp K hK
      dsimp only at hK ⊢
      obtain ⟨p3, p6, -⟩ := hp
      replace p3 := p3 rfl
      replace p6 := p6 rfl
      dsimp only at p3 p6
      obtain p6 := p6
      rw [p3, p6] at hK ⊢
      clear p3 p6
      unfold RunsOp
      go_simp
      exact hK.out _ _ ⟨_, rfl, Only.refl _ _, rfl⟩
    · intro vals wr hR hp K hK
      dsimp only at hK ⊢
      clear hp
      unfold RunsOp
      go_simp
      exact hK.out _ _ ⟨_, rfl, Only.refl _ _, rfl⟩
  case donez =>
    intro vals wd hR hF
    have f7 : vals 7 = .slice none 0 0 := hF 7 (by decide)
    have f8 : vals 8 = .func (.yield l) #[] #[] := hF 8 (by decide)
    rw [f7, f8]
    have J2 := HJ.out _ _ _ _ HJ1.out ((Only.refl [] _).drew.trans hR (by simp))
    have hsz := hR.size
    have hh := handout_any (c := 0) (n := 0) (A := none) (l := l) (S := S) (M := []) (Row4.nil _ _) rfl (by omega) (by simp at hsz; omega) (fun x hx => by have := hS x hx; simp at hsz; omega) HJ.out HY.out J2
    have HH := Lib.hid hh
    clear hF f7 f8 hR J2 hh HJ HY T1 B1 S1 G1 HJ1
    go_wp2_with (fail)
    refine HH.out.mono ?_
    rintro e W' ⟨⟨v, rfl⟩, hx⟩
    go_wp2_with (fail)
    go_end0
    exact ⟨⟨_, rfl⟩, hx⟩

theorem from_seqs {B : Nat} {w : World} {g : Nat} {room : Int} {L : List En} {A : Option Addr} {c tb sb : Nat} {s : St} (hT : TB B w g room L A c) (hk : Trk L) (hlen : L.length ≤ 1048576) (os : s.ok) (ht : Blk w tb 28 #[.pointer (some ⟨g, 0, none⟩)]) (hs : Blk w sb 34 #[.int .i64 s.1.1, .int .i64 s.1.2, .int .i64 s.2]) :
    Seqs Try.prog 32 #[.pointer (some ⟨tb, 0, none⟩), .pointer (some ⟨sb, 0, none⟩)] (vals4 (fromT L s)) [] w := by
  cases rs : stR s with
  | false => exact from_seqs_w hT hk hlen os rs ht hs
  | true =>
    rcases own_form hT.own with ⟨rfl, h0, rfl⟩ | ⟨⟨b, hA⟩, hnc⟩
    · have hm : L = [] := List.eq_nil_of_length_eq_zero h0
      subst hm
      have e : fromT [] s = [] := by unfold fromT; split <;> rfl
      rw [e]
      exact from_seqs_z hT os rs ht hs
    · by_cases hci : c = aheadT L s
      · exact from_seqs_re hT hk hlen os rs hA rfl rfl (ahead_le L s) hnc hci ht hs
      · exact from_seqs_rn hT hk hlen os rs hA rfl rfl (ahead_le L s) hnc hci ht hs
theorem fromT_parts {L : List En} (hk : Trk L) {s : St} (os : s.ok) (rs : stR s = true) : fromT L s = pbT L s ++ pcT L s := by
  unfold fromT; rw [if_pos rs]; exact (hk.ahead os rs).2

end Go.Proofs.Ytcggeogpanackaa
