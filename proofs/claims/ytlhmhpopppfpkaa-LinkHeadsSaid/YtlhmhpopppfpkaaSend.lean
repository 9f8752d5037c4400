/- Send. -/
import Derived.Test.YtlhmhpopppfpkaaPut
import Derived.Test.YtlhmhpopppfpkaaFacts2
namespace Go.Proofs.Ytlhmhpopppfpkaa
open Go.RowKit Go.Kx Go.Maps
set_option maxRecDepth 100000

def GrT (c N : Nat) (xs : List Int) (v : Value) (w : World) : Prop := ∃ b' rb', v = .tuple #[lv b' N, .int .i64 0] ∧ Qu w b' rb' N xs ∧ c ≤ b' ∧ c ≤ rb' ∧ rb' < w.heap.size
theorem GrT.only {c N : Nat} {xs : List Int} {v : Value} {w w' : World} (h : GrT c N xs v w) (o : Only [] w w') : GrT c N xs v w' := by
  obtain ⟨b', rb', e, q, h1, h2, h3⟩ := h
  exact ⟨b', rb', e, q.only o (by simp) (by simp), h1, h2, Nat.lt_of_lt_of_le h3 o.size⟩
def GrL (c N : Nat) (xs : List Int) (v : Value) (w : World) : Prop := ∃ b' rb', v = lv b' N ∧ Qu w b' rb' N xs ∧ c ≤ b' ∧ c ≤ rb' ∧ rb' < w.heap.size
theorem GrL.only {c N : Nat} {xs : List Int} {v : Value} {w w' : World} (h : GrL c N xs v w) (o : Only [] w w') : GrL c N xs v w' := by
  obtain ⟨b', rb', e, q, h1, h2, h3⟩ := h
  exact ⟨b', rb', e, q.only o (by simp) (by simp), h1, h2, Nat.lt_of_lt_of_le h3 o.size⟩
def Bad (n : Nat) (a b : Int) : Prop := a < 0 ∨ (n : Int) ≤ a ∨ b < 0 ∨ (n : Int) ≤ b ∨ a = b
instance (n : Nat) (a b : Int) : Decidable (Bad n a b) := by unfold Bad; exact inferInstance
theorem send_bad {B : Nat} {w : World} {g bm n room : Nat} {Ls : List (Pr × Lane)} (h : NB B w g bm n room Ls) {a b : Int} (v : Int) (hbad : Bad n a b) :
    Calls Try.prog 10 #[.pointer (some ⟨g, 0, none⟩), .int .i64 a, .int .i64 b, .int .i64 v] w fun e w' => e = .returned (.int .i64 1) ∧ Only [] w w' := by
  obtain ⟨g0, g1, g2, gl⟩ := h.blk.facts3
  clear h
  have key : decide (a < 0) = true ∨ decide (a < 0) = false ∧ decide ((n : Int) ≤ a) = true ∨ decide (a < 0) = false ∧ decide ((n : Int) ≤ a) = false ∧ decide (b < 0) = true ∨ decide (a < 0) = false ∧ decide ((n : Int) ≤ a) = false ∧ decide (b < 0) = false ∧ decide ((n : Int) ≤ b) = true ∨ decide (a < 0) = false ∧ decide ((n : Int) ≤ a) = false ∧ decide (b < 0) = false ∧ decide ((n : Int) ≤ b) = false ∧ (a == b) = true := by
    unfold Bad at hbad
    simp; omega
  clear hbad
  rcases key with h1 | ⟨h1, h2⟩ | ⟨h1, h2, h3⟩ | ⟨h1, h2, h3, h4⟩ | ⟨h1, h2, h3, h4, h5⟩
  all_goals
    go_enter Try.func10, Try.ntmps10
    go_wp2_with (fail)
    go_ret
    exact ⟨rfl, Only.refl _ _⟩

set_option maxHeartbeats 2000000 in
theorem send_fit {B : Nat} {w : World} {g bm n room : Nat} {Ls : List (Pr × Lane)} (h : NB B w g bm n room Ls) (hBw : B ≤ w.heap.size) {a b : Int} (v : Int) (ha : I64 a) (hb : I64 b) (hgood : ¬ Bad n a b) {l : Lane} (hp : ((a, b), l) ∈ Ls) (hlt : l.xs.length < l.size) :
    Calls Try.prog 10 #[.pointer (some ⟨g, 0, none⟩), .int .i64 a, .int .i64 b, .int .i64 v] w fun e w' => e = .returned (.int .i64 0) ∧ (∃ rb', (rb' = l.rb ∨ w.heap.size ≤ rb') ∧ NB B w' g bm n room (turnL Ls (a, b) { l with rb := rb', xs := l.xs ++ [v] })) ∧ Only (netS bm Ls) w w' := by
  obtain ⟨g0, g1, g2, gl⟩ := h.blk.facts3
  obtain ⟨D, hD, hl⟩ := h.map
  have h1 : decide (a < 0) = false := by unfold Bad at hgood; simp; omega
  have h2 : decide ((n : Int) ≤ a) = false := by unfold Bad at hgood; simp; omega
  have h3 : decide (b < 0) = false := by unfold Bad at hgood; simp; omega
  have h4 : decide ((n : Int) ≤ b) = false := by unfold Bad at hgood; simp; omega
  have h5 : (a == b) = false := by unfold Bad at hgood; simp; omega
  have hdim := h.dims
  have hgm := h.gm
  have hgl := h.blk.lt
  have hml := h.mlt
  clear hgood

  have hat := hl.at_ _ hp (.held lz)
  have hq := (h.qu _ hp).1
  have lo := h.lo _ hp
  have hS : ∀ x ∈ [l.b, l.rb], x ∈ netS bm Ls := fun x hx => List.mem_cons_of_mem _ (List.mem_flatMap.2 ⟨_, hp, hx⟩)
  have hgq : decide ((l.size : Int) ≤ (l.xs.length : Int)) = false := by simp; omega
  dsimp only at hat hq lo
  have hbn := Blk.new w 61 #[.pointer (some ⟨l.b, 0, none⟩), .int .i64 l.size]
  have o0 : Only [] w (w.alloc (.cells #[.pointer (some ⟨l.b, 0, none⟩), .int .i64 l.size] 61)) := (Only.refl _ _).alloc _
  have HN := Lib.hid (h.keep o0)
  have HX := Lib.hid hbn
  have HO := Lib.hid o0
  obtain ⟨x0, x1, xl⟩ := hbn.facts2
  go_enter Try.func10, Try.ntmps10
  go_wp2_with (at_lookup; refine wpList_lookup_held _ rfl _ _ 56 rfl 50 61 law50 Try.underlying56 (zero61 _) bm Ls.length D rfl hD _ _ rfl (key_of ha hb) _ hat ?_)
  generalize hW : w.alloc (.cells #[.pointer (some ⟨l.b, 0, none⟩), .int .i64 l.size] 61) = w1 at *
  go_region_held3 (fun w' => w'.cell? ⟨w.heap.size, 0, none⟩ = some (.pointer (some ⟨l.b, 0, none⟩)) ∧ w'.cell? ⟨w.heap.size, 1, none⟩ = some (.int .i64 l.size)) (first | (go_keep; done) | (refine ⟨?_, ?_⟩ <;> (go_simp; done)))
    (first | (go_at_call 19; refine (len_any ((hq.only HO.out (by simp) (by simp)).drew)).mono ?_; rintro e w2 ⟨rfl, rfl⟩))

  go_wp2_with (fail)
  refine (push_ok ((hq.only HO.out (by simp) (by simp)).drew) hlt v).mono ?_
  rintro e w2 ⟨rfl, rb', hrb, q2, o2⟩
  have hN1 : NB B w1.drew g bm n room Ls := HN.out.keep ((Only.refl [] w1).drew)
  have hT := hN1.turn (l' := { l with rb := rb', xs := l.xs ++ [v] }) (Nat.le_trans hBw HO.out.size) hp rfl rfl hrb (q2.rlt (by simp)) q2 o2
  have HT := Lib.hid hT
  have HO2 := Lib.hid ((HO.out.drew.mono (S' := netS bm Ls) (fun _ h => by simp at h)).trans o2 (fun x h => .inl (hS x h)))
  clear q2 o2 hT hN1 x0 x1 xl g0 g1 g2
  go_wp2_with (fail)
  go_ret
  exact ⟨rfl, ⟨rb', hrb.imp_right (fun h => Nat.le_trans HO.out.size h), HT.out⟩, HO2.out⟩
set_option maxHeartbeats 2000000 in
theorem send_full {B : Nat} {w : World} {g bm n room : Nat} {Ls : List (Pr × Lane)} (h : NB B w g bm n room Ls) (hBw : B ≤ w.heap.size) {a b : Int} (v : Int) (ha : I64 a) (hb : I64 b) (hgood : ¬ Bad n a b) {l : Lane} (hp : ((a, b), l) ∈ Ls) (hge : l.size ≤ l.xs.length) (hfull : room ≤ l.size) :
    Calls Try.prog 10 #[.pointer (some ⟨g, 0, none⟩), .int .i64 a, .int .i64 b, .int .i64 v] w fun e w' => e = .returned (.int .i64 14) ∧ Only [] w w' := by
  obtain ⟨g0, g1, g2, gl⟩ := h.blk.facts3
  obtain ⟨D, hD, hl⟩ := h.map
  have h1 : decide (a < 0) = false := by unfold Bad at hgood; simp; omega
  have h2 : decide ((n : Int) ≤ a) = false := by unfold Bad at hgood; simp; omega
  have h3 : decide (b < 0) = false := by unfold Bad at hgood; simp; omega
  have h4 : decide ((n : Int) ≤ b) = false := by unfold Bad at hgood; simp; omega
  have h5 : (a == b) = false := by unfold Bad at hgood; simp; omega
  have hdim := h.dims
  have hgm := h.gm
  have hgl := h.blk.lt
  have hml := h.mlt
  clear hgood

  have hat := hl.at_ _ hp (.held lz)
  have hq := (h.qu _ hp).1
  have lo := h.lo _ hp
  dsimp only at hat hq lo
  have hgq : decide ((l.size : Int) ≤ (l.xs.length : Int)) = true := by simp; omega
  have hgr : decide ((room : Int) ≤ (l.size : Int)) = true := by simp; omega
  have hbn := Blk.new w 61 #[.pointer (some ⟨l.b, 0, none⟩), .int .i64 l.size]
  have o0 : Only [] w (w.alloc (.cells #[.pointer (some ⟨l.b, 0, none⟩), .int .i64 l.size] 61)) := (Only.refl _ _).alloc _
  have HN := Lib.hid (h.keep o0)
  have HX := Lib.hid hbn
  have HO := Lib.hid o0
  obtain ⟨x0, x1, xl⟩ := hbn.facts2
  go_enter Try.func10, Try.ntmps10
  go_wp2_with (at_lookup; refine wpList_lookup_held _ rfl _ _ 56 rfl 50 61 law50 Try.underlying56 (zero61 _) bm Ls.length D rfl hD _ _ rfl (key_of ha hb) _ hat ?_)
  generalize hW : w.alloc (.cells #[.pointer (some ⟨l.b, 0, none⟩), .int .i64 l.size] 61) = w1 at *
  go_region_held3 (fun w' => w'.cell? ⟨w.heap.size, 0, none⟩ = some (.pointer (some ⟨l.b, 0, none⟩)) ∧ w'.cell? ⟨w.heap.size, 1, none⟩ = some (.int .i64 l.size)) (first | (go_keep; done) | (refine ⟨?_, ?_⟩ <;> (go_simp; done)))
    (first | (go_at_call 19; refine (len_any ((hq.only HO.out (by simp) (by simp)).drew)).mono ?_; rintro e w2 ⟨rfl, rfl⟩))

  go_wp2_with (fail)
  have hx3 := HX.out.drew
  have hn3 := HN.out.keep ((Only.refl [] w1).drew)
  have ho3 := HO.out.drew
  clear x0 x1 xl g0 g1 g2 gl
  generalize hw3 : w1.drew = w3 at *
  obtain ⟨x0, x1, xl⟩ := hx3.facts2
  obtain ⟨g0, g1, g2, gl⟩ := hn3.blk.facts3
  clear hw3
  go_wp2_with (fail)
  go_quiet (fail)
  go_wp2_with (fail)
  go_ret
  exact ⟨rfl, ho3.drewN _⟩
set_option maxHeartbeats 2000000 in
theorem send_grow {B : Nat} {w : World} {g bm n room : Nat} {Ls : List (Pr × Lane)} (h : NB B w g bm n room Ls) (hBw : B ≤ w.heap.size) {a b : Int} (v : Int) (ha : I64 a) (hb : I64 b) (hgood : ¬ Bad n a b) {l : Lane} (hp : ((a, b), l) ∈ Ls) (hge : l.size ≤ l.xs.length) (hroom : l.size < room) (hlen : Ls.length ≤ 1048576) :
    Calls Try.prog 10 #[.pointer (some ⟨g, 0, none⟩), .int .i64 a, .int .i64 b, .int .i64 v] w fun e w' => e = .returned (.int .i64 0) ∧ (∃ b' rb1 rb' N, (w.heap.size ≤ b' ∧ w.heap.size ≤ rb') ∧ NB B w' g bm n room (turnL (putL Ls (a, b) ⟨b', rb1, N, l.xs⟩) (a, b) ⟨b', rb', N, l.xs ++ [v]⟩)) ∧ Only (netS bm Ls) w w' := by
  obtain ⟨g0, g1, g2, gl⟩ := h.blk.facts3
  obtain ⟨D, hD, hl⟩ := h.map
  have h1 : decide (a < 0) = false := by unfold Bad at hgood; simp; omega
  have h2 : decide ((n : Int) ≤ a) = false := by unfold Bad at hgood; simp; omega
  have h3 : decide (b < 0) = false := by unfold Bad at hgood; simp; omega
  have h4 : decide ((n : Int) ≤ b) = false := by unfold Bad at hgood; simp; omega
  have h5 : (a == b) = false := by unfold Bad at hgood; simp; omega
  have hdim := h.dims
  have hgm := h.gm
  have hgl := h.blk.lt
  have hml := h.mlt
  clear hgood

  have hat := hl.at_ _ hp (.held lz)
  have hq := (h.qu _ hp).1
  have lo := h.lo _ hp
  dsimp only at hat hq lo
  have hgq : decide ((l.size : Int) ≤ (l.xs.length : Int)) = true := by simp; omega
  have hgr : decide ((room : Int) ≤ (l.size : Int)) = false := by simp; omega
  have hold : ∀ e ∈ Ls, ∀ x ∈ e.2.bs, x < w.heap.size := fun e he x hx => (h.lo e he x hx).2.1
  have hxl := hq.len
  have HLD := Lib.hid hl
  have hbn := Blk.new w 61 #[.pointer (some ⟨l.b, 0, none⟩), .int .i64 l.size]
  have o0 : Only [] w (w.alloc (.cells #[.pointer (some ⟨l.b, 0, none⟩), .int .i64 l.size] 61)) := (Only.refl _ _).alloc _
  have HN := Lib.hid (h.keep o0)
  have HX := Lib.hid hbn
  have HO := Lib.hid o0
  obtain ⟨x0, x1, xl⟩ := hbn.facts2
  go_enter Try.func10, Try.ntmps10
  go_wp2_with (at_lookup; refine wpList_lookup_held _ rfl _ _ 56 rfl 50 61 law50 Try.underlying56 (zero61 _) bm Ls.length D rfl hD _ _ rfl (key_of ha hb) _ hat ?_)
  generalize hW : w.alloc (.cells #[.pointer (some ⟨l.b, 0, none⟩), .int .i64 l.size] 61) = w1 at *
  go_region_held3 (fun w' => w'.cell? ⟨w.heap.size, 0, none⟩ = some (.pointer (some ⟨l.b, 0, none⟩)) ∧ w'.cell? ⟨w.heap.size, 1, none⟩ = some (.int .i64 l.size)) (first | (go_keep; done) | (refine ⟨?_, ?_⟩ <;> (go_simp; done)))
    (first | (go_at_call 19; refine (len_any ((hq.only HO.out (by simp) (by simp)).drew)).mono ?_; rintro e w2 ⟨rfl, rfl⟩))

  go_wp2_with (fail)
  have hx3 := HX.out.drew
  have hn3 := HN.out.keep ((Only.refl [] w1).drew)
  have ho3 := HO.out.drew
  clear x0 x1 xl g0 g1 g2 gl
  generalize hw3 : w1.drew = w3 at *
  obtain ⟨x0, x1, xl⟩ := hx3.facts2
  obtain ⟨g0, g1, g2, gl⟩ := hn3.blk.facts3
  clear hw3
  go_wp2_with (fail)
  go_quiet (fail)
  generalize hw4 : w3.drewN _ = w4
  have o34 : Only [] w3 w4 := by rw [← hw4]; exact (Only.refl _ _).drewN _
  have HX4 := Lib.hid (o34.blk hx3 (by simp))
  have HN4 := Lib.hid (hn3.keep o34)
  have HO4 := Lib.hid (ho3.trans o34 (by simp))
  have h4w := HX4.out.lt
  clear x0 x1 xl g0 g1 g2 gl hw4 hx3 hn3 ho3 o34
  go_wp2_with (fail)
  have hgr2 : decide (room ≤ l.size) = false := by simp; omega
  have hgr3 : decide (room = 0) = false := by simp; omega
  have hgr4 : decide ((room : Int) = 0) = false := by simp; omega
  try simp only [hgr2, hgr3, hgr4]
  clear hgr2 hgr hgr3 hgr4
  refine wp_region_factsD 9 [8] [] (fr := ?frg) (tl := ?tlg) (fun i v wv => match i with
    | 0 => v = .agg #[.pointer (some ⟨l.b, 0, none⟩), .int .i64 l.size]
    | 1 => v = .pointer (some ⟨g, 0, none⟩)
    | 2 => v = .pointer (some ⟨g, 0, none⟩)
    | 3 => v = .pointer (some ⟨g, 1, none⟩)
    | 4 => v = .int .i64 room
    | 5 => GrT w4.heap.size (growN l.size room) l.xs v wv
    | 6 => GrT w4.heap.size (growN l.size room) l.xs v wv
    | 7 => GrL w4.heap.size (growN l.size room) l.xs v wv
    | 8 => v = .int .i64 0
    | _ => True) (by kernel_rfl) (by kernel_rfl) (by kernel_rfl) (by kernel_rfl) (by kernel_rfl) (by kernel_rfl) (by decide) (fun _ _ _ _ _ h => h) ?htlg ?hfrg ?stabg ?detsg ?stepsg ?doneg
  case htlg => simp only [List.drop_succ_cons, List.drop_zero]; rfl
  case hfrg => intro vals; simp only [putAll, dstAt, Act.put, List.getElem?_toArray, List.getElem?_cons_zero, List.getElem?_cons_succ, Option.bind_some, List.setIfInBounds_toArray, List.set_cons_zero, List.set_cons_succ]; rfl
  case stabg =>
    intro i v wa wb h
    try dsimp only
    split <;> first | exact id | (exact fun hf => hf.only h)
  case detsg =>
    refine ⟨?_, trivial⟩
    · intro o ho vals wr hR hp
      cases ho
      obtain ⟨p6, -, -⟩ := hp
      replace p6 := p6 rfl
      dsimp only at p6
      dsimp only
      obtain ⟨b6, rb6, e6, q6, i6, j6, k6⟩ := p6
      rw [e6]
      refine ⟨.int .i64 0, Or.inl ⟨by rfl, fun wz => ?_⟩, rfl⟩
      go_simp
  case stepsg =>
    refine ⟨?_, ?_, ?_, ?_, ?_, ?_, ?_, ?_, ?_, trivial⟩
    · refine .inr ?_
      intro vals wr hR hp K hK
      dsimp only at hK ⊢
      clear hp
      unfold RunsOp
      have tb := hR.blk (Blk.drew HX4.out) (by simp)
      obtain ⟨y0, y1, yl⟩ := tb.facts2
      clear tb
      go_simp
      exact hK.out _ _ ⟨_, rfl, Only.refl _ _, rfl⟩
    · refine .inr ?_
      intro vals wr hR hp K hK
      dsimp only at hK ⊢
      clear hp
      unfold RunsOp
      go_simp
      exact hK.out _ _ ⟨_, rfl, Only.refl _ _, rfl⟩
    · refine .inr ?_
      intro vals wr hR hp K hK
      dsimp only at hK ⊢
      obtain ⟨p1, -⟩ := hp
      replace p1 := p1 rfl
      dsimp only at p1
      rw [p1] at hK ⊢
      clear p1
      unfold RunsOp
      go_simp
      exact hK.out _ _ ⟨_, rfl, Only.refl _ _, rfl⟩
    · refine .inr ?_
      intro vals wr hR hp K hK
      dsimp only at hK ⊢
      obtain ⟨p2, -⟩ := hp
      replace p2 := p2 rfl
      dsimp only at p2
      rw [p2] at hK ⊢
      clear p2
      unfold RunsOp
      go_simp
      exact hK.out _ _ ⟨_, rfl, Only.refl _ _, rfl⟩
    · refine .inr ?_
      intro vals wr hR hp K hK
      dsimp only at hK ⊢
      obtain ⟨p3, -⟩ := hp
      replace p3 := p3 rfl
      dsimp only at p3
      rw [p3] at hK ⊢
      clear p3
      unfold RunsOp
      have tg := hR.blk (Blk.drew HN4.out.blk) (by simp)
      obtain ⟨k0, k1, k2, kl'⟩ := tg.facts3
      clear tg
      go_simp
      exact hK.out _ _ ⟨_, rfl, Only.refl _ _, rfl⟩
    · refine .inr ?_
      intro vals wr hR hp K hK
      dsimp only at hK ⊢
      obtain ⟨p0, p4, -⟩ := hp
      replace p0 := p0 rfl
      replace p4 := p4 rfl
      dsimp only at p0 p4
      rw [p0, p4] at hK ⊢
      clear p0 p4
      unfold RunsOp
      have hsz := hR.size
      have ho8 : Only [] w wr := (Only.drew HO4.out).trans hR (by simp)
      go_simp
      refine (grown_any (hq.only ho8 (by simp) (by simp)) hroom (by omega)).mono ?_
      rintro e w2 ⟨b', rb', rfl, q6, hb1, hb2, hb3, o2⟩
      exact hK.out _ _ ⟨_, rfl, o2, b', rb', rfl, q6, by simp at hsz; omega, by simp at hsz; omega, hb3⟩
    · refine .inr ?_
      intro vals wr hR hp K hK
      dsimp only at hK ⊢
      obtain ⟨p5, -⟩ := hp
      replace p5 := p5 rfl
      dsimp only at p5
      obtain ⟨b5, rb5, e5, q5, i5, j5, k5⟩ := p5
      rw [e5] at hK ⊢
      clear e5
      unfold RunsOp
      go_simp
      exact hK.out _ _ ⟨_, rfl, Only.refl _ _, b5, rb5, rfl, q5, i5, j5, k5⟩
    · refine .inr ?_
      intro vals wr hR hp K hK
      dsimp only at hK ⊢
      obtain ⟨p6, -⟩ := hp
      replace p6 := p6 rfl
      dsimp only at p6
      obtain ⟨b6, rb6, e6, q6, i6, j6, k6⟩ := p6
      rw [e6] at hK ⊢
      clear e6
      unfold RunsOp
      go_simp
      exact hK.out _ _ ⟨_, rfl, Only.refl _ _, b6, rb6, rfl, q6, i6, j6, k6⟩
    · exact .inl (by decide)
  case doneg =>
    intro vals wd hR hF
    have f7 : GrL w4.heap.size (growN l.size room) l.xs (vals 7) wd := hF 7 (by decide)
    have f8 : vals 8 = .int .i64 0 := hF 8 (by decide)
    obtain ⟨b', rb', e7, q6, hb1, hb2, hb3⟩ := f7
    rw [e7, f8]
    have o6 := (Only.refl [] w4).drew.trans hR (by simp)
    clear hF e7 f8 hR
    have hx5 := HX4.out
    have hn5 := HN4.out
    have ho5 := HO4.out
    have hx6 := o6.blk hx5 (by simp)
    have hn6 := hn5.keep o6
    have ho6 := ho5.trans o6 (by simp)
    have hq6l := q6.lt
    have hNr : 1 ≤ growN l.size room ∧ growN l.size room ≤ room ∧ l.size < growN l.size room := by unfold growN; omega
    obtain ⟨x0, x1, xl⟩ := hx6.facts2
    obtain ⟨g0, g1, g2, gl⟩ := hn6.blk.facts3
    have xf0 := hx6.frozen 0
    have xf1 := hx6.frozen 1
    have hwb := hx5.lt
    have HX6 := Lib.hid hx6
    have HN6 := Lib.hid hn6
    have HO6 := Lib.hid ho6
    have HQ6 := Lib.hid q6
    generalize growN l.size room = N at HQ6 hNr ⊢
    clear hx5 hn5 ho5 hx6 hn6 ho6 q6 o6
    go_wp2_with (fail)
    have oS : Only [w.heap.size] wd ((wd.setCell ⟨w.heap.size, 0, none⟩ (.pointer (some ⟨b', 0, none⟩))).setCell ⟨w.heap.size, 1, none⟩ (.int .i64 N)) := ((Only.refl [w.heap.size] wd).setCell (.inl (by simp)) _).setCell (.inl (by simp)) _
    have hx7 := (HX6.out.set_ 0 (.pointer (some ⟨b', 0, none⟩))).set_ 1 (.int .i64 N)
    have hn7 := HN6.out.only oS (fun y hy hm => by
      simp at hm
      subst hm
      rcases List.mem_cons.1 hy with h | hy
      · omega
      · rcases List.mem_cons.1 hy with h | hy
        · omega
        · obtain ⟨e, he, hx⟩ := List.mem_flatMap.1 hy
          have := hold e he _ hx
          omega)
    have hq7 := HQ6.out.only oS (by simp; omega) (by simp; omega)
    have ho7 := HO6.out.trans oS (fun y hy => .inr (by simp at hy; omega))
    have hown7 : ((wd.setCell ⟨w.heap.size, 0, none⟩ (.pointer (some ⟨b', 0, none⟩))).setCell ⟨w.heap.size, 1, none⟩ (.int .i64 N)).ownsMap Try.prog 50 RH bm Ls.length D := ownsMap_of hD (ho7.block bm hml (by simp))
    generalize (wd.setCell ⟨w.heap.size, 0, none⟩ (.pointer (some ⟨b', 0, none⟩))).setCell ⟨w.heap.size, 1, none⟩ (.int .i64 N) = w7 at oS hx7 hn7 hq7 ho7 hown7 ⊢
    clear x0 x1 xl g0 g1 g2 gl xf0 xf1 HX6 HN6 HQ6
    obtain ⟨x0, x1, xl⟩ := Blk.facts2 (a := .pointer (some ⟨b', 0, none⟩)) (b := .int .i64 N) hx7
    obtain ⟨g0, g1, g2, gl⟩ := hn7.blk.facts3
    have hs7 := oS.size
    have HX7 := Lib.hid hx7
    have HN7 := Lib.hid hn7
    have HO7 := Lib.hid ho7
    have HQ7 := Lib.hid hq7
    clear hx7 hn7 ho7 hq7 oS
    go_still_tail 8, (by kernel_rfl)
    change wpList _ _ _ _ _ w7.drew
    go_wp2_with (at_mapUpdate; refine wpList_mapUpdate_own _ rfl _ _ _ 56 rfl 50 61 law50 Try.underlying56 RH bm Ls.length D rfl hown7.drew (by unfold maxLen; omega) _ _ (kl a b) rfl rfl (key_of ha hb) (.held (lv b' N)) [] rfl ?_; intro w8 hown8 hgrow8; have o8 : Only [bm] w7 w8 := (Only.refl [bm] w7).drew.trans (Only.of_grownBy hgrow8) (fun _ h => .inl (by simpa using h)); have hx8 := o8.blk HX7.out (by simp; omega); clear x0 x1 xl g0 g1 g2 gl; obtain ⟨x0, x1, xl⟩ := Blk.facts2 (a := .pointer (some ⟨b', 0, none⟩)) (b := .int .i64 N) hx8; have HOW8 := Lib.hid hown8; have HO8 := Lib.hid o8; have HX8 := Lib.hid hx8; clear hown8 hgrow8 o8 hx8)
    have hP := HN7.out.put (c := w.heap.size) (l := ⟨b', rb', N, l.xs⟩) hBw hgl hml hold ha hb ⟨by dsimp only; omega, by dsimp only; omega⟩ ⟨by dsimp only; omega, by dsimp only; omega⟩ ⟨hNr.1, hNr.2.1⟩ HQ7.out HO8.out HLD.out HOW8.out
    have q8 := HQ7.out.only HO8.out (by simp; omega) (by simp; omega)
    have hs8 := HO8.out.size
    refine (push_ok q8 (by first | omega | (simp; omega)) v).mono ?_
    rintro e w9 ⟨rfl, rb2, hrb, q9, o9⟩
    have hT := hP.turn (l := ⟨b', rb', N, l.xs⟩) (l' := ⟨b', rb2, N, l.xs ++ [v]⟩) (by omega) (putL_in _ _ _) rfl rfl hrb (q9.rlt (by simp)) q9 o9
    have HT := Lib.hid hT
    have HO9 := Lib.hid (((HO7.out.mono (S' := netS bm Ls) (fun _ h => by simp at h)).trans HO8.out (fun y h => .inl (by simp at h; simp [h]))).trans o9 (fun y h => .inr (by simp at h; omega)))
    clear x0 x1 xl hT o9 q9 hP q8
    go_wp2_with (fail)
    go_ret
    exact ⟨rfl, ⟨b', rb', rb2, N, ⟨by omega, by have := HO7.out.size; have := HO8.out.size; omega⟩, HT.out⟩, HO9.out⟩
theorem len_nil_eq (w : World) : Calls Try.prog 19 #[.pointer none] w fun e w' => e = .returned (.int .i64 0) ∧ w = w' := by
  go_enter Try.func19, Try.ntmps19
  go_wp2_with (fail)
  go_ret
  exact ⟨rfl, rfl⟩
set_option maxHeartbeats 2000000 in
theorem send_new {B : Nat} {w : World} {g bm n room : Nat} {Ls : List (Pr × Lane)} (h : NB B w g bm n room Ls) (hBw : B ≤ w.heap.size) {a b : Int} (v : Int) (ha : I64 a) (hb : I64 b) (hgood : ¬ Bad n a b) (hk : keyB Ls (a, b) = false) (hlen : Ls.length ≤ 1048576) :
    Calls Try.prog 10 #[.pointer (some ⟨g, 0, none⟩), .int .i64 a, .int .i64 b, .int .i64 v] w fun e w' => e = .returned (.int .i64 0) ∧ (∃ b' rb1 rb' N, (w.heap.size ≤ b' ∧ w.heap.size ≤ rb') ∧ NB B w' g bm n room (turnL (putL Ls (a, b) ⟨b', rb1, N, []⟩) (a, b) ⟨b', rb', N, [v]⟩)) ∧ Only (netS bm Ls) w w' := by
  obtain ⟨g0, g1, g2, gl⟩ := h.blk.facts3
  obtain ⟨D, hD, hl⟩ := h.map
  have h1 : decide (a < 0) = false := by unfold Bad at hgood; simp; omega
  have h2 : decide ((n : Int) ≤ a) = false := by unfold Bad at hgood; simp; omega
  have h3 : decide (b < 0) = false := by unfold Bad at hgood; simp; omega
  have h4 : decide ((n : Int) ≤ b) = false := by unfold Bad at hgood; simp; omega
  have h5 : (a == b) = false := by unfold Bad at hgood; simp; omega
  have hdim := h.dims
  have hgm := h.gm
  have hgl := h.blk.lt
  have hml := h.mlt
  clear hgood

  have hat : D.atKey (kl a b) (.held lz) = .held lz := atKey_of_not_has (by rw [hl.has_ a b ha hb, hk]) _
  have hroom : 0 < room := by omega
  have hgr : decide ((room : Int) ≤ 0) = false := by simp; omega
  have hold : ∀ e ∈ Ls, ∀ x ∈ e.2.bs, x < w.heap.size := fun e he x hx => (h.lo e he x hx).2.1
  have HLD := Lib.hid hl
  have hbn := Blk.new w 61 #[.pointer none, .int .i64 0]
  have o0 : Only [] w (w.alloc (.cells #[.pointer none, .int .i64 0] 61)) := (Only.refl _ _).alloc _
  have HN := Lib.hid (h.keep o0)
  have HX := Lib.hid hbn
  have HO := Lib.hid o0
  obtain ⟨x0, x1, xl⟩ := hbn.facts2
  go_enter Try.func10, Try.ntmps10
  go_wp2_with (at_lookup; refine wpList_lookup_held _ rfl _ _ 56 rfl 50 61 law50 Try.underlying56 (zero61 _) bm Ls.length D rfl hD _ _ rfl (key_of ha hb) lz hat ?_)
  generalize hW : w.alloc (.cells #[.pointer none, .int .i64 0] 61) = w1 at *
  go_region_held3 (fun w' => w'.cell? ⟨w.heap.size, 0, none⟩ = some (.pointer none) ∧ w'.cell? ⟨w.heap.size, 1, none⟩ = some (.int .i64 0)) (first | (go_keep; done) | (refine ⟨?_, ?_⟩ <;> (go_simp; done)))
    (first | (go_at_call 19; refine (len_nil_eq _).mono ?_; rintro e w2 ⟨rfl, rfl⟩))

  go_wp2_with (fail)
  have hx3 := HX.out.drew
  have hn3 := HN.out.keep ((Only.refl [] w1).drew)
  have ho3 := HO.out.drew
  clear x0 x1 xl g0 g1 g2 gl
  generalize hw3 : w1.drew = w3 at *
  obtain ⟨x0, x1, xl⟩ := hx3.facts2
  obtain ⟨g0, g1, g2, gl⟩ := hn3.blk.facts3
  clear hw3
  go_wp2_with (fail)
  go_quiet (fail)
  generalize hw4 : w3.drewN _ = w4
  have o34 : Only [] w3 w4 := by rw [← hw4]; exact (Only.refl _ _).drewN _
  have HX4 := Lib.hid (o34.blk hx3 (by simp))
  have HN4 := Lib.hid (hn3.keep o34)
  have HO4 := Lib.hid (ho3.trans o34 (by simp))
  have h4w := HX4.out.lt
  clear x0 x1 xl g0 g1 g2 gl hw4 hx3 hn3 ho3 o34
  go_wp2_with (fail)
  have hgr2 : decide (room ≤ 0) = false := by simp; omega
  have hgr3 : decide (room = 0) = false := by simp; omega
  have hgr4 : decide ((room : Int) = 0) = false := by simp; omega
  try simp only [hgr2, hgr3, hgr4]
  clear hgr2 hgr hgr3 hgr4
  refine wp_region_factsD 9 [8] [] (fr := ?frg) (tl := ?tlg) (fun i v wv => match i with
    | 0 => v = .agg #[.pointer none, .int .i64 0]
    | 1 => v = .pointer (some ⟨g, 0, none⟩)
    | 2 => v = .pointer (some ⟨g, 0, none⟩)
    | 3 => v = .pointer (some ⟨g, 1, none⟩)
    | 4 => v = .int .i64 room
    | 5 => GrT w4.heap.size (growN 0 room) [] v wv
    | 6 => GrT w4.heap.size (growN 0 room) [] v wv
    | 7 => GrL w4.heap.size (growN 0 room) [] v wv
    | 8 => v = .int .i64 0
    | _ => True) (by kernel_rfl) (by kernel_rfl) (by kernel_rfl) (by kernel_rfl) (by kernel_rfl) (by kernel_rfl) (by decide) (fun _ _ _ _ _ h => h) ?htlg ?hfrg ?stabg ?detsg ?stepsg ?doneg
  case htlg => simp only [List.drop_succ_cons, List.drop_zero]; rfl
  case hfrg => intro vals; simp only [putAll, dstAt, Act.put, List.getElem?_toArray, List.getElem?_cons_zero, List.getElem?_cons_succ, Option.bind_some, List.setIfInBounds_toArray, List.set_cons_zero, List.set_cons_succ]; rfl
  case stabg =>
    intro i v wa wb h
    try dsimp only
    split <;> first | exact id | (exact fun hf => hf.only h)
  case detsg =>
    refine ⟨?_, trivial⟩
    · intro o ho vals wr hR hp
      cases ho
      obtain ⟨p6, -, -⟩ := hp
      replace p6 := p6 rfl
      dsimp only at p6
      dsimp only
      obtain ⟨b6, rb6, e6, q6, i6, j6, k6⟩ := p6
      rw [e6]
      refine ⟨.int .i64 0, Or.inl ⟨by rfl, fun wz => ?_⟩, rfl⟩
      go_simp
  case stepsg =>
    refine ⟨?_, ?_, ?_, ?_, ?_, ?_, ?_, ?_, ?_, trivial⟩
    · refine .inr ?_
      intro vals wr hR hp K hK
      dsimp only at hK ⊢
      clear hp
      unfold RunsOp
      have tb := hR.blk (Blk.drew HX4.out) (by simp)
      obtain ⟨y0, y1, yl⟩ := tb.facts2
      clear tb
      go_simp
      exact hK.out _ _ ⟨_, rfl, Only.refl _ _, rfl⟩
    · refine .inr ?_
      intro vals wr hR hp K hK
      dsimp only at hK ⊢
      clear hp
      unfold RunsOp
      go_simp
      exact hK.out _ _ ⟨_, rfl, Only.refl _ _, rfl⟩
    · refine .inr ?_
      intro vals wr hR hp K hK
      dsimp only at hK ⊢
      obtain ⟨p1, -⟩ := hp
      replace p1 := p1 rfl
      dsimp only at p1
      rw [p1] at hK ⊢
      clear p1
      unfold RunsOp
      go_simp
      exact hK.out _ _ ⟨_, rfl, Only.refl _ _, rfl⟩
    · refine .inr ?_
      intro vals wr hR hp K hK
      dsimp only at hK ⊢
      obtain ⟨p2, -⟩ := hp
      replace p2 := p2 rfl
      dsimp only at p2
      rw [p2] at hK ⊢
      clear p2
      unfold RunsOp
      go_simp
      exact hK.out _ _ ⟨_, rfl, Only.refl _ _, rfl⟩
    · refine .inr ?_
      intro vals wr hR hp K hK
      dsimp only at hK ⊢
      obtain ⟨p3, -⟩ := hp
      replace p3 := p3 rfl
      dsimp only at p3
      rw [p3] at hK ⊢
      clear p3
      unfold RunsOp
      have tg := hR.blk (Blk.drew HN4.out.blk) (by simp)
      obtain ⟨k0, k1, k2, kl'⟩ := tg.facts3
      clear tg
      go_simp
      exact hK.out _ _ ⟨_, rfl, Only.refl _ _, rfl⟩
    · refine .inr ?_
      intro vals wr hR hp K hK
      dsimp only at hK ⊢
      obtain ⟨p0, p4, -⟩ := hp
      replace p0 := p0 rfl
      replace p4 := p4 rfl
      dsimp only at p0 p4
      rw [p0, p4] at hK ⊢
      clear p0 p4
      unfold RunsOp
      have hsz := hR.size
      have ho8 : Only [] w wr := (Only.drew HO4.out).trans hR (by simp)
      go_simp
      refine (grown_nil hroom (by omega)).mono ?_
      rintro e w2 ⟨b', rb', rfl, q6, hb1, hb2, hb3, o2⟩
      exact hK.out _ _ ⟨_, rfl, o2, b', rb', rfl, q6, by simp at hsz; omega, by simp at hsz; omega, hb3⟩
    · refine .inr ?_
      intro vals wr hR hp K hK
      dsimp only at hK ⊢
      obtain ⟨p5, -⟩ := hp
      replace p5 := p5 rfl
      dsimp only at p5
      obtain ⟨b5, rb5, e5, q5, i5, j5, k5⟩ := p5
      rw [e5] at hK ⊢
      clear e5
      unfold RunsOp
      go_simp
      exact hK.out _ _ ⟨_, rfl, Only.refl _ _, b5, rb5, rfl, q5, i5, j5, k5⟩
    · refine .inr ?_
      intro vals wr hR hp K hK
      dsimp only at hK ⊢
      obtain ⟨p6, -⟩ := hp
      replace p6 := p6 rfl
      dsimp only at p6
      obtain ⟨b6, rb6, e6, q6, i6, j6, k6⟩ := p6
      rw [e6] at hK ⊢
      clear e6
      unfold RunsOp
      go_simp
      exact hK.out _ _ ⟨_, rfl, Only.refl _ _, b6, rb6, rfl, q6, i6, j6, k6⟩
    · exact .inl (by decide)
  case doneg =>
    intro vals wd hR hF
    have f7 : GrL w4.heap.size (growN 0 room) [] (vals 7) wd := hF 7 (by decide)
    have f8 : vals 8 = .int .i64 0 := hF 8 (by decide)
    obtain ⟨b', rb', e7, q6, hb1, hb2, hb3⟩ := f7
    rw [e7, f8]
    have o6 := (Only.refl [] w4).drew.trans hR (by simp)
    clear hF e7 f8 hR
    have hx5 := HX4.out
    have hn5 := HN4.out
    have ho5 := HO4.out
    have hx6 := o6.blk hx5 (by simp)
    have hn6 := hn5.keep o6
    have ho6 := ho5.trans o6 (by simp)
    have hq6l := q6.lt
    have hNr : 1 ≤ growN 0 room ∧ growN 0 room ≤ room ∧ 0 < growN 0 room := by unfold growN; omega
    obtain ⟨x0, x1, xl⟩ := hx6.facts2
    obtain ⟨g0, g1, g2, gl⟩ := hn6.blk.facts3
    have xf0 := hx6.frozen 0
    have xf1 := hx6.frozen 1
    have hwb := hx5.lt
    have HX6 := Lib.hid hx6
    have HN6 := Lib.hid hn6
    have HO6 := Lib.hid ho6
    have HQ6 := Lib.hid q6
    generalize growN 0 room = N at HQ6 hNr ⊢
    clear hx5 hn5 ho5 hx6 hn6 ho6 q6 o6
    go_wp2_with (fail)
    have oS : Only [w.heap.size] wd ((wd.setCell ⟨w.heap.size, 0, none⟩ (.pointer (some ⟨b', 0, none⟩))).setCell ⟨w.heap.size, 1, none⟩ (.int .i64 N)) := ((Only.refl [w.heap.size] wd).setCell (.inl (by simp)) _).setCell (.inl (by simp)) _
    have hx7 := (HX6.out.set_ 0 (.pointer (some ⟨b', 0, none⟩))).set_ 1 (.int .i64 N)
    have hn7 := HN6.out.only oS (fun y hy hm => by
      simp at hm
      subst hm
      rcases List.mem_cons.1 hy with h | hy
      · omega
      · rcases List.mem_cons.1 hy with h | hy
        · omega
        · obtain ⟨e, he, hx⟩ := List.mem_flatMap.1 hy
          have := hold e he _ hx
          omega)
    have hq7 := HQ6.out.only oS (by simp; omega) (by simp; omega)
    have ho7 := HO6.out.trans oS (fun y hy => .inr (by simp at hy; omega))
    have hown7 : ((wd.setCell ⟨w.heap.size, 0, none⟩ (.pointer (some ⟨b', 0, none⟩))).setCell ⟨w.heap.size, 1, none⟩ (.int .i64 N)).ownsMap Try.prog 50 RH bm Ls.length D := ownsMap_of hD (ho7.block bm hml (by simp))
    generalize (wd.setCell ⟨w.heap.size, 0, none⟩ (.pointer (some ⟨b', 0, none⟩))).setCell ⟨w.heap.size, 1, none⟩ (.int .i64 N) = w7 at oS hx7 hn7 hq7 ho7 hown7 ⊢
    clear x0 x1 xl g0 g1 g2 gl xf0 xf1 HX6 HN6 HQ6
    obtain ⟨x0, x1, xl⟩ := Blk.facts2 (a := .pointer (some ⟨b', 0, none⟩)) (b := .int .i64 N) hx7
    obtain ⟨g0, g1, g2, gl⟩ := hn7.blk.facts3
    have hs7 := oS.size
    have HX7 := Lib.hid hx7
    have HN7 := Lib.hid hn7
    have HO7 := Lib.hid ho7
    have HQ7 := Lib.hid hq7
    clear hx7 hn7 ho7 hq7 oS
    go_still_tail 8, (by kernel_rfl)
    change wpList _ _ _ _ _ w7.drew
    go_wp2_with (at_mapUpdate; refine wpList_mapUpdate_own _ rfl _ _ _ 56 rfl 50 61 law50 Try.underlying56 RH bm Ls.length D rfl hown7.drew (by unfold maxLen; omega) _ _ (kl a b) rfl rfl (key_of ha hb) (.held (lv b' N)) [] rfl ?_; intro w8 hown8 hgrow8; have o8 : Only [bm] w7 w8 := (Only.refl [bm] w7).drew.trans (Only.of_grownBy hgrow8) (fun _ h => .inl (by simpa using h)); have hx8 := o8.blk HX7.out (by simp; omega); clear x0 x1 xl g0 g1 g2 gl; obtain ⟨x0, x1, xl⟩ := Blk.facts2 (a := .pointer (some ⟨b', 0, none⟩)) (b := .int .i64 N) hx8; have HOW8 := Lib.hid hown8; have HO8 := Lib.hid o8; have HX8 := Lib.hid hx8; clear hown8 hgrow8 o8 hx8)
    have hP := HN7.out.put (c := w.heap.size) (l := ⟨b', rb', N, []⟩) hBw hgl hml hold ha hb ⟨by dsimp only; omega, by dsimp only; omega⟩ ⟨by dsimp only; omega, by dsimp only; omega⟩ ⟨hNr.1, hNr.2.1⟩ HQ7.out HO8.out HLD.out HOW8.out
    have q8 := HQ7.out.only HO8.out (by simp; omega) (by simp; omega)
    have hs8 := HO8.out.size
    refine (push_ok q8 (by first | omega | (simp; omega)) v).mono ?_
    rintro e w9 ⟨rfl, rb2, hrb, q9, o9⟩
    have hT := hP.turn (l := ⟨b', rb', N, []⟩) (l' := ⟨b', rb2, N, [] ++ [v]⟩) (by omega) (putL_in _ _ _) rfl rfl hrb (q9.rlt (by simp)) q9 o9
    have HT := Lib.hid hT
    have HO9 := Lib.hid (((HO7.out.mono (S' := netS bm Ls) (fun _ h => by simp at h)).trans HO8.out (fun y h => .inl (by simp at h; simp [h]))).trans o9 (fun y h => .inr (by simp at h; omega)))
    clear x0 x1 xl hT o9 q9 hP q8
    go_wp2_with (fail)
    go_ret
    exact ⟨rfl, ⟨b', rb', rb2, N, ⟨by omega, by have := HO7.out.size; have := HO8.out.size; omega⟩, HT.out⟩, HO9.out⟩
end Go.Proofs.Ytlhmhpopppfpkaa
