/- ahead, behind. -/
import Derived.Test.YtpedlapemgjgaaaSearch
import Derived.Test.YtpedlapemgjgaaaCmp
import Derived.Test.YtpedlapemgjgaaaSym
import Derived.Test.YtpedlapemgjgaaaFactsR
namespace Go.Proofs.Ytpedlapemgjgaaa
open Go.RowKit Go.Kx Go.Bag
set_option maxRecDepth 100000
theorem cmpZ_ge (x y : Int) : decide (0 ≤ cmpZ x y) = !decide (x < y) := by
  have := cmpZ_neg x y
  rw [← this]
  by_cases h : cmpZ x y < 0
  · rw [decide_eq_true h, decide_eq_false (by omega)]; rfl
  · rw [decide_eq_false h, decide_eq_true (by omega)]; rfl
section
variable {α : Type} (key : α → Int)
/-- how many are less -/
def aheadB (L : List α) (k : Int) : Nat := L.countP (fun e => decide (key e < k))
/-- how many are not greater -/
def behindB (L : List α) (k : Int) : Nat := L.countP (fun e => decide (key e ≤ k))
theorem count_at {β : Type} (L : List β) (d : β) (p : β → Bool) : (List.range L.length).countP (fun i => p (L.getD i d)) = L.countP p := by
  have h : (List.range L.length).map (fun i => L.getD i d) = L := by
    apply List.ext_getElem?
    intro i
    by_cases hi : i < L.length
    · simp [hi]
    · simp [hi]
  conv => rhs; rw [← h]
  rw [List.countP_map]
  rfl
end
set_option maxHeartbeats 4000000 in
theorem aheadcI {w : World} {A : Option Addr} {n c : Nat} {M : List Int} {x y : Int} {bl bx bc k : Nat} (hM : RowC w A (flat1 M)) (hl : Blk w bl 22 #[.slice A n c]) (hx : Blk w bx 3 #[.int .i64 x]) (hc : Blk w bc 26 #[.func (.func 11) #[] #[]]) (hn : M.length = n) (hy : M[k]? = some y) (_hn6 : n ≤ 1000000) :
    Calls Try.prog 48 #[.int .i64 k, .pointer (some ⟨bc, 0, none⟩), .pointer (some ⟨bl, 0, none⟩), .pointer (some ⟨bx, 0, none⟩)] w fun e w' => e = .returned (.bool (!decide (keyI y < keyI x))) ∧ Only [] w w' := by
  have hk : k < n := by rw [← hn]; exact (List.getElem?_eq_some_iff.1 hy).1
  obtain ⟨b, o, rfl, hb, r0⟩ := hM k _ (flat1_at hy)
  have HR0 := Lib.hid (And.intro hb r0)
  clear hb r0
  have HL := Lib.hid hl.facts1
  have HX := Lib.hid hx.facts1
  have HC := Lib.hid hc.facts1
  have HCA := Lib.hid (fun w => order_any y x w)
  obtain ⟨cz, hcz⟩ : ∃ cz, cmpZ (keyI y) (keyI x) = cz := ⟨_, rfl⟩
  have hcz2 : cmpZ y x = cz := hcz
  rw [hcz2] at HCA
  have HD := cmpZ_ge (keyI y) (keyI x)
  rw [hcz] at HD
  obtain ⟨lb, hlb⟩ : ∃ lb, (!decide (keyI y < keyI x)) = lb := ⟨_, rfl⟩
  rw [hlb] at HD ⊢
  have HLB := Lib.hid HD
  clear hM hl hx hc hcz hcz2 HD hlb hy hn
  go_enter Try.func48, Try.ntmps48
  go_wp2_with (fail)
  refine (wpIn_wide (n := 9)).1 ?_
  refine wpIn_region_relR 9 (Only []) (fr := ?frg) (tl := ?tlg) (fun iq v wv => match iq with
    | 0 => v = .func (.func 11) #[] #[]
    | 1 => v = .slice (some ⟨b, o, none⟩) n c
    | 2 => v = .int .i64 (k : Nat)
    | 3 => v = .pointer (some ⟨b, o + k, none⟩)
    | 4 => v = .int .i64 y
    | 5 => v = .int .i64 x
    | 6 => v = .int .i64 cz
    | 7 => v = .bool lb
    | 8 => v = .bool lb
    | _ => True) (.inl rfl) (by kernel_rfl) (by kernel_rfl) (by kernel_rfl) (by kernel_rfl) (by kernel_rfl) (by kernel_rfl) (by decide) ?htlg ?hfrg (Only.refl _ _) (fun _ _ _ h k => h.trans k (fun _ hx => .inl hx)) ?stabg ?stepsg ?doneg
  case htlg => simp only [List.drop_succ_cons, List.drop_zero]; rfl
  case hfrg => intro vals; simp only [putAll, dstAt, Act.put, List.getElem?_toArray, List.getElem?_cons_zero, List.getElem?_cons_succ, Option.bind_some, List.setIfInBounds_toArray, List.set_cons_zero, List.set_cons_succ]; rfl
  case stabg =>
    intro i v wa wb h
    try dsimp only
    split <;> first | exact id
  case stepsg =>
    refine ⟨?_, ?_, ?_, ?_, ?_, ?_, ?_, ?_, ?_, trivial⟩
    · intro vals wr hR hp K hK
      dsimp only at hK ⊢
      clear hp
      unfold RunsOp
      have k0 := (hR.cell (p := ⟨bc, 0, none⟩) HC.out.2 (by simp)).trans HC.out.1
      go_simp
      exact hK.out _ _ ⟨_, rfl, Only.refl _ _, rfl⟩
    · intro vals wr hR hp K hK
      dsimp only at hK ⊢
      clear hp
      unfold RunsOp
      have k0 := (hR.cell (p := ⟨bl, 0, none⟩) HL.out.2 (by simp)).trans HL.out.1
      go_simp
      exact hK.out _ _ ⟨_, rfl, Only.refl _ _, rfl⟩
    · intro vals wr hR hp K hK
      dsimp only at hK ⊢
      clear hp
      unfold RunsOp
      go_simp
      exact hK.out _ _ ⟨_, rfl, Only.refl _ _, rfl⟩
    · intro vals wr hR hp K hK
      dsimp only at hK ⊢
      obtain ⟨p1, p2, -⟩ := hp
      replace p1 := p1 rfl
      replace p2 := p2 rfl
      dsimp only at p1 p2
      rw [p1, p2] at hK ⊢
      clear p1 p2
      unfold RunsOp
      have i1 : (0 : Int) ≤ (k : Int) := by omega
      have i2 : (k : Int) < (n : Int) := by omega
      go_simp
      exact hK.out _ _ ⟨_, rfl, Only.refl _ _, rfl⟩
    · intro vals wr hR hp K hK
      dsimp only at hK ⊢
      obtain ⟨p3, -⟩ := hp
      replace p3 := p3 rfl
      dsimp only at p3
      rw [p3] at hK ⊢
      clear p3
      unfold RunsOp
      have k0 := (hR.cell (p := ⟨b, o + k, none⟩) HR0.out.1 (by simp)).trans HR0.out.2
      go_simp
      exact hK.out _ _ ⟨_, rfl, Only.refl _ _, rfl⟩
    · intro vals wr hR hp K hK
      dsimp only at hK ⊢
      clear hp
      unfold RunsOp
      have k0 := (hR.cell (p := ⟨bx, 0, none⟩) HX.out.2 (by simp)).trans HX.out.1
      go_simp
      exact hK.out _ _ ⟨_, rfl, Only.refl _ _, rfl⟩
    · intro vals wr hR hp K hK
      dsimp only at hK ⊢
      obtain ⟨p0, p4, p5, -⟩ := hp
      replace p0 := p0 rfl
      replace p4 := p4 rfl
      replace p5 := p5 rfl
      dsimp only at p0 p4 p5
      rw [p0, p4, p5] at hK ⊢
      clear p0 p4 p5
      unfold RunsOp
      go_simp
      refine (HCA.out _).mono ?_
      rintro e' w2 ⟨rfl, o2⟩
      exact hK.out _ _ ⟨_, rfl, o2, rfl⟩
    · intro vals wr hR hp K hK
      dsimp only at hK ⊢
      obtain ⟨p6, -⟩ := hp
      replace p6 := p6 rfl
      dsimp only at p6
      rw [p6] at hK ⊢
      clear p6
      unfold RunsOp
      have hlb := HLB.out
      go_simp
      exact hK.out _ _ ⟨_, rfl, Only.refl _ _, rfl⟩
    · intro vals wr hR hp K hK
      dsimp only at hK ⊢
      obtain ⟨p7, -, -, -, -, -, -, -, -, -, -⟩ := hp
      replace p7 := p7 rfl
      dsimp only at p7
      rw [p7] at hK ⊢
      clear p7
      unfold RunsOp
      go_simp
      exact hK.out _ _ ⟨_, rfl, Only.refl _ _, rfl⟩
  case doneg =>
    intro vals wd hR hF
    have f8 : vals 8 = .bool lb := hF 8 (by decide)
    rw [f8]
    clear f8
    have HOd := Lib.hid ((Only.refl [] w).drew.trans hR (by simp))
    clear hR hF
    gi_wp2_with (fail)
    go_wp2_with (fail)
    go_ret
    exact ⟨rfl, HOd.out⟩
set_option maxHeartbeats 4000000 in
theorem aheadI {w : World} {A : Option Addr} {n c : Nat} {M : List Int} {x : Int} (hM : RowC w A (flat1 M)) (hn : M.length = n) (hn6 : n ≤ 1000000) (hs : Sorted keyI M) :
    Calls Try.prog 38 #[.slice A n c, .int .i64 x, .func (.func 11) #[] #[]] w fun e w' => e = .returned (.int .i64 (aheadB keyI M (keyI x) : Nat)) ∧ Only [] w w' := by
  have o3 : Only [] w (((w.alloc (.cells #[.slice A n c] 22)).alloc (.cells #[.int .i64 x] 3)).alloc (.cells #[.func (.func 11) #[] #[]] 26)) := (((Only.refl [] w).alloc _).alloc _).alloc _
  have b0 : Blk (((w.alloc (.cells #[.slice A n c] 22)).alloc (.cells #[.int .i64 x] 3)).alloc (.cells #[.func (.func 11) #[] #[]] 26)) w.heap.size 22 #[.slice A n c] := ((Blk.new w 22 _).alloc _).alloc _
  have b1 : Blk (((w.alloc (.cells #[.slice A n c] 22)).alloc (.cells #[.int .i64 x] 3)).alloc (.cells #[.func (.func 11) #[] #[]] 26)) (w.heap.size + 1) 3 #[.int .i64 x] := by have h := (Blk.new (w.alloc (.cells #[.slice A n c] 22)) 3 #[.int .i64 x]).alloc (.cells #[.func (.func 11) #[] #[]] 26); simpa using h
  have b2 : Blk (((w.alloc (.cells #[.slice A n c] 22)).alloc (.cells #[.int .i64 x] 3)).alloc (.cells #[.func (.func 11) #[] #[]] 26)) (w.heap.size + 2) 26 #[.func (.func 11) #[] #[]] := by have h := Blk.new ((w.alloc (.cells #[.slice A n c] 22)).alloc (.cells #[.int .i64 x] 3)) 26 #[.func (.func 11) #[] #[]]; simpa using h
  have hM3 := hM.only o3
  have hS := search_any 48 #[.pointer (some ⟨w.heap.size + 2, 0, none⟩), .pointer (some ⟨w.heap.size, 0, none⟩), .pointer (some ⟨w.heap.size + 1, 0, none⟩)] M.length (fun i => (fun y => !decide (keyI y < keyI x)) (M.getD i x)) _ (enters Try.func48 (by kernel_rfl) rfl) (by omega)
    (fun W i hi o => aheadcI (y := M.getD i x) (hM3.only o) (o.blk b0 (by simp)) (o.blk b1 (by simp)) (o.blk b2 (by simp)) hn (by simp [List.getD, hi]) hn6)
    (fun i j hij hj hi => by
      have h1 : M[i]? = some (M.getD i x) := by simp [List.getD, show i < M.length by omega]
      have h2 : M[j]? = some (M.getD j x) := by simp [List.getD, hj]
      have h3 := at_mono hs hij h1 h2
      clear h1 h2
      revert hi h3
      dsimp only
      generalize M.getD i x = u
      generalize M.getD j x = v
      intro hi h3
      simp at hi ⊢
      omega)
  have hcnt : (List.range M.length).countP (fun i => !(fun i => (fun y => !decide (keyI y < keyI x)) (M.getD i x)) i) = aheadB keyI M (keyI x) := by
    refine (count_at M x (fun y => !(!decide (keyI y < keyI x)))).trans ?_
    unfold aheadB
    congr 1
    funext y
    by_cases h : keyI y < keyI x <;> simp [h] <;> omega
  rw [hcnt, hn] at hS
  have HS := Lib.hid hS
  have HO := Lib.hid o3
  clear hS hcnt b0 b1 b2 hM3 o3 hM hs hn
  generalize aheadB keyI M (keyI x) = r at HS ⊢
  go_enter Try.func38, Try.ntmps38
  go_wp2_with (fail)
  refine HS.out.mono ?_
  rintro e w3 ⟨rfl, o3⟩
  go_wp2_with (fail)
  go_ret
  exact ⟨rfl, HO.out.trans o3 (by simp)⟩
set_option maxHeartbeats 4000000 in
theorem behindcI {w : World} {A : Option Addr} {n c : Nat} {M : List Int} {x y : Int} {bl bx bc k : Nat} (hM : RowC w A (flat1 M)) (hl : Blk w bl 22 #[.slice A n c]) (hx : Blk w bx 3 #[.int .i64 x]) (hc : Blk w bc 26 #[.func (.func 11) #[] #[]]) (hn : M.length = n) (hy : M[k]? = some y) (_hn6 : n ≤ 1000000) :
    Calls Try.prog 47 #[.int .i64 k, .pointer (some ⟨bc, 0, none⟩), .pointer (some ⟨bl, 0, none⟩), .pointer (some ⟨bx, 0, none⟩)] w fun e w' => e = .returned (.bool (decide (keyI x < keyI y))) ∧ Only [] w w' := by
  have hk : k < n := by rw [← hn]; exact (List.getElem?_eq_some_iff.1 hy).1
  obtain ⟨b, o, rfl, hb, r0⟩ := hM k _ (flat1_at hy)
  have HR0 := Lib.hid (And.intro hb r0)
  clear hb r0
  have HL := Lib.hid hl.facts1
  have HX := Lib.hid hx.facts1
  have HC := Lib.hid hc.facts1
  have HCA := Lib.hid (fun w => order_any y x w)
  obtain ⟨cz, hcz⟩ : ∃ cz, cmpZ (keyI y) (keyI x) = cz := ⟨_, rfl⟩
  have hcz2 : cmpZ y x = cz := hcz
  rw [hcz2] at HCA
  have HD := cmpZ_pos (keyI y) (keyI x)
  rw [hcz] at HD
  obtain ⟨lb, hlb⟩ : ∃ lb, (decide (keyI x < keyI y)) = lb := ⟨_, rfl⟩
  rw [hlb] at HD ⊢
  have HLB := Lib.hid HD
  clear hM hl hx hc hcz hcz2 HD hlb hy hn
  go_enter Try.func47, Try.ntmps47
  go_wp2_with (fail)
  refine (wpIn_wide (n := 9)).1 ?_
  refine wpIn_region_relR 9 (Only []) (fr := ?frg) (tl := ?tlg) (fun iq v wv => match iq with
    | 0 => v = .func (.func 11) #[] #[]
    | 1 => v = .slice (some ⟨b, o, none⟩) n c
    | 2 => v = .int .i64 (k : Nat)
    | 3 => v = .pointer (some ⟨b, o + k, none⟩)
    | 4 => v = .int .i64 y
    | 5 => v = .int .i64 x
    | 6 => v = .int .i64 cz
    | 7 => v = .bool lb
    | 8 => v = .bool lb
    | _ => True) (.inl rfl) (by kernel_rfl) (by kernel_rfl) (by kernel_rfl) (by kernel_rfl) (by kernel_rfl) (by kernel_rfl) (by decide) ?htlg ?hfrg (Only.refl _ _) (fun _ _ _ h k => h.trans k (fun _ hx => .inl hx)) ?stabg ?stepsg ?doneg
  case htlg => simp only [List.drop_succ_cons, List.drop_zero]; rfl
  case hfrg => intro vals; simp only [putAll, dstAt, Act.put, List.getElem?_toArray, List.getElem?_cons_zero, List.getElem?_cons_succ, Option.bind_some, List.setIfInBounds_toArray, List.set_cons_zero, List.set_cons_succ]; rfl
  case stabg =>
    intro i v wa wb h
    try dsimp only
    split <;> first | exact id
  case stepsg =>
    refine ⟨?_, ?_, ?_, ?_, ?_, ?_, ?_, ?_, ?_, trivial⟩
    · intro vals wr hR hp K hK
      dsimp only at hK ⊢
      clear hp
      unfold RunsOp
      have k0 := (hR.cell (p := ⟨bc, 0, none⟩) HC.out.2 (by simp)).trans HC.out.1
      go_simp
      exact hK.out _ _ ⟨_, rfl, Only.refl _ _, rfl⟩
    · intro vals wr hR hp K hK
      dsimp only at hK ⊢
      clear hp
      unfold RunsOp
      have k0 := (hR.cell (p := ⟨bl, 0, none⟩) HL.out.2 (by simp)).trans HL.out.1
      go_simp
      exact hK.out _ _ ⟨_, rfl, Only.refl _ _, rfl⟩
    · intro vals wr hR hp K hK
      dsimp only at hK ⊢
      clear hp
      unfold RunsOp
      go_simp
      exact hK.out _ _ ⟨_, rfl, Only.refl _ _, rfl⟩
    · intro vals wr hR hp K hK
      dsimp only at hK ⊢
      obtain ⟨p1, p2, -⟩ := hp
      replace p1 := p1 rfl
      replace p2 := p2 rfl
      dsimp only at p1 p2
      rw [p1, p2] at hK ⊢
      clear p1 p2
      unfold RunsOp
      have i1 : (0 : Int) ≤ (k : Int) := by omega
      have i2 : (k : Int) < (n : Int) := by omega
      go_simp
      exact hK.out _ _ ⟨_, rfl, Only.refl _ _, rfl⟩
    · intro vals wr hR hp K hK
      dsimp only at hK ⊢
      obtain ⟨p3, -⟩ := hp
      replace p3 := p3 rfl
      dsimp only at p3
      rw [p3] at hK ⊢
      clear p3
      unfold RunsOp
      have k0 := (hR.cell (p := ⟨b, o + k, none⟩) HR0.out.1 (by simp)).trans HR0.out.2
      go_simp
      exact hK.out _ _ ⟨_, rfl, Only.refl _ _, rfl⟩
    · intro vals wr hR hp K hK
      dsimp only at hK ⊢
      clear hp
      unfold RunsOp
      have k0 := (hR.cell (p := ⟨bx, 0, none⟩) HX.out.2 (by simp)).trans HX.out.1
      go_simp
      exact hK.out _ _ ⟨_, rfl, Only.refl _ _, rfl⟩
    · intro vals wr hR hp K hK
      dsimp only at hK ⊢
      obtain ⟨p0, p4, p5, -⟩ := hp
      replace p0 := p0 rfl
      replace p4 := p4 rfl
      replace p5 := p5 rfl
      dsimp only at p0 p4 p5
      rw [p0, p4, p5] at hK ⊢
      clear p0 p4 p5
      unfold RunsOp
      go_simp
      refine (HCA.out _).mono ?_
      rintro e' w2 ⟨rfl, o2⟩
      exact hK.out _ _ ⟨_, rfl, o2, rfl⟩
    · intro vals wr hR hp K hK
      dsimp only at hK ⊢
      obtain ⟨p6, -⟩ := hp
      replace p6 := p6 rfl
      dsimp only at p6
      rw [p6] at hK ⊢
      clear p6
      unfold RunsOp
      have hlb := HLB.out
      go_simp
      exact hK.out _ _ ⟨_, rfl, Only.refl _ _, rfl⟩
    · intro vals wr hR hp K hK
      dsimp only at hK ⊢
      obtain ⟨p7, -, -, -, -, -, -, -, -, -, -⟩ := hp
      replace p7 := p7 rfl
      dsimp only at p7
      rw [p7] at hK ⊢
      clear p7
      unfold RunsOp
      go_simp
      exact hK.out _ _ ⟨_, rfl, Only.refl _ _, rfl⟩
  case doneg =>
    intro vals wd hR hF
    have f8 : vals 8 = .bool lb := hF 8 (by decide)
    rw [f8]
    clear f8
    have HOd := Lib.hid ((Only.refl [] w).drew.trans hR (by simp))
    clear hR hF
    gi_wp2_with (fail)
    go_wp2_with (fail)
    go_ret
    exact ⟨rfl, HOd.out⟩
set_option maxHeartbeats 4000000 in
theorem behindI {w : World} {A : Option Addr} {n c : Nat} {M : List Int} {x : Int} (hM : RowC w A (flat1 M)) (hn : M.length = n) (hn6 : n ≤ 1000000) (hs : Sorted keyI M) :
    Calls Try.prog 37 #[.slice A n c, .int .i64 x, .func (.func 11) #[] #[]] w fun e w' => e = .returned (.int .i64 (behindB keyI M (keyI x) : Nat)) ∧ Only [] w w' := by
  have o3 : Only [] w (((w.alloc (.cells #[.slice A n c] 22)).alloc (.cells #[.int .i64 x] 3)).alloc (.cells #[.func (.func 11) #[] #[]] 26)) := (((Only.refl [] w).alloc _).alloc _).alloc _
  have b0 : Blk (((w.alloc (.cells #[.slice A n c] 22)).alloc (.cells #[.int .i64 x] 3)).alloc (.cells #[.func (.func 11) #[] #[]] 26)) w.heap.size 22 #[.slice A n c] := ((Blk.new w 22 _).alloc _).alloc _
  have b1 : Blk (((w.alloc (.cells #[.slice A n c] 22)).alloc (.cells #[.int .i64 x] 3)).alloc (.cells #[.func (.func 11) #[] #[]] 26)) (w.heap.size + 1) 3 #[.int .i64 x] := by have h := (Blk.new (w.alloc (.cells #[.slice A n c] 22)) 3 #[.int .i64 x]).alloc (.cells #[.func (.func 11) #[] #[]] 26); simpa using h
  have b2 : Blk (((w.alloc (.cells #[.slice A n c] 22)).alloc (.cells #[.int .i64 x] 3)).alloc (.cells #[.func (.func 11) #[] #[]] 26)) (w.heap.size + 2) 26 #[.func (.func 11) #[] #[]] := by have h := Blk.new ((w.alloc (.cells #[.slice A n c] 22)).alloc (.cells #[.int .i64 x] 3)) 26 #[.func (.func 11) #[] #[]]; simpa using h
  have hM3 := hM.only o3
  have hS := search_any 47 #[.pointer (some ⟨w.heap.size + 2, 0, none⟩), .pointer (some ⟨w.heap.size, 0, none⟩), .pointer (some ⟨w.heap.size + 1, 0, none⟩)] M.length (fun i => (fun y => decide (keyI x < keyI y)) (M.getD i x)) _ (enters Try.func47 (by kernel_rfl) rfl) (by omega)
    (fun W i hi o => behindcI (y := M.getD i x) (hM3.only o) (o.blk b0 (by simp)) (o.blk b1 (by simp)) (o.blk b2 (by simp)) hn (by simp [List.getD, hi]) hn6)
    (fun i j hij hj hi => by
      have h1 : M[i]? = some (M.getD i x) := by simp [List.getD, show i < M.length by omega]
      have h2 : M[j]? = some (M.getD j x) := by simp [List.getD, hj]
      have h3 := at_mono hs hij h1 h2
      clear h1 h2
      revert hi h3
      dsimp only
      generalize M.getD i x = u
      generalize M.getD j x = v
      intro hi h3
      simp at hi ⊢
      omega)
  have hcnt : (List.range M.length).countP (fun i => !(fun i => (fun y => decide (keyI x < keyI y)) (M.getD i x)) i) = behindB keyI M (keyI x) := by
    refine (count_at M x (fun y => !(decide (keyI x < keyI y)))).trans ?_
    unfold behindB
    congr 1
    funext y
    by_cases h : keyI y ≤ keyI x <;> simp [h] <;> omega
  rw [hcnt, hn] at hS
  have HS := Lib.hid hS
  have HO := Lib.hid o3
  clear hS hcnt b0 b1 b2 hM3 o3 hM hs hn
  generalize behindB keyI M (keyI x) = r at HS ⊢
  go_enter Try.func37, Try.ntmps37
  go_wp2_with (fail)
  refine HS.out.mono ?_
  rintro e w3 ⟨rfl, o3⟩
  go_wp2_with (fail)
  go_ret
  exact ⟨rfl, HO.out.trans o3 (by simp)⟩
set_option maxHeartbeats 4000000 in
theorem aheadcJ {w : World} {A : Option Addr} {n c : Nat} {M : List Ent} {x y : Ent} {bl bx bc k : Nat} (hM : RowC w A (flat2 M)) (hl : Blk w bl 51 #[.slice A n c]) (hx : Blk w bx 49 #[.int .i64 x.1, .int .i64 x.2]) (hc : Blk w bc 50 #[.func (.func 22) #[] #[]]) (hn : M.length = n) (hy : M[k]? = some y) (_hn6 : n ≤ 1000000) :
    Calls Try.prog 51 #[.int .i64 k, .pointer (some ⟨bc, 0, none⟩), .pointer (some ⟨bl, 0, none⟩), .pointer (some ⟨bx, 0, none⟩)] w fun e w' => e = .returned (.bool (!decide (keyJ y < keyJ x))) ∧ Only [] w w' := by
  have hk : k < n := by rw [← hn]; exact (List.getElem?_eq_some_iff.1 hy).1
  obtain ⟨b, o, rfl, hb, r0⟩ := hM (k * 2) _ (flat2_at _ _ _ hy).1
  obtain ⟨b', o', hA, -, r1⟩ := hM (k * 2 + 1) _ (flat2_at _ _ _ hy).2
  cases hA
  have HR0 := Lib.hid (And.intro hb r0)
  have HR1 := Lib.hid (show w.cell? ⟨b, o + k * 2 + 1, none⟩ = some (.int .i64 y.2) from r1)
  clear hb r0 r1
  have HL := Lib.hid hl.facts1
  have HX := Lib.hid hx.facts2
  have HC := Lib.hid hc.facts1
  have HCA := Lib.hid (fun w => level_any y.1 y.2 x.1 x.2 w)
  obtain ⟨cz, hcz⟩ : ∃ cz, cmpZ (keyJ y) (keyJ x) = cz := ⟨_, rfl⟩
  have hcz2 : cmpZ y.1 x.1 = cz := hcz
  rw [hcz2] at HCA
  have HD := cmpZ_ge (keyJ y) (keyJ x)
  rw [hcz] at HD
  obtain ⟨lb, hlb⟩ : ∃ lb, (!decide (keyJ y < keyJ x)) = lb := ⟨_, rfl⟩
  rw [hlb] at HD ⊢
  have HLB := Lib.hid HD
  clear hM hl hx hc hcz hcz2 HD hlb hy hn
  go_enter Try.func51, Try.ntmps51
  go_wp2_with (fail)
  refine (wpIn_wide (n := 9)).1 ?_
  refine wpIn_region_relR 9 (Only []) (fr := ?frg) (tl := ?tlg) (fun iq v wv => match iq with
    | 0 => v = .func (.func 22) #[] #[]
    | 1 => v = .slice (some ⟨b, o, none⟩) n c
    | 2 => v = .int .i64 (k : Nat)
    | 3 => v = .pointer (some ⟨b, o + k * 2, none⟩)
    | 4 => v = .agg #[.int .i64 y.1, .int .i64 y.2]
    | 5 => v = .agg #[.int .i64 x.1, .int .i64 x.2]
    | 6 => v = .int .i64 cz
    | 7 => v = .bool lb
    | 8 => v = .bool lb
    | _ => True) (.inl rfl) (by kernel_rfl) (by kernel_rfl) (by kernel_rfl) (by kernel_rfl) (by kernel_rfl) (by kernel_rfl) (by decide) ?htlg ?hfrg (Only.refl _ _) (fun _ _ _ h k => h.trans k (fun _ hx => .inl hx)) ?stabg ?stepsg ?doneg
  case htlg => simp only [List.drop_succ_cons, List.drop_zero]; rfl
  case hfrg => intro vals; simp only [putAll, dstAt, Act.put, List.getElem?_toArray, List.getElem?_cons_zero, List.getElem?_cons_succ, Option.bind_some, List.setIfInBounds_toArray, List.set_cons_zero, List.set_cons_succ]; rfl
  case stabg =>
    intro i v wa wb h
    try dsimp only
    split <;> first | exact id
  case stepsg =>
    refine ⟨?_, ?_, ?_, ?_, ?_, ?_, ?_, ?_, ?_, trivial⟩
    · intro vals wr hR hp K hK
      dsimp only at hK ⊢
      clear hp
      unfold RunsOp
      have k0 := (hR.cell (p := ⟨bc, 0, none⟩) HC.out.2 (by simp)).trans HC.out.1
      go_simp
      exact hK.out _ _ ⟨_, rfl, Only.refl _ _, rfl⟩
    · intro vals wr hR hp K hK
      dsimp only at hK ⊢
      clear hp
      unfold RunsOp
      have k0 := (hR.cell (p := ⟨bl, 0, none⟩) HL.out.2 (by simp)).trans HL.out.1
      go_simp
      exact hK.out _ _ ⟨_, rfl, Only.refl _ _, rfl⟩
    · intro vals wr hR hp K hK
      dsimp only at hK ⊢
      clear hp
      unfold RunsOp
      go_simp
      exact hK.out _ _ ⟨_, rfl, Only.refl _ _, rfl⟩
    · intro vals wr hR hp K hK
      dsimp only at hK ⊢
      obtain ⟨p1, p2, -⟩ := hp
      replace p1 := p1 rfl
      replace p2 := p2 rfl
      dsimp only at p1 p2
      rw [p1, p2] at hK ⊢
      clear p1 p2
      unfold RunsOp
      have i1 : (0 : Int) ≤ (k : Int) := by omega
      have i2 : (k : Int) < (n : Int) := by omega
      go_simp
      exact hK.out _ _ ⟨_, rfl, Only.refl _ _, rfl⟩
    · intro vals wr hR hp K hK
      dsimp only at hK ⊢
      obtain ⟨p3, -⟩ := hp
      replace p3 := p3 rfl
      dsimp only at p3
      rw [p3] at hK ⊢
      clear p3
      unfold RunsOp
      have k0 := (hR.cell (p := ⟨b, o + k * 2, none⟩) HR0.out.1 (by simp)).trans HR0.out.2
      have k1 := (hR.cell (p := ⟨b, o + k * 2 + 1, none⟩) HR0.out.1 (by simp)).trans HR1.out
      go_simp
      exact hK.out _ _ ⟨_, rfl, Only.refl _ _, rfl⟩
    · intro vals wr hR hp K hK
      dsimp only at hK ⊢
      clear hp
      unfold RunsOp
      have k0 := (hR.cell (p := ⟨bx, 0, none⟩) HX.out.2.2 (by simp)).trans HX.out.1
      have k1 := (hR.cell (p := ⟨bx, 1, none⟩) HX.out.2.2 (by simp)).trans HX.out.2.1
      go_simp
      exact hK.out _ _ ⟨_, rfl, Only.refl _ _, rfl⟩
    · intro vals wr hR hp K hK
      dsimp only at hK ⊢
      obtain ⟨p0, p4, p5, -⟩ := hp
      replace p0 := p0 rfl
      replace p4 := p4 rfl
      replace p5 := p5 rfl
      dsimp only at p0 p4 p5
      rw [p0, p4, p5] at hK ⊢
      clear p0 p4 p5
      unfold RunsOp
      go_simp
      refine (HCA.out _).mono ?_
      rintro e' w2 ⟨rfl, o2⟩
      exact hK.out _ _ ⟨_, rfl, o2, rfl⟩
    · intro vals wr hR hp K hK
      dsimp only at hK ⊢
      obtain ⟨p6, -⟩ := hp
      replace p6 := p6 rfl
      dsimp only at p6
      rw [p6] at hK ⊢
      clear p6
      unfold RunsOp
      have hlb := HLB.out
      go_simp
      exact hK.out _ _ ⟨_, rfl, Only.refl _ _, rfl⟩
    · intro vals wr hR hp K hK
      dsimp only at hK ⊢
      obtain ⟨p7, -, -, -, -, -, -, -, -, -, -⟩ := hp
      replace p7 := p7 rfl
      dsimp only at p7
      rw [p7] at hK ⊢
      clear p7
      unfold RunsOp
      go_simp
      exact hK.out _ _ ⟨_, rfl, Only.refl _ _, rfl⟩
  case doneg =>
    intro vals wd hR hF
    have f8 : vals 8 = .bool lb := hF 8 (by decide)
    rw [f8]
    clear f8
    have HOd := Lib.hid ((Only.refl [] w).drew.trans hR (by simp))
    clear hR hF
    gi_wp2_with (fail)
    go_wp2_with (fail)
    go_ret
    exact ⟨rfl, HOd.out⟩
set_option maxHeartbeats 4000000 in
theorem aheadJ {w : World} {A : Option Addr} {n c : Nat} {M : List Ent} {x : Ent} (hM : RowC w A (flat2 M)) (hn : M.length = n) (hn6 : n ≤ 1000000) (hs : Sorted keyJ M) :
    Calls Try.prog 43 #[.slice A n c, .agg #[.int .i64 x.1, .int .i64 x.2], .func (.func 22) #[] #[]] w fun e w' => e = .returned (.int .i64 (aheadB keyJ M (keyJ x) : Nat)) ∧ Only [] w w' := by
  have o3 : Only [] w (((w.alloc (.cells #[.slice A n c] 51)).alloc (.cells #[.int .i64 x.1, .int .i64 x.2] 49)).alloc (.cells #[.func (.func 22) #[] #[]] 50)) := (((Only.refl [] w).alloc _).alloc _).alloc _
  have b0 : Blk (((w.alloc (.cells #[.slice A n c] 51)).alloc (.cells #[.int .i64 x.1, .int .i64 x.2] 49)).alloc (.cells #[.func (.func 22) #[] #[]] 50)) w.heap.size 51 #[.slice A n c] := ((Blk.new w 51 _).alloc _).alloc _
  have b1 : Blk (((w.alloc (.cells #[.slice A n c] 51)).alloc (.cells #[.int .i64 x.1, .int .i64 x.2] 49)).alloc (.cells #[.func (.func 22) #[] #[]] 50)) (w.heap.size + 1) 49 #[.int .i64 x.1, .int .i64 x.2] := by have h := (Blk.new (w.alloc (.cells #[.slice A n c] 51)) 49 #[.int .i64 x.1, .int .i64 x.2]).alloc (.cells #[.func (.func 22) #[] #[]] 50); simpa using h
  have b2 : Blk (((w.alloc (.cells #[.slice A n c] 51)).alloc (.cells #[.int .i64 x.1, .int .i64 x.2] 49)).alloc (.cells #[.func (.func 22) #[] #[]] 50)) (w.heap.size + 2) 50 #[.func (.func 22) #[] #[]] := by have h := Blk.new ((w.alloc (.cells #[.slice A n c] 51)).alloc (.cells #[.int .i64 x.1, .int .i64 x.2] 49)) 50 #[.func (.func 22) #[] #[]]; simpa using h
  have hM3 := hM.only o3
  have hS := search_any 51 #[.pointer (some ⟨w.heap.size + 2, 0, none⟩), .pointer (some ⟨w.heap.size, 0, none⟩), .pointer (some ⟨w.heap.size + 1, 0, none⟩)] M.length (fun i => (fun y => !decide (keyJ y < keyJ x)) (M.getD i x)) _ (enters Try.func51 (by kernel_rfl) rfl) (by omega)
    (fun W i hi o => aheadcJ (y := M.getD i x) (hM3.only o) (o.blk b0 (by simp)) (o.blk b1 (by simp)) (o.blk b2 (by simp)) hn (by simp [List.getD, hi]) hn6)
    (fun i j hij hj hi => by
      have h1 : M[i]? = some (M.getD i x) := by simp [List.getD, show i < M.length by omega]
      have h2 : M[j]? = some (M.getD j x) := by simp [List.getD, hj]
      have h3 := at_mono hs hij h1 h2
      clear h1 h2
      revert hi h3
      dsimp only
      generalize M.getD i x = u
      generalize M.getD j x = v
      intro hi h3
      simp at hi ⊢
      omega)
  have hcnt : (List.range M.length).countP (fun i => !(fun i => (fun y => !decide (keyJ y < keyJ x)) (M.getD i x)) i) = aheadB keyJ M (keyJ x) := by
    refine (count_at M x (fun y => !(!decide (keyJ y < keyJ x)))).trans ?_
    unfold aheadB
    congr 1
    funext y
    by_cases h : keyJ y < keyJ x <;> simp [h] <;> omega
  rw [hcnt, hn] at hS
  have HS := Lib.hid hS
  have HO := Lib.hid o3
  clear hS hcnt b0 b1 b2 hM3 o3 hM hs hn
  generalize aheadB keyJ M (keyJ x) = r at HS ⊢
  go_enter Try.func43, Try.ntmps43
  go_wp2_with (fail)
  refine HS.out.mono ?_
  rintro e w3 ⟨rfl, o3⟩
  go_wp2_with (fail)
  go_ret
  exact ⟨rfl, HO.out.trans o3 (by simp)⟩
set_option maxHeartbeats 4000000 in
theorem behindcJ {w : World} {A : Option Addr} {n c : Nat} {M : List Ent} {x y : Ent} {bl bx bc k : Nat} (hM : RowC w A (flat2 M)) (hl : Blk w bl 51 #[.slice A n c]) (hx : Blk w bx 49 #[.int .i64 x.1, .int .i64 x.2]) (hc : Blk w bc 50 #[.func (.func 22) #[] #[]]) (hn : M.length = n) (hy : M[k]? = some y) (_hn6 : n ≤ 1000000) :
    Calls Try.prog 50 #[.int .i64 k, .pointer (some ⟨bc, 0, none⟩), .pointer (some ⟨bl, 0, none⟩), .pointer (some ⟨bx, 0, none⟩)] w fun e w' => e = .returned (.bool (decide (keyJ x < keyJ y))) ∧ Only [] w w' := by
  have hk : k < n := by rw [← hn]; exact (List.getElem?_eq_some_iff.1 hy).1
  obtain ⟨b, o, rfl, hb, r0⟩ := hM (k * 2) _ (flat2_at _ _ _ hy).1
  obtain ⟨b', o', hA, -, r1⟩ := hM (k * 2 + 1) _ (flat2_at _ _ _ hy).2
  cases hA
  have HR0 := Lib.hid (And.intro hb r0)
  have HR1 := Lib.hid (show w.cell? ⟨b, o + k * 2 + 1, none⟩ = some (.int .i64 y.2) from r1)
  clear hb r0 r1
  have HL := Lib.hid hl.facts1
  have HX := Lib.hid hx.facts2
  have HC := Lib.hid hc.facts1
  have HCA := Lib.hid (fun w => level_any y.1 y.2 x.1 x.2 w)
  obtain ⟨cz, hcz⟩ : ∃ cz, cmpZ (keyJ y) (keyJ x) = cz := ⟨_, rfl⟩
  have hcz2 : cmpZ y.1 x.1 = cz := hcz
  rw [hcz2] at HCA
  have HD := cmpZ_pos (keyJ y) (keyJ x)
  rw [hcz] at HD
  obtain ⟨lb, hlb⟩ : ∃ lb, (decide (keyJ x < keyJ y)) = lb := ⟨_, rfl⟩
  rw [hlb] at HD ⊢
  have HLB := Lib.hid HD
  clear hM hl hx hc hcz hcz2 HD hlb hy hn
  go_enter Try.func50, Try.ntmps50
  go_wp2_with (fail)
  refine (wpIn_wide (n := 9)).1 ?_
  refine wpIn_region_relR 9 (Only []) (fr := ?frg) (tl := ?tlg) (fun iq v wv => match iq with
    | 0 => v = .func (.func 22) #[] #[]
    | 1 => v = .slice (some ⟨b, o, none⟩) n c
    | 2 => v = .int .i64 (k : Nat)
    | 3 => v = .pointer (some ⟨b, o + k * 2, none⟩)
    | 4 => v = .agg #[.int .i64 y.1, .int .i64 y.2]
    | 5 => v = .agg #[.int .i64 x.1, .int .i64 x.2]
    | 6 => v = .int .i64 cz
    | 7 => v = .bool lb
    | 8 => v = .bool lb
    | _ => True) (.inl rfl) (by kernel_rfl) (by kernel_rfl) (by kernel_rfl) (by kernel_rfl) (by kernel_rfl) (by kernel_rfl) (by decide) ?htlg ?hfrg (Only.refl _ _) (fun _ _ _ h k => h.trans k (fun _ hx => .inl hx)) ?stabg ?stepsg ?doneg
  case htlg => simp only [List.drop_succ_cons, List.drop_zero]; rfl
  case hfrg => intro vals; simp only [putAll, dstAt, Act.put, List.getElem?_toArray, List.getElem?_cons_zero, List.getElem?_cons_succ, Option.bind_some, List.setIfInBounds_toArray, List.set_cons_zero, List.set_cons_succ]; rfl
  case stabg =>
    intro i v wa wb h
    try dsimp only
    split <;> first | exact id
  case stepsg =>
    refine ⟨?_, ?_, ?_, ?_, ?_, ?_, ?_, ?_, ?_, trivial⟩
    · intro vals wr hR hp K hK
      dsimp only at hK ⊢
      clear hp
      unfold RunsOp
      have k0 := (hR.cell (p := ⟨bc, 0, none⟩) HC.out.2 (by simp)).trans HC.out.1
      go_simp
      exact hK.out _ _ ⟨_, rfl, Only.refl _ _, rfl⟩
    · intro vals wr hR hp K hK
      dsimp only at hK ⊢
      clear hp
      unfold RunsOp
      have k0 := (hR.cell (p := ⟨bl, 0, none⟩) HL.out.2 (by simp)).trans HL.out.1
      go_simp
      exact hK.out _ _ ⟨_, rfl, Only.refl _ _, rfl⟩
    · intro vals wr hR hp K hK
      dsimp only at hK ⊢
      clear hp
      unfold RunsOp
      go_simp
      exact hK.out _ _ ⟨_, rfl, Only.refl _ _, rfl⟩
    · intro vals wr hR hp K hK
      dsimp only at hK ⊢
      obtain ⟨p1, p2, -⟩ := hp
      replace p1 := p1 rfl
      replace p2 := p2 rfl
      dsimp only at p1 p2
      rw [p1, p2] at hK ⊢
      clear p1 p2
      unfold RunsOp
      have i1 : (0 : Int) ≤ (k : Int) := by omega
      have i2 : (k : Int) < (n : Int) := by omega
      go_simp
      exact hK.out _ _ ⟨_, rfl, Only.refl _ _, rfl⟩
    · intro vals wr hR hp K hK
      dsimp only at hK ⊢
      obtain ⟨p3, -⟩ := hp
      replace p3 := p3 rfl
      dsimp only at p3
      rw [p3] at hK ⊢
      clear p3
      unfold RunsOp
      have k0 := (hR.cell (p := ⟨b, o + k * 2, none⟩) HR0.out.1 (by simp)).trans HR0.out.2
      have k1 := (hR.cell (p := ⟨b, o + k * 2 + 1, none⟩) HR0.out.1 (by simp)).trans HR1.out
      go_simp
      exact hK.out _ _ ⟨_, rfl, Only.refl _ _, rfl⟩
    · intro vals wr hR hp K hK
      dsimp only at hK ⊢
      clear hp
      unfold RunsOp
      have k0 := (hR.cell (p := ⟨bx, 0, none⟩) HX.out.2.2 (by simp)).trans HX.out.1
      have k1 := (hR.cell (p := ⟨bx, 1, none⟩) HX.out.2.2 (by simp)).trans HX.out.2.1
      go_simp
      exact hK.out _ _ ⟨_, rfl, Only.refl _ _, rfl⟩
    · intro vals wr hR hp K hK
      dsimp only at hK ⊢
      obtain ⟨p0, p4, p5, -⟩ := hp
      replace p0 := p0 rfl
      replace p4 := p4 rfl
      replace p5 := p5 rfl
      dsimp only at p0 p4 p5
      rw [p0, p4, p5] at hK ⊢
      clear p0 p4 p5
      unfold RunsOp
      go_simp
      refine (HCA.out _).mono ?_
      rintro e' w2 ⟨rfl, o2⟩
      exact hK.out _ _ ⟨_, rfl, o2, rfl⟩
    · intro vals wr hR hp K hK
      dsimp only at hK ⊢
      obtain ⟨p6, -⟩ := hp
      replace p6 := p6 rfl
      dsimp only at p6
      rw [p6] at hK ⊢
      clear p6
      unfold RunsOp
      have hlb := HLB.out
      go_simp
      exact hK.out _ _ ⟨_, rfl, Only.refl _ _, rfl⟩
    · intro vals wr hR hp K hK
      dsimp only at hK ⊢
      obtain ⟨p7, -, -, -, -, -, -, -, -, -, -⟩ := hp
      replace p7 := p7 rfl
      dsimp only at p7
      rw [p7] at hK ⊢
      clear p7
      unfold RunsOp
      go_simp
      exact hK.out _ _ ⟨_, rfl, Only.refl _ _, rfl⟩
  case doneg =>
    intro vals wd hR hF
    have f8 : vals 8 = .bool lb := hF 8 (by decide)
    rw [f8]
    clear f8
    have HOd := Lib.hid ((Only.refl [] w).drew.trans hR (by simp))
    clear hR hF
    gi_wp2_with (fail)
    go_wp2_with (fail)
    go_ret
    exact ⟨rfl, HOd.out⟩
set_option maxHeartbeats 4000000 in
theorem behindJ {w : World} {A : Option Addr} {n c : Nat} {M : List Ent} {x : Ent} (hM : RowC w A (flat2 M)) (hn : M.length = n) (hn6 : n ≤ 1000000) (hs : Sorted keyJ M) :
    Calls Try.prog 42 #[.slice A n c, .agg #[.int .i64 x.1, .int .i64 x.2], .func (.func 22) #[] #[]] w fun e w' => e = .returned (.int .i64 (behindB keyJ M (keyJ x) : Nat)) ∧ Only [] w w' := by
  have o3 : Only [] w (((w.alloc (.cells #[.slice A n c] 51)).alloc (.cells #[.int .i64 x.1, .int .i64 x.2] 49)).alloc (.cells #[.func (.func 22) #[] #[]] 50)) := (((Only.refl [] w).alloc _).alloc _).alloc _
  have b0 : Blk (((w.alloc (.cells #[.slice A n c] 51)).alloc (.cells #[.int .i64 x.1, .int .i64 x.2] 49)).alloc (.cells #[.func (.func 22) #[] #[]] 50)) w.heap.size 51 #[.slice A n c] := ((Blk.new w 51 _).alloc _).alloc _
  have b1 : Blk (((w.alloc (.cells #[.slice A n c] 51)).alloc (.cells #[.int .i64 x.1, .int .i64 x.2] 49)).alloc (.cells #[.func (.func 22) #[] #[]] 50)) (w.heap.size + 1) 49 #[.int .i64 x.1, .int .i64 x.2] := by have h := (Blk.new (w.alloc (.cells #[.slice A n c] 51)) 49 #[.int .i64 x.1, .int .i64 x.2]).alloc (.cells #[.func (.func 22) #[] #[]] 50); simpa using h
  have b2 : Blk (((w.alloc (.cells #[.slice A n c] 51)).alloc (.cells #[.int .i64 x.1, .int .i64 x.2] 49)).alloc (.cells #[.func (.func 22) #[] #[]] 50)) (w.heap.size + 2) 50 #[.func (.func 22) #[] #[]] := by have h := Blk.new ((w.alloc (.cells #[.slice A n c] 51)).alloc (.cells #[.int .i64 x.1, .int .i64 x.2] 49)) 50 #[.func (.func 22) #[] #[]]; simpa using h
  have hM3 := hM.only o3
  have hS := search_any 50 #[.pointer (some ⟨w.heap.size + 2, 0, none⟩), .pointer (some ⟨w.heap.size, 0, none⟩), .pointer (some ⟨w.heap.size + 1, 0, none⟩)] M.length (fun i => (fun y => decide (keyJ x < keyJ y)) (M.getD i x)) _ (enters Try.func50 (by kernel_rfl) rfl) (by omega)
    (fun W i hi o => behindcJ (y := M.getD i x) (hM3.only o) (o.blk b0 (by simp)) (o.blk b1 (by simp)) (o.blk b2 (by simp)) hn (by simp [List.getD, hi]) hn6)
    (fun i j hij hj hi => by
      have h1 : M[i]? = some (M.getD i x) := by simp [List.getD, show i < M.length by omega]
      have h2 : M[j]? = some (M.getD j x) := by simp [List.getD, hj]
      have h3 := at_mono hs hij h1 h2
      clear h1 h2
      revert hi h3
      dsimp only
      generalize M.getD i x = u
      generalize M.getD j x = v
      intro hi h3
      simp at hi ⊢
      omega)
  have hcnt : (List.range M.length).countP (fun i => !(fun i => (fun y => decide (keyJ x < keyJ y)) (M.getD i x)) i) = behindB keyJ M (keyJ x) := by
    refine (count_at M x (fun y => !(decide (keyJ x < keyJ y)))).trans ?_
    unfold behindB
    congr 1
    funext y
    by_cases h : keyJ y ≤ keyJ x <;> simp [h] <;> omega
  rw [hcnt, hn] at hS
  have HS := Lib.hid hS
  have HO := Lib.hid o3
  clear hS hcnt b0 b1 b2 hM3 o3 hM hs hn
  generalize behindB keyJ M (keyJ x) = r at HS ⊢
  go_enter Try.func42, Try.ntmps42
  go_wp2_with (fail)
  refine HS.out.mono ?_
  rintro e w3 ⟨rfl, o3⟩
  go_wp2_with (fail)
  go_ret
  exact ⟨rfl, HO.out.trans o3 (by simp)⟩
end Go.Proofs.Ytpedlapemgjgaaa
