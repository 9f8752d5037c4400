/- Type. -/
import Derived.Test.YtjhpckeoackblaaDoorTypeOf
namespace Go.Proofs.YtjhpckeoackblaaDoor
open Go.RowKit Go.Kx
open Go.Val (Tt)
set_option maxRecDepth 100000
/-- an expression's type, or the error -/
def Tr.type (t : Tr) (nm : Nm) : Tt × Int := if t.ok = true then t.kind nm else (noT, 1)
set_option maxHeartbeats 4000000 in
theorem type_any {B0 : Nat} {A1 : Option Addr} {c1 : Nat} {vars : List Vr} {A2 : Option Addr} {c2 : Nat} {ports : List Pr} {bag : Bool} {A3 : Option Addr} {c3 : Nat} {of : List Vr} {e : Ex} {w : World} (hok : OkN vars ports of) (hB : B0 ≤ w.heap.size) (hL : Lies w e) (hW : WordsIs w) (hN : LiesN w A1 vars A2 ports A3 of) :
    Calls Tryd.prog 10 #[e.val, .agg #[.slice A1 vars.length c1, .slice A2 ports.length c2, .bool bag, .slice A3 of.length c3]] w fun r w' => RK B0 w (e.tr.type ⟨vars.map Vr.tr, ports.map Pr.tr, bag, of.map Vr.tr⟩) r w' := by
  have D17 := Lib.hid (fun W (o : Only [] w W) => pright_any (hL.keep o) (hW.keep o))
  have D18 := Lib.hid (fun W (o : Only [] w W) (h : e.tr.ok = true) => typeof_any (B0 := B0) (c1 := c1) (c2 := c2) (bag := bag) (c3 := c3) hok e W (Nat.le_trans hB o.size) (hL.keep o) (by unfold Tr.ok at h; rw [Bool.and_eq_true] at h; exact h.2) (hN.keep o))
  have HKO := Lib.hid (kind_ok (hok.nm bag) e.tr)
  have HT := Lib.hid (show e.tr.type ⟨vars.map Vr.tr, ports.map Pr.tr, bag, of.map Vr.tr⟩ = if e.tr.ok = true then e.tr.kind ⟨vars.map Vr.tr, ports.map Pr.tr, bag, of.map Vr.tr⟩ else (noT, 1) from rfl)
  obtain ⟨q, hq⟩ : ∃ q, e.tr.ok = q := ⟨_, rfl⟩
  rw [hq] at D17 HT
  simp only [hq] at D18
  obtain ⟨pe, hpe⟩ : ∃ pe, e.tr.kind ⟨vars.map Vr.tr, ports.map Pr.tr, bag, of.map Vr.tr⟩ = pe := ⟨_, rfl⟩
  rw [hpe] at HT HKO
  simp only [hpe] at D18
  obtain ⟨pt, hpt⟩ : ∃ pt, e.tr.type ⟨vars.map Vr.tr, ports.map Pr.tr, bag, of.map Vr.tr⟩ = pt := ⟨_, rfl⟩
  rw [hpt] at HT
  rw [hpt]
  obtain ⟨n1, hn1⟩ : ∃ n1, vars.length = n1 := ⟨_, rfl⟩
  obtain ⟨n2, hn2⟩ : ∃ n2, ports.length = n2 := ⟨_, rfl⟩
  obtain ⟨n3, hn3⟩ : ∃ n3, of.length = n3 := ⟨_, rfl⟩
  rw [hn1, hn2, hn3]
  rw [hn1, hn2, hn3] at D18
  have HB0 := Lib.hid hB
  clear hq hpe hpt hn1 hn2 hn3 hok hB hL hW hN
  obtain ⟨op, n, nm, sb, A, cap, args⟩ := e
  obtain ⟨ne, hne⟩ : ∃ ne, args.length = ne := ⟨_, rfl⟩
  have D17b := Lib.hid (show ∀ W, Only [] w W → Calls Tryd.prog 17 #[.agg #[.int .i64 op, .int .i64 n, .string nm, .string sb, .slice A args.length cap]] W fun r w' => r = .returned (.bool q) ∧ Only [] W w' from D17.out)
  have D18b := Lib.hid (show ∀ W, Only [] w W → q = true → Calls Tryd.prog 18 #[.agg #[.int .i64 op, .int .i64 n, .string nm, .string sb, .slice A args.length cap], .agg #[.slice A1 n1 c1, .slice A2 n2 c2, .bool bag, .slice A3 n3 c3]] W fun r w' => RK B0 W pe r w' from D18.out)
  show Calls Tryd.prog 10 #[.agg #[.int .i64 op, .int .i64 n, .string nm, .string sb, .slice A args.length cap], .agg #[.slice A1 n1 c1, .slice A2 n2 c2, .bool bag, .slice A3 n3 c3]] w fun r w' => RK B0 w pt r w'
  rw [hne] at D17b D18b ⊢
  clear hne D17 D18
  have h0 := Blk.new w 24 #[.int .i64 op, .int .i64 n, .string nm, .string sb, .slice A ne cap]
  have h1 := Blk.new (w.alloc (.cells #[.int .i64 op, .int .i64 n, .string nm, .string sb, .slice A ne cap] 24)) 40 #[.slice A1 n1 c1, .slice A2 n2 c2, .bool bag, .slice A3 n3 c3]
  have h2 := Blk.new ((w.alloc (.cells #[.int .i64 op, .int .i64 n, .string nm, .string sb, .slice A ne cap] 24)).alloc (.cells #[.slice A1 n1 c1, .slice A2 n2 c2, .bool bag, .slice A3 n3 c3] 40)) 34 #[.int .i64 0, .slice none 0 0]
  simp only [World.size_alloc] at h1 h2
  have HX0 := Lib.hid (show Blk (((w.alloc (.cells #[.int .i64 op, .int .i64 n, .string nm, .string sb, .slice A ne cap] 24)).alloc (.cells #[.slice A1 n1 c1, .slice A2 n2 c2, .bool bag, .slice A3 n3 c3] 40)).alloc (.cells #[.int .i64 0, .slice none 0 0] 34)) w.heap.size 24 #[.int .i64 op, .int .i64 n, .string nm, .string sb, .slice A ne cap] from Blk.alloc (Blk.alloc h0 _) _)
  have HN0 := Lib.hid (show Blk (((w.alloc (.cells #[.int .i64 op, .int .i64 n, .string nm, .string sb, .slice A ne cap] 24)).alloc (.cells #[.slice A1 n1 c1, .slice A2 n2 c2, .bool bag, .slice A3 n3 c3] 40)).alloc (.cells #[.int .i64 0, .slice none 0 0] 34)) (w.heap.size + 1) 40 #[.slice A1 n1 c1, .slice A2 n2 c2, .bool bag, .slice A3 n3 c3] from Blk.alloc h1 _)
  have R0 := Lib.hid h2
  have O0 := Lib.hid (show Only [] w (((w.alloc (.cells #[.int .i64 op, .int .i64 n, .string nm, .string sb, .slice A ne cap] 24)).alloc (.cells #[.slice A1 n1 c1, .slice A2 n2 c2, .bool bag, .slice A3 n3 c3] 40)).alloc (.cells #[.int .i64 0, .slice none 0 0] 34)) from (((Only.refl [] w).alloc _).alloc _).alloc _)
  clear h0 h1 h2
  obtain ⟨x0, x1, x2, x3, x4, xl⟩ := HX0.out.facts5
  go_enter Tryd.func10, Tryd.ntmps10
  go_wp2_with (fail)
  refine (D17b.out _ O0.out).mono ?_
  rintro r w1 ⟨rfl, o1⟩
  have O1 := Lib.hid (O0.out.trans o1 (by simp))
  have X1 := Lib.hid (o1.blk HX0.out (by simp))
  have N1 := Lib.hid (o1.blk HN0.out (by simp))
  have R1 := Lib.hid (o1.blk R0.out (by simp))
  clear o1 x0 x1 x2 x3 x4 xl
  cases q with
  | false =>
    obtain ⟨r0, r1, rl⟩ := R1.out.facts2
    have g0 := R1.out.frozen 0
    have g1 := R1.out.frozen 1
    go_wp2_with (fail)
    have hb5 := (R1.out.set_ 0 (.int .i64 0)).set_ 1 (.slice none 0 0)
    obtain ⟨e0, e1, -⟩ := Blk.facts2 (a := .int .i64 0) (b := .slice none 0 0) hb5
    refine bodyPost_ret (v := .tuple #[.agg #[.int .i64 0, .slice none 0 0], .int .i64 1]) (by simp [results, Tryd.results10, go_sem, e0, e1]) rfl ?_
    clear e0 e1 hb5
    have o7 : Only [w.heap.size + 1 + 1] w1 _ := ((Only.refl _ w1).setCell (p := ⟨w.heap.size + 1 + 1, 0, none⟩) (.inl (by simp)) (.int .i64 0)).setCell (p := ⟨w.heap.size + 1 + 1, 1, none⟩) (.inl (by simp)) (.slice none 0 0)
    have hp := HT.out
    simp at hp
    subst hp
    exact ⟨0, none, 0, [], rfl, plain_TK _ _ 0 ⟨by omega, by omega⟩ _, O1.out.trans o7 (fun b hb => .inr (by simp at hb; omega))⟩
  | true =>
    have hp := HT.out
    simp at hp
    subst hp
    obtain ⟨x0, x1, x2, x3, x4, xl⟩ := X1.out.facts5
    obtain ⟨b0, b1, b2, b3, bl⟩ := N1.out.facts4
    go_wp2_with (fail)
    refine (D18b.out _ O1.out (by first | rfl | trivial)).mono ?_
    rintro r w2 ⟨yk, yA, ycap, yl, rfl, hc, o2⟩
    have O2 := Lib.hid (O1.out.trans o2 (by simp))
    have R2 := Lib.hid (o2.blk R1.out (by simp))
    have HC := Lib.hid hc
    clear o2 hc x0 x1 x2 x3 x4 xl b0 b1 b2 b3 bl
    have HOA := Lib.hid (show Only [] w2 (w2.alloc (.cells #[.int .i64 yk, .slice yA yl.length ycap] 34)) from (Only.refl _ _).alloc _)
    have hyb := Blk.new w2 34 #[.int .i64 yk, .slice yA yl.length ycap]
    obtain ⟨y0, y1, yll⟩ := hyb.facts2
    have D19 := Lib.hid (show Calls Tryd.prog 19 #[.agg #[.int .i64 yk, .slice yA yl.length ycap]] (w2.alloc (.cells #[.int .i64 yk, .slice yA yl.length ycap] 34)) fun r w'' => ∃ zk zA zcap zl, r = .returned (.agg #[.int .i64 zk, .slice zA (List.length zl) zcap]) ∧ CpK (w2.alloc (.cells #[.int .i64 yk, .slice yA yl.length ycap] 34)).heap.size w'' pt.1 (.mk zk zA zcap zl) ∧ Only [] _ w'' from (copyT (.mk yk yA ycap yl) _ (HC.out.lies.keep HOA.out) 3 (by rw [HC.out.tr]; exact HKO.out)).mono fun r w'' ⟨e', h1, h2, h3⟩ => by
      obtain ⟨zk, zA, zcap, zl⟩ := e'
      rw [HC.out.tr] at h2
      exact ⟨zk, zA, zcap, zl, h1, h2, h3⟩)
    clear hyb
    go_wp2_with (fail)
    refine D19.out.mono ?_
    rintro r w3 ⟨zk, zA, zcap, zl, rfl, hc, o3⟩
    have O3 := Lib.hid ((O2.out.trans HOA.out (by simp)).trans o3 (by simp))
    have R3 := Lib.hid ((HOA.out.trans o3 (by simp)).blk R2.out (by simp))
    have HC3 := Lib.hid (hc.low (B' := w.heap.size + 3) (by have := R2.out.lt; have := HOA.out.size; omega))
    clear o3 hc y0 y1 yll D19
    obtain ⟨r0, r1, rl⟩ := R3.out.facts2
    have g0 := R3.out.frozen 0
    have g1 := R3.out.frozen 1
    go_wp2_with (fail)
    have hb5 := (R3.out.set_ 0 (.int .i64 zk)).set_ 1 (.slice zA zl.length zcap)
    obtain ⟨e0, e1, -⟩ := Blk.facts2 (a := .int .i64 zk) (b := .slice zA zl.length zcap) hb5
    refine bodyPost_ret (v := .tuple #[.agg #[.int .i64 zk, .slice zA zl.length zcap], .int .i64 pt.2]) (by simp [results, Tryd.results10, go_sem, e0, e1]) rfl ?_
    clear e0 e1 hb5
    have o7 : Only [w.heap.size + 1 + 1] w3 _ := ((Only.refl _ w3).setCell (p := ⟨w.heap.size + 1 + 1, 0, none⟩) (.inl (by simp)) (.int .i64 zk)).setCell (p := ⟨w.heap.size + 1 + 1, 1, none⟩) (.inl (by simp)) (.slice zA zl.length zcap)
    exact ⟨zk, zA, zcap, zl, rfl, (TK.of (HC3.out.only o7 (by simp))).low (by omega), O3.out.trans o7 (fun b hb => .inr (by simp at hb; omega))⟩
set_option maxHeartbeats 4000000 in
theorem deep_any : ∀ (e : Tx) (w : World), LiesT w e → e.l.length ≤ 4 → e.tr.dp ≤ 1000 → (∀ a ∈ e.l, a.tr.ok 3 = true) → Calls Tryd.prog 38 #[e.val] w fun r w' => r = .returned (.int .i64 (e.tr.dp : Nat)) ∧ Only [] w w' := by
  refine Tx.ind (fun e ih => ?_)
  intro w hL hl4 hd hsub
  obtain ⟨k, A, cap, l⟩ := e
  have hi := hL.inv
  have HR := Lib.hid hL.rowL
  have HI := Lib.hid (show ∀ a ∈ l, ∀ W, LiesT W a → Calls Tryd.prog 38 #[a.val] W fun r w' => r = .returned (.int .i64 (a.tr.dp : Nat)) ∧ Only [] W w' from fun a ha W hLa => by
    have hok := hsub a ha
    have hd3 := (dp_ok a.tr 3 3 hok).1 hok
    obtain ⟨ak, aA, acap, al⟩ := a
    rw [Tx.tr_mk] at hok
    have hs := ok_sub hok
    rw [List.length_map] at hs
    exact ih _ (by simpa [Tx.l] using ha) W hLa hs.1 (by omega) (fun b hb => ok_mono _ 2 3 (by omega) (hs.2 _ (List.mem_map.2 ⟨b, hb, rfl⟩))))
  have HDP := Lib.hid (show (Tx.mk k A cap l).tr.dp = if k = 3 then mxN (l.map fun x => x.tr.dp) + 1 else 0 by rw [Tx.tr_mk, dp_mk, List.map_map]; rfl)
  have HDL := Lib.hid (show ∀ a ∈ l, a.tr.dp ≤ 3 from fun a ha => (dp_ok a.tr 3 3 (hsub a ha)).1 (hsub a ha))
  obtain ⟨n9, hn9⟩ : ∃ n9, l.length = n9 := ⟨_, rfl⟩
  have HN := Lib.hid hn9
  have hbig : n9 ≤ 4 := by rw [← hn9]; exact hl4
  show Calls Tryd.prog 38 #[.agg #[.int .i64 k, .slice A l.length cap]] w _
  rw [HDP.out, hn9]
  have HX0 := Lib.hid (Blk.new w 34 #[.int .i64 k, .slice A n9 cap])
  have HO0 := Lib.hid (show Only [] w (w.alloc (.cells #[.int .i64 k, .slice A n9 cap] 34)) from (Only.refl _ _).alloc _)
  clear hL ih hi hl4 hd hsub hn9
  obtain ⟨x0, x1, xl⟩ := HX0.out.facts2
  go_enter Tryd.func38, Tryd.ntmps38
  go_wp2_with (fail)
  clear x0 x1 xl
  go_loopw [3, 4] (fun v i wr => ∃ (k9 : Nat) (m : Nat), i = .int .i64 k9 ∧ v = .int .i64 m ∧ k9 ≤ n9 ∧ m ≤ 3 ∧ Hid (m = mxN ((l.take k9).map fun x => x.tr.dp)) ∧ Hid (Blk wr w.heap.size 34 #[.int .i64 k, .slice A n9 cap]) ∧ Hid (Only [] w wr)) (fun _ i _ => n9 - (intOf i).toNat)
  case atStart => exact ⟨0, 0, rfl, rfl, Nat.zero_le _, Nat.zero_le _, Lib.hid rfl, HX0, HO0⟩
  case round =>
    obtain ⟨k9, m, rfl, rfl, hk, hm3, HM, HX, HOr⟩ := hrel
    obtain ⟨x0, x1, xl⟩ := HX.out.facts2
    by_cases hlt : k9 < n9
    · obtain ⟨e, he⟩ : ∃ e, l[k9]? = some e := ⟨_, List.getElem?_eq_getElem (by rw [HN.out]; exact hlt)⟩
      have hmem : e ∈ l := List.mem_of_getElem? he
      have HC0 := Lib.hid (fun W (o : Only [] wr W) => HI.out e hmem W ((HR.out.sub e hmem).keep (HOr.out.trans o (by simp))))
      have hd3 := HDL.out e hmem
      have HTK := Lib.hid (show mxN ((l.take (k9 + 1)).map fun x => x.tr.dp) = max (mxN ((l.take k9).map fun x => x.tr.dp)) e.tr.dp by rw [List.take_add_one, he, List.map_append]; unfold mxN; rw [List.foldl_append]; rfl)
      have hrow := (HR.out.row k9 _ he).only HOr.out (by simp)
      obtain ⟨d, hd⟩ : ∃ d, e.tr.dp = d := ⟨_, rfl⟩
      rw [hd] at HC0 HTK hd3
      obtain ⟨vk, vA, vcap, vl⟩ := e
      obtain ⟨b, o, rfl, hbb, c0, c1⟩ := hrow.cells
      have HCA := Lib.hid (show ∀ W, Only [] wr W → Calls Tryd.prog 38 #[.agg #[.int .i64 vk, .slice vA vl.length vcap]] W fun r w' => r = .returned (.int .i64 (d : Nat)) ∧ Only [] W w' from HC0.out)
      have HCC := Lib.hid (And.intro hbb (And.intro c0 c1))
      have ik0 : (0 : Int) ≤ (k9 : Int) := by omega
      have ik1 : (k9 : Int) < (n9 : Int) := by omega
      have HD3 := Lib.hid hd3
      clear he hmem hrow hd HC0 hd3
      go_wp2_with (fail)
      refine (HCA.out _ (Only.refl _ _)).mono ?_
      rintro r w3 ⟨rfl, o3⟩
      have HO3 := Lib.hid (HOr.out.trans o3 (by simp))
      have HX3 := Lib.hid (o3.blk HX.out (by simp))
      have HO13 := Lib.hid o3
      clear o3 x0 x1 xl c0 c1 hbb
      by_cases hgt : m < d
      · have d1 : decide ((m : Int) < (d : Int)) = true := decide_eq_true (by omega)
        have d2 : decide (m < d) = true := decide_eq_true hgt
        obtain ⟨x0, x1, xl⟩ := HX3.out.facts2
        have hbb := Nat.lt_of_lt_of_le HCC.out.1 HO13.out.size
        have c0 := (HO13.out.cell (p := ⟨b, o + k9 * 2, none⟩) HCC.out.1 (by simp)).trans HCC.out.2.1
        have c1 := (HO13.out.cell (p := ⟨b, o + k9 * 2 + 1, none⟩) HCC.out.1 (by simp)).trans HCC.out.2.2
        have HGT := Lib.hid hgt
        clear hgt
        go_wp2_with (fail)
        refine (HCA.out _ HO13.out).mono ?_
        rintro r w4 ⟨rfl, o4⟩
        have HO4 := Lib.hid (HO3.out.trans o4 (by simp))
        have HX4 := Lib.hid (o4.blk HX3.out (by simp))
        clear o4 x0 x1 xl c0 c1 hbb
        go_wp2_with (fail)
        go_roundw
        case rel => exact ⟨k9 + 1, d, by go_num, rfl, by omega, HD3.out, Lib.hid (by rw [HTK.out, ← HM.out]; have := HGT.out; omega), HX4, HO4⟩
        case measure => simp [intOf]; omega
      · have d1 : decide ((m : Int) < (d : Int)) = false := decide_eq_false (by omega)
        have d2 : decide (m < d) = false := decide_eq_false hgt
        have HGT := Lib.hid hgt
        clear hgt
        go_wp2_with (fail)
        go_roundw
        case rel => exact ⟨k9 + 1, m, by go_num, rfl, by omega, hm3, Lib.hid (by rw [HTK.out, ← HM.out]; have := HGT.out; omega), HX3, HO3⟩
        case measure => simp [intOf]; omega
    · have hke : k9 = n9 := by omega
      have iz : ¬ (n9 : Int) < (n9 : Int) := by omega
      have HM9 := Lib.hid (show m = mxN (l.map fun x => x.tr.dp) by
        have h := HM.out
        rw [hke, List.take_of_length_le (by rw [HN.out]; exact Nat.le_refl _)] at h
        exact h)
      rw [hke]
      clear hke hlt hk
      by_cases hk3 : k = 3
      · have d1 : (k == 3) = true := by rw [hk3]; rfl
        have HK3 := Lib.hid hk3
        clear hk3
        go_wp2_with (fail)
        go_ret
        exact ⟨by rw [← HM9.out]; rfl, HOr.out⟩
      · have d1 : (k == 3) = false := by simp [hk3]
        have HK3 := Lib.hid hk3
        clear hk3
        go_wp2_with (fail)
        go_ret
        exact ⟨rfl, HOr.out⟩
end Go.Proofs.YtjhpckeoackblaaDoor
