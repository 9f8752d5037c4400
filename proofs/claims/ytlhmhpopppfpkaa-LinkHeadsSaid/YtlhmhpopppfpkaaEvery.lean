/- All of a net, as it is handed out: what is gathered. -/
import Derived.Test.YtlhmhpopppfpkaaGath
namespace Go.Proofs.Ytlhmhpopppfpkaa
open Go.RowKit Go.Kx Go.Maps
attribute [local go_sem] Oper.semAt_some
set_option maxRecDepth 100000

theorem wpListIn_lookup_held {Fe : Fence} {d : Nat} {P : Program} (w : World) {ops : Array Oper} {rest : List Oper} {o : Oper} {a : Act} {Q : Exit → Act → World → Prop}
    (hg : o.guard = none) (m x : Operand) (t : TypeId) (hop : o.op = Op.lookup t m x false)
    (k e : TypeId) (K : Keyed P k) (ht : P.underlying t = some (.map k e)) {z : Value} (hz : (zeroValue e).run P w = .ok z w) (b n : Nat) (D : DataW Value)
    (hm : a.eval m = .map (some b)) (hown : w.ownsMap P k RH b n D) (key : Value) (l : Lit) (hx : a.eval x = key) (hkey : keyOf P k key = some l) (v : Value) (hv : D.atKey l (.held z) = .held v)
    (hK : wpListIn Fe d P ops Q rest (a.put o.dst v) w) :
    wpListIn Fe d P ops Q (o :: rest) a w := by
  refine wpListIn_plain hg fun K' hK' => ?_
  obtain ⟨u, ps, hrun, hu⟩ := hown.lookup K ht hz (zd := .held z) (zp := []) rfl hkey
  rw [hv] at hu
  injection hu with hu
  injection hu with hu _
  injection hu with hu
  subst hu
  unfold Oper.wpIn
  refine ⟨?_, ?_⟩
  · simp [Oper.about, hop]
  · rw [Oper.semAt_plain Fe _ _ (by rw [hop]; intro c hc'; cases hc')]
    simp [execOp, hop, hm, hx, hrun, Result.andThen]
    exact hK' _ _ hK
theorem runs_lookup_held {P : Program} (w : World) {ops : Array Oper} {o : Oper} {a : Act} {K' : Act → World → Prop} {Q : Exit → Act → World → Prop}
    (hg : o.guard = none) (m x : Operand) (t : TypeId) (hop : o.op = Op.lookup t m x false)
    (k e : TypeId) (K : Keyed P k) (ht : P.underlying t = some (.map k e)) {z : Value} (hz : (zeroValue e).run P w = .ok z w) (b n : Nat) (D : DataW Value)
    (hm : a.eval m = .map (some b)) (hown : w.ownsMap P k RH b n D) (key : Value) (l : Lit) (hx : a.eval x = key) (hkey : keyOf P k key = some l) (v : Value) (hv : D.atKey l (.held z) = .held v)
    (hK : K' (a.put o.dst v) w) :
    if Region.wanted o (yielded ops a.tmps) = true then Oper.wp P o a w K' Q else K' (a.put o.dst undef) w := by
  have hw : Region.wanted o (yielded ops a.tmps) = true := by simp [Region.wanted, hg]
  rw [if_pos hw]
  obtain ⟨u, ps, hrun, hu⟩ := hown.lookup K ht hz (zd := .held z) (zp := []) rfl hkey
  rw [hv] at hu
  injection hu with hu
  injection hu with hu _
  injection hu with hu
  subst hu
  unfold Oper.wp
  simp [execOp, hop, hm, hx, hrun, Result.andThen]
  exact hK
theorem runs_append {P : Program} {w w1 : World} {ops : Array Oper} {o : Oper} {a : Act} {K : Act → World → Prop} {Q : Exit → Act → World → Prop} {v xv r : Value} {t1 t2 ty : TypeId}
    (hrun : (Builtin.append_ #[t1, t2] ty #[v, xv]).run P w = .ok r w1) (hg : o.guard = none) (s x : Operand)
    (hop : o.op = .call { callee := .builtin .append, args := #[s, x], argTypes := #[t1, t2] }) (hty : o.type = ty) (hs : a.eval s = v) (hx : a.eval x = xv)
    (hK : K (a.put o.dst r) w1) : if Region.wanted o (yielded ops a.tmps) = true then Oper.wp P o a w K Q else K (a.put o.dst undef) w := by
  have hw : Region.wanted o (yielded ops a.tmps) = true := by simp [Region.wanted, hg]
  rw [if_pos hw]
  subst hty
  unfold Oper.wp execOp
  simp only [hop, resolve, invoke, builtin, Sem.run_bind, Sem.run_pure, Result.andThen_ok, List.map_toArray, List.map_cons, List.map_nil, hs, hx, hrun]
  exact hK
/-- the lane of a link: what the map answers, and what its queue hands out -/
theorem lane_is {B : Nat} {w : World} {g bm n room : Nat} {Ls : List (Pr × Lane)} (h : NB B w g bm n room Ls) {p : Pr} (ha : I64 p.1) (hb : I64 p.2) :
    ∃ (D : DataW Value) (q : Option Addr) (s : Int), w.ownsMap Try.prog 50 RH bm Ls.length D ∧ D.atKey (kl p.1 p.2) (.held lz) = .held (.agg #[.pointer q, .int .i64 s]) ∧
      (∀ w' cb, Only [] w w' → Blk w' cb 59 #[.pointer q] → Seqs Try.prog 33 #[.pointer (some ⟨cb, 0, none⟩)] (pairs (laneX Ls p)) [] w') ∧
      (∀ w', Only [] w w' → Calls Try.prog 28 #[.pointer q] w' fun e w'' => e = .returned (.tuple #[.int .i64 (hdI (laneX Ls p)), .bool (anyI (laneX Ls p))]) ∧ Only [] w' w'') ∧ (laneX Ls p).length ≤ 65536 := by
  obtain ⟨D, hD, hl⟩ := h.map
  cases hk : keyB Ls p with
  | false =>
    rw [laneX_out hk]
    refine ⟨D, none, 0, hD, atKey_of_not_has (by rw [hl.has_ p.1 p.2 ha hb, hk]) _, fun w' cb _ hc => all_seqs_nil hc, fun w' _ => peek_nilq w', by simp⟩
  | true =>
    obtain ⟨l, hp⟩ := keyB_iff.1 hk
    rw [laneX_in hl.nd hp]
    have hq := (h.qu _ hp)
    refine ⟨D, some ⟨l.b, 0, none⟩, l.size, hD, hl.at_ _ hp (.held lz), fun w' cb o hc => all_seqs (hq.1.only o (by simp) (by simp)) hc, fun w' o => ?_, by have := hq.1.len; have := h.dims; have := hq.2; dsimp only at *; omega⟩
    have hq' := hq.1.only o (by simp) (by simp)
    dsimp only at hq'
    cases hx : l.xs with
    | nil => rw [hx] at hq'; exact peek_none hq'
    | cons y r => rw [hx] at hq'; exact (peek_some hq').mono fun e w'' ⟨h1, k, h2⟩ => ⟨h1, by rw [h2]; exact (Only.refl _ _).drewN _⟩
def gP (n k : Nat) : Pr := ((prs n)[k]?).getD (0, 0)
/-- all on the links, link by link -/
def onP (Ls : List (Pr × Lane)) (ps : List Pr) : List It := ps.flatMap fun p => (laneX Ls p).map fun v => (p, v)
/-- the first one on each link -/
def hdP (Ls : List (Pr × Lane)) (ps : List Pr) : List It := ps.flatMap fun p => ((laneX Ls p).take 1).map fun v => (p, v)
theorem onP_snoc (Ls : List (Pr × Lane)) (ps : List Pr) (p : Pr) : onP Ls (ps ++ [p]) = onP Ls ps ++ (laneX Ls p).map fun v => (p, v) := by simp [onP]
theorem hdP_snoc (Ls : List (Pr × Lane)) (ps : List Pr) (p : Pr) : hdP Ls (ps ++ [p]) = hdP Ls ps ++ ((laneX Ls p).take 1).map fun v => (p, v) := by simp [hdP]
theorem rowP_length (a : Nat) : ∀ b, (rowP a b).length ≤ b
  | 0 => by simp [rowP_zero]
  | b + 1 => by
    rw [rowP_succ, List.length_append]
    have := rowP_length a b
    split <;> simp <;> omega
theorem flat_le {α β : Type} (f : α → List β) (c : Nat) : ∀ (l : List α), (∀ a ∈ l, (f a).length ≤ c) → (l.flatMap f).length ≤ l.length * c
  | [], _ => by simp
  | a :: l, h => by
    rw [List.flatMap_cons, List.length_append, List.length_cons, Nat.add_mul]
    have := flat_le f c l (fun x hx => h x (by simp [hx]))
    have := h a (by simp)
    omega
theorem prs_length {n : Nat} (h : n ≤ 8) : (prs n).length ≤ 64 := by
  have := flat_le (fun i => rowP i n) n (List.range n) (fun a _ => rowP_length a n)
  rw [List.length_range] at this
  have h2 : n * n ≤ 8 * 8 := Nat.mul_le_mul h h
  unfold prs
  omega
theorem prs_I64 {n : Nat} (h : n ≤ 8) {p : Pr} (hp : p ∈ prs n) : I64 p.1 ∧ I64 p.2 := by
  obtain ⟨a, b, rfl, ha, hb, _⟩ := prs_mem hp
  unfold I64
  dsimp only
  omega
theorem NB.lane_le {B : Nat} {w : World} {g bm n room : Nat} {Ls : List (Pr × Lane)} (h : NB B w g bm n room Ls) (p : Pr) : (laneX Ls p).length ≤ 65536 := by
  cases hk : keyB Ls p with
  | false => rw [laneX_out hk]; simp
  | true =>
    obtain ⟨l, hp⟩ := keyB_iff.1 hk
    rw [laneX_in h.nd hp]
    have hq := h.qu _ hp
    have := hq.1.len
    have := h.dims
    have := hq.2
    dsimp only at *
    omega
theorem onP_le {Ls : List (Pr × Lane)} {n : Nat} (h : ∀ p, (laneX Ls p).length ≤ 65536) (hn : n ≤ 8) (k : Nat) : (onP Ls ((prs n).take k)).length ≤ 4194304 := by
  have h1 := flat_le (fun p => (laneX Ls p).map fun v => (p, v)) 65536 ((prs n).take k) (fun a _ => by simpa using h a)
  have h2 := prs_length hn
  have h3 : ((prs n).take k).length ≤ (prs n).length := by simp; omega
  have h4 : ((prs n).take k).length * 65536 ≤ 64 * 65536 := Nat.mul_le_mul_right _ (by omega)
  unfold onP
  omega
theorem hdP_le {Ls : List (Pr × Lane)} {n : Nat} (hn : n ≤ 8) (k : Nat) : (hdP Ls ((prs n).take k)).length ≤ 4194304 := by
  have h1 := flat_le (fun p => ((laneX Ls p).take 1).map fun v => (p, v)) 1 ((prs n).take k) (fun a _ => by simp; omega)
  have h2 := prs_length hn
  have h3 : ((prs n).take k).length ≤ (prs n).length := by simp; omega
  unfold hdP
  omega
def valsN (L : List It) : List (Array Value) := L.map fun e => #[.agg #[.int .i64 e.1.1, .int .i64 e.1.2], .int .i64 e.2]
theorem valsN_at {L : List It} {k : Nat} {e : It} (h : L[k]? = some e) : (valsN L)[k]? = some #[.agg #[.int .i64 e.1.1, .int .i64 e.1.2], .int .i64 e.2] := by
  unfold valsN; rw [List.getElem?_map, h]; rfl
set_option maxHeartbeats 4000000 in
theorem nall_seqs {B : Nat} {w : World} {g bm n room c : Nat} {Ls : List (Pr × Lane)} (h : NB B w g bm n room Ls) (hc : Blk w c 24 #[.pointer (some ⟨g, 0, none⟩)]) :
    SeqsT Try.prog 24 #[.pointer (some ⟨c, 0, none⟩)] (valsN (onP Ls (prs n))) [] w := by
  intro l J Jx W S hK hl hlW hS _ hJ hJx hY h0
  have bc := hK.blk hc
  have HN := Lib.hid (h.keep hK.only)
  have HD := Lib.hid h.dims
  have HLL := Lib.hid (show ∀ k, (onP Ls ((prs n).take k)).length ≤ 4194304 from fun k => onP_le h.lane_le h.dims.2.1 k)
  have HLE := Lib.hid h.lane_le
  have H0 := Lib.hid h0
  have HJ := Lib.hid hJ
  have HY := Lib.hid hY
  have HJX := Lib.hid hJx
  have HS := Lib.hid hS
  have evl : (valsN (onP Ls (prs n))).length = (onP Ls (prs n)).length := by simp [valsN]
  rw [evl]
  clear hc hJ hJx hY h0 hK hS h evl
  show Calls Try.prog 24 #[.func (.yield l) #[] #[], .pointer (some ⟨c, 0, none⟩)] W _
  have x1 := Blk.new W 69 #[.slice none 0 0]
  have o1 : Only [] W (W.alloc (.cells #[.slice none 0 0] 69)) := (Only.refl _ _).alloc _
  have x2 := Blk.new (W.alloc (.cells #[.slice none 0 0] 69)) 70 #[.slice none 0 0]
  have o2 : Only [] (W.alloc (.cells #[.slice none 0 0] 69)) ((W.alloc (.cells #[.slice none 0 0] 69)).alloc (.cells #[.slice none 0 0] 70)) := (Only.refl _ _).alloc _
  have e1 : (W.alloc (.cells #[.slice none 0 0] 69)).heap.size = W.heap.size + 1 := Array.size_push _
  rw [e1] at x2
  have b1 := o2.blk x1 (by simp)
  have b0 := (o1.trans o2 (by simp)).blk bc (by simp)
  have HO := Lib.hid (o1.trans o2 (by simp))
  have X1 := Lib.hid b1
  have X2 := Lib.hid x2
  obtain ⟨c0, cl⟩ := b0.facts1
  have HC := Lib.hid b0
  have BC := Lib.hid bc
  have hs1 : ((W.alloc (.cells #[.slice none 0 0] 69)).alloc (.cells #[.slice none 0 0] 70)).heap.size = W.heap.size + 2 := by simp
  have HS1 := Lib.hid hs1
  clear hs1
  clear x1 x2 b1 o1 o2 e1 bc b0
  refine calls_marks Try.func24 rfl ?_
  simp only [Try.ntmps24, List.size_toArray, List.length_cons, List.length_nil, Nat.reduceAdd, Nat.reduceSub, Array.replicate_succ, Array.replicate_zero, List.push_toArray, List.append_toArray, List.nil_append, List.cons_append]
  go_wp2_with (fail)
  obtain ⟨ab, hab⟩ : ∃ ab, W.heap.size = ab := ⟨_, rfl⟩
  obtain ⟨lb, hlb⟩ : ∃ lb, ab + 1 = lb := ⟨_, rfl⟩
  rw [hab] at X1 X2 ⊢
  rw [hlb] at X2 ⊢
  generalize (W.alloc (.cells #[.slice none 0 0] 69)).alloc (.cells #[.slice none 0 0] 70) = W1 at *
  refine (pairs_any _ _ rfl W1).mono ?_
  rintro e W2 ⟨rfl, rfl⟩
  go_wp2_with (fail)
  have hbx := Blk.new W1 24 #[.pointer (some ⟨g, 0, none⟩)]
  have ox : Only [] W1 (W1.alloc (.cells #[.pointer (some ⟨g, 0, none⟩)] 24)) := (Only.refl _ _).alloc _
  have X1' := Lib.hid (ox.blk X1.out (by simp))
  have X2' := Lib.hid (ox.blk X2.out (by simp))
  have HC' := Lib.hid (ox.blk HC.out (by simp))
  have HO' := Lib.hid (HO.out.trans ox (by simp))
  have hseq := pairs_seqs (HN.out.keep HO'.out) hbx
  have hcbl := hbx.lt
  have hs1 := HS1.out
  have hgl : g < W.heap.size := HN.out.blk.lt
  clear X1 X2 HO hbx ox c0 cl HC
  generalize hW2 : W1.alloc (.cells #[.pointer (some ⟨g, 0, none⟩)] 24) = W2 at *
  have hal : ab < W2.heap.size := X1'.out.lt
  have hll : lb < W2.heap.size := X2'.out.lt
  have hWW := HO'.out.size
  have hne : ab ≠ lb := by omega
  have habw : W.heap.size ≤ ab := by omega
  have hlbw : W.heap.size ≤ lb := by omega
  have hcb2 : W.heap.size < W1.heap.size ∧ lb < W1.heap.size ∧ ab < W1.heap.size := by omega
  clear hs1 hab hlb hW2 HS1
  refine' wp_rangeFunc_seqsR (gf := 32) (lb := #[.pointer (some ⟨W1.heap.size, 0, none⟩)]) (vs := valsP (prs n)) rfl (enters Try.func32 (by kernel_rfl) rfl)
    hseq (by intro v hv; simp only [valsP, List.mem_map] at hv; obtain ⟨_, _, rfl⟩ := hv; rfl) [ab, lb] (by simp; omega) (by simp; omega)
    (fun k S X => ∃ A1 c1 A2 c2, AL W.heap.size X ab lb (onP Ls ((prs n).take k)) A1 c1 A2 c2 ∧ S = alS ab lb A1 A2 ∧ Only [] W X) (fun _ _ => False) ?hI (fun _ _ _ h _ => h) ?h0
    _ (fun k V => V.alloc (.cells #[.int .i64 (gP n k).1, .int .i64 (gP n k).2] 50)) (fun k V => (Only.refl [] V).alloc _) ?assign ?body ?done (fun _ _ _ _ h _ => h.elim)
  case assign =>
    intro l0 k v X K hv hKK
    obtain rfl : #[.agg #[.int .i64 (gP n k).1, .int .i64 (gP n k).2]] = v := by
      obtain ⟨p, hp, rfl⟩ := valsP_of hv
      have e2 : gP n k = p := by unfold gP; rw [hp]; rfl
      rw [e2]
    clear hv
    gi_wp2
    exact hKK
  case hI =>
    rintro k S X1 X2 ⟨A1, c1, A2, c2, h1, rfl, h3⟩ hk
    exact ⟨A1, c1, A2, c2, h1.keepC hk, rfl, h3.keepC hk hWW⟩
  case h0 => exact ⟨none, 0, none, 0, ⟨X1'.out, X2'.out, World.ownsRow_nil _ _ _ _, World.ownsRow_nil _ _ _ _⟩, rfl, HO'.out⟩
  case body =>
    intro l0 k vv S V X hlo hlS hrec hv hIV hIX hk
    obtain ⟨A1, c1, A2, c2, hA, rfl, hO⟩ := hIX
    obtain ⟨p, hp, rfl⟩ := valsP_of hv
    have e : gP n k = p := by unfold gP; rw [hp]; rfl
    have hpm : p ∈ prs n := List.mem_of_getElem? hp
    have htk : (prs n).take (k + 1) = (prs n).take k ++ [p] := by rw [List.take_add_one, hp]; rfl
    have HPB := Lib.hid (hk.blk (Blk.new V 50 #[.int .i64 (gP n k).1, .int .i64 (gP n k).2]))
    rw [e] at HPB ⊢
    have hold : ∀ x ∈ alS ab lb A1 A2, x < V.heap.size := by
      obtain ⟨B1, d1, B2, d2, hB, hS, _⟩ := hIV
      rw [hS]
      exact hB.lt
    obtain ⟨pb, hpb⟩ : ∃ pb, V.heap.size = pb := ⟨_, rfl⟩
    rw [hpb] at hold HPB ⊢
    have hi64 := prs_I64 (by have := HD.out; omega) hpm
    have HNX := Lib.hid (HN.out.keep hO)
    have HCX := Lib.hid (hO.blk BC.out (by simp))
    obtain ⟨D, q, s, hD, hat, hsq, hpk, hxl⟩ := lane_is HNX.out hi64.1 hi64.2
    have hf0 := field61 (.pointer q) (.int .i64 s)
    have HAA := Lib.hid hA
    have HOO := Lib.hid hO
    have HHK := Lib.hid hk
    have HOLD := Lib.hid hold
    have HREC := Lib.hid hrec
    have HTK := Lib.hid htk
    clear hA hO hk hold hIV hv hp htk hpb e hrec
    gi_wp2_with (fail)
    refine wpIn_region_relR 7 (Only []) (fr := ?fra) (tl := ?tla) (fun iq v wv => match iq with
      | 0 => v = .pointer (some ⟨g, 0, none⟩)
      | 1 => v = .pointer (some ⟨g, 0, none⟩)
      | 2 => v = .pointer (some ⟨g, 2, none⟩)
      | 3 => v = .map (some bm)
      | 4 => v = .agg #[.int .i64 p.1, .int .i64 p.2]
      | 5 => v = .agg #[.pointer q, .int .i64 s]
      | 6 => v = .pointer q
      | _ => True) (.inr ⟨_, rfl⟩) (by kernel_rfl) (by kernel_rfl) (by kernel_rfl) (by kernel_rfl) (by kernel_rfl) (by kernel_rfl) (by decide) ?htla ?hfra (Only.refl _ _) (fun _ _ _ h k => h.trans k (fun _ hx => .inl hx)) ?staba ?stepsa ?donea
    case htla => simp only [List.drop_succ_cons, List.drop_zero]; rfl
    case hfra => intro vals; simp only [putAll, dstAt, Act.put, List.getElem?_toArray, List.getElem?_cons_zero, List.getElem?_cons_succ, Option.bind_some, List.setIfInBounds_toArray, List.set_cons_zero, List.set_cons_succ]; rfl
    case staba =>
      intro i v wa wb h
      try dsimp only
      split <;> first | exact id
    case stepsa =>
      refine ⟨?_, ?_, ?_, ?_, ?_, ?_, ?_, trivial⟩
      · intro vals wr hR hp K hK
        dsimp only at hK ⊢
        clear hp
        unfold RunsOp
        have tg := hR.blk (Blk.drew HCX.out) (by simp)
        obtain ⟨k0, kl⟩ := tg.facts1
        clear tg
        go_simp
        exact hK.out _ _ ⟨_, rfl, Only.refl _ _, rfl⟩
      · intro vals wr hR hp K hK
        dsimp only at hK ⊢
        obtain ⟨p0, -⟩ := hp
        replace p0 := p0 rfl
        dsimp only at p0
        rw [p0] at hK ⊢
        clear p0
        unfold RunsOp
        go_simp
        exact hK.out _ _ ⟨_, rfl, Only.refl _ _, rfl⟩
      · intro vals wr hR hp K hK
        dsimp only at hK ⊢
        obtain ⟨p1, -⟩ := hp
        replace p1 := p1 rfl
        dsimp only at p1
        rw [p1] at hK ⊢
        clear p1
        unfold RunsOp
        go_simp
        exact hK.out _ _ ⟨_, rfl, Only.refl _ _, rfl⟩
      · intro vals wr hR hp K hK
        dsimp only at hK ⊢
        obtain ⟨p2, -⟩ := hp
        replace p2 := p2 rfl
        dsimp only at p2
        rw [p2] at hK ⊢
        clear p2
        unfold RunsOp
        have tg := hR.blk (Blk.drew HNX.out.blk) (by simp)
        obtain ⟨k0, k1, k2, kl⟩ := tg.facts3
        clear tg
        go_simp
        exact hK.out _ _ ⟨_, rfl, Only.refl _ _, rfl⟩
      · intro vals wr hR hp K hK
        dsimp only at hK ⊢
        clear hp
        unfold RunsOp
        have tg := hR.blk (Blk.drew HPB.out) (by simp)
        obtain ⟨k0, k1, kl⟩ := tg.facts2
        clear tg
        go_simp
        exact hK.out _ _ ⟨_, rfl, Only.refl _ _, rfl⟩
      · intro vals wr hR hp K hK
        dsimp only at hK ⊢
        obtain ⟨p3, p4, -⟩ := hp
        replace p3 := p3 rfl
        replace p4 := p4 rfl
        dsimp only at p3 p4
        rw [p3, p4] at hK ⊢
        clear p3 p4
        unfold RunsOp
        have hown := ownsMap_of hD (hR.block bm hD.lt (by simp))
        refine runs_lookup_held _ rfl _ _ 56 rfl 50 61 law50 Try.underlying56 (zero61 _) bm Ls.length D rfl hown _ _ rfl (key_of hi64.1 hi64.2) _ hat ?_
        exact hK.out _ _ ⟨_, rfl, Only.refl _ _, rfl⟩
      · intro vals wr hR hp K hK
        dsimp only at hK ⊢
        obtain ⟨p5, -⟩ := hp
        replace p5 := p5 rfl
        dsimp only at p5
        rw [p5] at hK ⊢
        clear p5
        unfold RunsOp
        go_simp
        exact hK.out _ _ ⟨_, rfl, Only.refl _ _, rfl⟩
    case donea =>
      intro vals wd hR hF
      have f0 : vals 0 = .pointer (some ⟨g, 0, none⟩) := hF 0 (by decide)
      have f1 : vals 1 = .pointer (some ⟨g, 0, none⟩) := hF 1 (by decide)
      have f2 : vals 2 = .pointer (some ⟨g, 2, none⟩) := hF 2 (by decide)
      have f3 : vals 3 = .map (some bm) := hF 3 (by decide)
      have f4 : vals 4 = .agg #[.int .i64 p.1, .int .i64 p.2] := hF 4 (by decide)
      have f5 : (vals 5) = .agg #[.pointer q, .int .i64 s] := hF 5 (by decide)
      have f6 : vals 6 = .pointer q := hF 6 (by decide)
      rw [f0, f1, f2, f3, f4, f6]
      clear f0 f1 f2 f3 f4 f6
      rw [f5]
      clear f5
      gi_wp2_with (fail)
      refine ⟨trivial, callsIn_round ((all_any _ q rfl wd).mono ?_)⟩
      rintro e w5 ⟨rfl, rfl⟩
      gi_wp2_with (fail)
      have hbx2 := Blk.new wd 59 #[.pointer q]
      have oY : Only [] X (wd.alloc (.cells #[.pointer q] 59)) := (((Only.refl [] X).drew).trans hR (by simp)).alloc _
      have hse2 := hsq _ _ oY hbx2
      have HPY := Lib.hid (oY.blk HPB.out (by simp))
      have HAY := Lib.hid (HAA.out.keepC (KeepC.of_only (B := 0) oY))
      have HOY := Lib.hid (HOO.out.trans oY (by simp))
      have HOXY := Lib.hid oY
      obtain ⟨r0, hr0⟩ := HREC.out
      have hr1 := (oY.block l0 (Array.getElem?_eq_some_iff.1 hr0).1 (by simp)).trans hr0
      obtain ⟨cb2, hcb2⟩ : ∃ cb2, wd.heap.size = cb2 := ⟨_, rfl⟩
      rw [hcb2] at hse2 hbx2 ⊢
      clear oY HPB HAA HREC hr0 hR hF hsq hpk hat hD hf0 hcb2 HNX HCX HHK
      generalize hY5 : wd.alloc (.cells #[.pointer q] 59) = Y at *
      have hpY : pb < Y.heap.size := HPY.out.lt
      obtain ⟨acc0, hacc0⟩ : ∃ acc0, onP Ls ((prs n).take k) = acc0 := ⟨_, rfl⟩
      rw [hacc0] at HAY
      have HL0 := Lib.hid (show acc0.length ≤ 4194304 from hacc0 ▸ HLL.out k)
      have HACC0 := Lib.hid hacc0
      clear hacc0 hY5
      refine' wpIn_rangeFunc_seqsN (l0 := l0) (r0 := r0) (gf := 33) (lb := #[.pointer (some ⟨cb2, 0, none⟩)]) (vs := pairs (laneX Ls p)) hr1 rfl (enters Try.func33 (by kernel_rfl) rfl)
        hse2 (by intro v hv; simp only [pairs, List.mem_map] at hv; obtain ⟨_, _, rfl⟩ := hv; rfl) (alS ab lb A1 A2) (fun b hb => HAY.out.lt b hb) (by simp)
        (fun j S Z => ∃ D1 d1 D2 d2, AL W.heap.size Z ab lb (acc0 ++ ((laneX Ls p).take j).map fun v => (p, v)) D1 d1 D2 d2 ∧ S = alS ab lb D1 D2 ∧ Only (alS ab lb A1 A2) Y Z ∧ ∀ x ∈ S, x ∈ alS ab lb A1 A2 ∨ Y.heap.size ≤ x) (fun _ _ => False) ?hI2 (fun _ _ _ h _ => h) ?h02
        _ ?assign2 ?body2 ?done2 (fun _ _ h => h.elim)
      case assign2 =>
        intro l1 j v Z K hv hKK
        obtain rfl : #[.int .i64 (j : Int), .int .i64 ((laneX Ls p)[j]?.getD 0)] = v := by
          have hj : j < (laneX Ls p).length := by
            have := (List.getElem?_eq_some_iff.1 hv).1
            simpa [pairs] using this
          rw [pairs_at hj] at hv
          injection hv with hv
          rw [← hv]
          simp [hj]
        clear hv
        gi_wp2
        exact hKK
      case hI2 =>
        rintro j S Z1 Z2 ⟨D1, d1, D2, d2, h1, rfl, h3, h4⟩ hk
        exact ⟨D1, d1, D2, d2, h1.keepC hk, rfl, h3.keepC hk (Nat.le_refl _), h4⟩
      case h02 => exact ⟨A1, c1, A2, c2, by simpa using HAY.out, rfl, Only.refl _ _, fun x hx => .inl hx⟩
      case body2 =>
        intro l1 j v S Z hv hI
        obtain ⟨D1, d1, D2, d2, hA, rfl, hO, hS4⟩ := hI
        have hj : j < (laneX Ls p).length := by
          have := (List.getElem?_eq_some_iff.1 hv).1
          simpa [pairs] using this
        obtain ⟨x, hx⟩ : ∃ x, (laneX Ls p)[j]? = some x := ⟨_, List.getElem?_eq_getElem hj⟩
        have htj : (laneX Ls p).take (j + 1) = (laneX Ls p).take j ++ [x] := by rw [List.take_add_one, hx]; rfl
        have HTJ := Lib.hid htj
        have HLEN := Lib.hid (show (acc0 ++ ((laneX Ls p).take j).map fun v => (p, v)).length ≤ 100000000 from by have := HL0.out; have := HLE.out p; simp; omega)
        rw [hx]
        dsimp only [Option.getD_some]
        clear hv htj hx hj
        generalize hacc : (acc0 ++ ((laneX Ls p).take j).map fun v => (p, v)) = acc at hA HLEN
        have hpA : pb ∉ alS ab lb A1 A2 := fun hm => by have := HOLD.out pb hm; omega
        have hpD : pb ∉ alS ab lb D1 D2 := fun hm => by
          rcases hS4 pb hm with h | h
          · exact hpA h
          · omega
        have HPZ := Lib.hid (hO.blk HPY.out hpA)
        have HA1 := Lib.hid (show ∀ q, D1 = some q → q.block < Z.heap.size from fun q e => hA.lt _ (by simp [alS, e]))
        have HNR := Lib.hid (show (¬ ∃ q, D1 = some q ∧ q.block = ab) ∧ (¬ ∃ q, D1 = some q ∧ q.block = pb) ∧ (¬ ∃ q, D1 = some q ∧ q.block = lb) from
          ⟨fun ⟨q, e1, e2⟩ => own_blk hA.ra hA.ba (by decide) (by rw [e1, ← e2]; rfl), fun ⟨q, e1, e2⟩ => hpD (by simp [alS, e1, e2]), fun ⟨q, e1, e2⟩ => own_blk hA.ra hA.bl (by decide) (by rw [e1, ← e2]; rfl)⟩)
        have HWZ := Lib.hid (show W.heap.size ≤ Z.heap.size by have := hO.size; have := HOY.out.size; omega)
        have HAL := Lib.hid hA
        have HOZ := Lib.hid hO
        have HS4 := Lib.hid hS4
        have HACC := Lib.hid hacc
        clear hA hO hS4 hpD hacc
        gi_wp2_with (fail)
        refine wpIn_region_relR 7 (Tow (rowR D1 (psV (acc ++ [(p, x)])))) (fr := ?frb) (tl := ?tlb) (fun iq v wv => match iq with
          | 0 => v = .slice D1 (acc.length : Nat) d1
          | 1 => v = .agg #[.int .i64 p.1, .int .i64 p.2]
          | 2 => SrcV Z.heap.size 50 #[.int .i64 p.1, .int .i64 p.2] v wv
          | 3 => GotV W.heap.size Z.heap.size acc.length D1 (psV (acc ++ [(p, x)])) v wv
          | 4 => v = .slice D2 (acc.length : Nat) d2
          | 5 => v = .int .i64 x
          | 6 => SrcV Z.heap.size 3 #[.int .i64 x] v wv
          | _ => True) (.inr ⟨_, rfl⟩) (by kernel_rfl) (by kernel_rfl) (by kernel_rfl) (by kernel_rfl) (by kernel_rfl) (by kernel_rfl) (by decide) ?htlb ?hfrb (Tow.refl _ _) (fun _ _ _ h k => h.trans k) ?stabb ?stepsb ?doneb
        case htlb => simp only [List.drop_succ_cons, List.drop_zero]; rfl
        case hfrb => intro vals; simp only [putAll, dstAt, Act.put, List.getElem?_toArray, List.getElem?_cons_zero, List.getElem?_cons_succ, Option.bind_some, List.setIfInBounds_toArray, List.set_cons_zero, List.set_cons_succ]; rfl
        case stabb =>
          intro i v wa wb h
          try dsimp only
          split <;> first | exact id | (exact fun hf => SrcV.tow hf h HA1.out) | (exact fun hf => GotV.tow hf h)
        case stepsb =>
          refine ⟨?_, ?_, ?_, ?_, ?_, ?_, ?_, trivial⟩
          · intro vals wr hR hp K hK
            dsimp only at hK ⊢
            clear hp
            unfold RunsOp
            have tg := hR.blk (Blk.drew HAL.out.ba) (fun T hT => HNR.out.1 (rowR_mem hT).1)
            obtain ⟨k0, kl⟩ := tg.facts1
            clear tg
            go_simp
            exact hK.out _ _ ⟨_, rfl, Tow.refl _ _, rfl⟩
          · intro vals wr hR hp K hK
            dsimp only at hK ⊢
            clear hp
            unfold RunsOp
            have tg := hR.blk (Blk.drew HPZ.out) (fun T hT => HNR.out.2.1 (rowR_mem hT).1)
            obtain ⟨k0, k1, kl⟩ := tg.facts2
            clear tg
            go_simp
            exact hK.out _ _ ⟨_, rfl, Tow.refl _ _, rfl⟩
          · intro vals wr hR hp K hK
            dsimp only at hK ⊢
            obtain ⟨p1, -⟩ := hp
            replace p1 := p1 rfl
            dsimp only at p1
            rw [p1] at hK ⊢
            clear p1
            unfold RunsOp
            have hsz := hR.size
            go_simp
            exact hK.out _ _ ⟨_, rfl, Tow.of_only ((Only.refl _ _).alloc _), _, rfl, Blk.new _ _ _, hsz⟩
          · intro vals wr hR hp K hK
            dsimp only at hK ⊢
            obtain ⟨p0, p2, -⟩ := hp
            replace p0 := p0 rfl
            replace p2 := p2 rfl
            dsimp only at p0 p2
            rw [p0] at hK ⊢
            clear p0
            unfold RunsOp
            have hsz : Z.heap.size ≤ wr.heap.size := hR.size
            obtain ⟨v', w', hrun, ht, hgv⟩ := got_append (N := Z.heap.size) (p := p) (x := x) (m := acc.length) (hR.own (w := Z.drew) HAL.out.ra (fun k T _ hT => by rw [(rowR_mem hT).2, psV_snoc]; exact List.prefix_append _ _)) p2 (by have := HWZ.out; omega) hsz HLEN.out rfl
            refine runs_append hrun rfl _ _ rfl rfl rfl rfl ?_
            exact hK.out _ _ ⟨_, rfl, ht, hgv⟩
          · intro vals wr hR hp K hK
            dsimp only at hK ⊢
            clear hp
            unfold RunsOp
            have tg := hR.blk (Blk.drew HAL.out.bl) (fun T hT => HNR.out.2.2 (rowR_mem hT).1)
            obtain ⟨k0, kl⟩ := tg.facts1
            clear tg
            go_simp
            exact hK.out _ _ ⟨_, rfl, Tow.refl _ _, rfl⟩
          · intro vals wr hR hp K hK
            dsimp only at hK ⊢
            clear hp
            unfold RunsOp
            go_simp
            exact hK.out _ _ ⟨_, rfl, Tow.refl _ _, rfl⟩
          · intro vals wr hR hp K hK
            dsimp only at hK ⊢
            obtain ⟨p5, -⟩ := hp
            replace p5 := p5 rfl
            dsimp only at p5
            rw [p5] at hK ⊢
            clear p5
            unfold RunsOp
            have hsz := hR.size
            go_simp
            exact hK.out _ _ ⟨_, rfl, Tow.of_only ((Only.refl _ _).alloc _), _, rfl, Blk.new _ _ _, hsz⟩
        case doneb =>
          intro vals wd hR hF
          have f0 : vals 0 = .slice D1 (acc.length : Nat) d1 := hF 0 (by decide)
          have f1 : vals 1 = .agg #[.int .i64 p.1, .int .i64 p.2] := hF 1 (by decide)
          have f2 : SrcV Z.heap.size 50 #[.int .i64 p.1, .int .i64 p.2] (vals 2) wd := hF 2 (by decide)
          have f3 : GotV W.heap.size Z.heap.size acc.length D1 (psV (acc ++ [(p, x)])) (vals 3) wd := hF 3 (by decide)
          have f4 : vals 4 = .slice D2 (acc.length : Nat) d2 := hF 4 (by decide)
          have f5 : vals 5 = .int .i64 x := hF 5 (by decide)
          have f6 : SrcV Z.heap.size 3 #[.int .i64 x] (vals 6) wd := hF 6 (by decide)
          rw [f0, f1, f4, f5]
          clear f0 f1 f4 f5
          have hT := (Tow.of_only (R := rowR D1 (psV (acc ++ [(p, x)]))) ((Only.refl [] Z).drew)).trans hR
          have hszT := hT.size
          obtain ⟨-, -, rl⟩ := HAL.out.mid hT (Only.refl _ wd)
          obtain ⟨g7, cap7, w7, hrun7, ho7, o7, hg7⟩ := got_append1 rl f6 (by have := HWZ.out; omega) HLEN.out
          obtain ⟨b7, l7, -⟩ := HAL.out.mid hT o7
          obtain ⟨k0, kl⟩ := b7.facts1
          obtain ⟨j0, jl⟩ := l7.facts1
          have fr1 := b7.frozen 0
          have fr2 := l7.frozen 0
          obtain ⟨g1, cap1, e3, hA', hO', hS'⟩ := HAL.out.step hne hT f3 ho7 o7 hg7
          rw [e3] at hA' hO' ⊢
          have HA' := Lib.hid hA'
          have HO' := Lib.hid hO'
          have HS' := Lib.hid hS'
          have hne2 : lb ≠ ab := fun e => hne e.symm
          clear hA' hO' hS' ho7 o7 hg7 rl b7 l7 hT hR hF f3 f6 e3
          gi_wp2_with (gi_at_builtin; refine wpListIn_append_run hrun7 rfl _ _ rfl rfl rfl rfl ?_)
          refine ⟨⟨_, ⟨some ⟨g1, 0, none⟩, cap1, some ⟨g7, 0, none⟩, cap7, ?_, rfl, HOZ.out.trans HO'.out HS4.out, fun y hy => ?_⟩, HS'.out⟩, HO'.out⟩
          · have := HA'.out
            rw [HTJ.out, List.map_append, ← List.append_assoc, HACC.out]
            exact this
          · rcases HS'.out y hy with h | h
            · exact HS4.out y h
            · right; have := HOZ.out.size; omega
      case done2 =>
        rintro S Z ⟨D1, d1, D2, d2, hA, rfl, hO, hS4⟩
        have e1 : (pairs (laneX Ls p)).length = (laneX Ls p).length := by simp [pairs]
        rw [e1, List.take_length] at hA
        have hsX := HOXY.out.size
        refine ⟨⟨_, ⟨D1, d1, D2, d2, ?_, rfl, HOY.out.trans hO (fun y hy => ?_)⟩, fun y hy => ?_⟩, (HOXY.out.mono (fun _ h => by simp at h)).trans hO (fun _ h => .inl h)⟩
        · rw [HTK.out, onP_snoc, HACC0.out]
          exact hA
        · right
          rcases HAY.out.ge y hy with h | h | h <;> omega
        · rcases hS4 y hy with h | h
          · exact .inl h
          · right; omega
  case done =>
    intro D S9 X hD hI hKD
    obtain ⟨A1, c1, A2, c2, hA, rfl, hO⟩ := hI
    have e1 : (valsP (prs n)).length = (prs n).length := by simp [valsP]
    rw [e1, List.take_length] at hA
    have hML := HLL.out (prs n).length
    rw [List.take_length] at hML
    obtain ⟨M, hM⟩ : ∃ M, onP Ls (prs n) = M := ⟨_, rfl⟩
    rw [hM] at HY hML hA
    have HM := Lib.hid hM
    have HJ0 := Lib.hid (HJ.out 0 S W X H0.out (KeepT.grow hO))
    have HAX := Lib.hid hA
    have HKD := Lib.hid hKD
    have HOX := Lib.hid hO
    have hDX : D < X.heap.size := (Array.getElem?_eq_some_iff.1 hKD).1
    have hDW : W.heap.size ≤ D := Nat.le_trans hWW hD
    obtain ⟨k0, kl⟩ := hA.ba.facts1
    clear hM hA hKD hO hseq X1' X2' HC' HO' HLL HLE e1 H0 HN
    go_wp2_with (fail)
    refine (wpIn_wide (n := 9)).1 ?_
    gi_loopw [33] (fun i wr => ∃ (k : Nat) (S' : List Nat), i = .int .i64 k ∧ k ≤ M.length ∧ J k S' wr ∧ (∀ b ∈ S', b ∈ S ∨ X.heap.size ≤ b) ∧ AL W.heap.size wr ab lb M A1 c1 A2 c2 ∧ X.heap.size ≤ wr.heap.size ∧ wr.heap[D]? = some (.deferred (some []))) (fun i _ => M.length - (intOf i).toNat)
    case atStart => exact ⟨0, S, rfl, Nat.zero_le _, HJ0.out, fun b h => .inl h, HAX.out, Nat.le_refl _, HKD.out⟩
    case round =>
      clear k0 kl
      obtain ⟨k, S', rfl, hk, hJk, hSk, hAk, hszr, hKk⟩ := hrel
      have HJk := Lib.hid hJk
      have HSk := Lib.hid hSk
      have HAk := Lib.hid hAk
      have HKk := Lib.hid hKk
      by_cases hlt : k < M.length
      · obtain ⟨e, he⟩ : ∃ e, M[k]? = some e := ⟨_, List.getElem?_eq_getElem hlt⟩
        obtain ⟨b1, b2, rfl, rfl, q0, q1, q2⟩ := hAk.at he
        have hb1 := hAk.lt b1 (by simp [alS])
        have hvk := valsN_at he
        have oA : Only [] wr (wr.alloc (.cells #[.int .i64 e.1.1, .int .i64 e.1.2] 50)) := (Only.refl _ _).alloc _
        have HAw := Lib.hid (hAk.keepC (KeepC.of_only (B := 0) oA))
        have HPw := Lib.hid (Blk.new wr 50 #[.int .i64 e.1.1, .int .i64 e.1.2])
        have HOw := Lib.hid oA
        have iz : (k : Int) < (M.length : Int) := by omega
        clear hJk hSk hAk hKk oA
        gi_wp2_with (fail)
        generalize hwr2 : wr.alloc (.cells #[.int .i64 e.1.1, .int .i64 e.1.2] 50) = wr2 at *
        have hb2w := HAw.out.lt b2 (by simp [alS])
        have HB2 := Lib.hid (show (⟨b2, k, none⟩ : Addr).block < wr2.drew.heap.size from hb2w)
        have HQ2 := Lib.hid ((HOw.out.cell (p := ⟨b2, k, none⟩) (HAk.out.lt b2 (by simp [alS])) (by simp)).trans q2)
        have HIZ := Lib.hid (And.intro (show (0 : Int) ≤ (k : Int) by omega) iz)
        have HVK := Lib.hid hvk
        clear hwr2 q0 q1 q2 hvk hlt hb1
        refine wpIn_region_relR 6 (Only []) (fr := ?frc) (tl := ?tlc) (fun iq v wv => match iq with
          | 0 => v = .func (.yield l) #[] #[]
          | 1 => v = .agg #[.int .i64 e.1.1, .int .i64 e.1.2]
          | 2 => v = .slice (some ⟨b2, 0, none⟩) M.length c2
          | 3 => v = .int .i64 (k : Int)
          | 4 => v = .pointer (some ⟨b2, k, none⟩)
          | 5 => v = .int .i64 e.2
          | _ => True) (.inl rfl) (by kernel_rfl) (by kernel_rfl) (by kernel_rfl) (by kernel_rfl) (by kernel_rfl) (by kernel_rfl) (by decide) ?htlc ?hfrc (Only.refl _ _) (fun _ _ _ h k => h.trans k (fun _ hx => .inl hx)) ?stabc ?stepsc ?donec
        case htlc => simp only [List.drop_succ_cons, List.drop_zero]; rfl
        case hfrc => intro vals; simp only [putAll, dstAt, Act.put, List.getElem?_toArray, List.getElem?_cons_zero, List.getElem?_cons_succ, Option.bind_some, List.setIfInBounds_toArray, List.set_cons_zero, List.set_cons_succ]; rfl
        case stabc =>
          intro i v wa wb h
          try dsimp only
          split <;> first | exact id
        case stepsc =>
          refine ⟨?_, ?_, ?_, ?_, ?_, ?_, trivial⟩
          · intro vals wr hR hp K hK
            dsimp only at hK ⊢
            clear hp
            unfold RunsOp
            go_simp
            exact hK.out _ _ ⟨_, rfl, Only.refl _ _, rfl⟩
          · intro vals wr hR hp K hK
            dsimp only at hK ⊢
            clear hp
            unfold RunsOp
            have tg := hR.blk (Blk.drew HPw.out) (by simp)
            obtain ⟨k0, k1, kl⟩ := tg.facts2
            clear tg
            go_simp
            exact hK.out _ _ ⟨_, rfl, Only.refl _ _, rfl⟩
          · intro vals wr hR hp K hK
            dsimp only at hK ⊢
            clear hp
            unfold RunsOp
            have tg := hR.blk (Blk.drew HAw.out.bl) (by simp)
            obtain ⟨k0, kl⟩ := tg.facts1
            clear tg
            go_simp
            exact hK.out _ _ ⟨_, rfl, Only.refl _ _, rfl⟩
          · intro vals wr hR hp K hK
            dsimp only at hK ⊢
            clear hp
            unfold RunsOp
            go_simp
            exact hK.out _ _ ⟨_, rfl, Only.refl _ _, rfl⟩
          · intro vals wr hR hp K hK
            dsimp only at hK ⊢
            obtain ⟨p2, p3, -⟩ := hp
            replace p2 := p2 rfl
            replace p3 := p3 rfl
            dsimp only at p2 p3
            rw [p2, p3] at hK ⊢
            clear p2 p3
            unfold RunsOp
            have iz := HIZ.out
            go_simp
            exact hK.out _ _ ⟨_, rfl, Only.refl _ _, rfl⟩
          · intro vals wr hR hp K hK
            dsimp only at hK ⊢
            obtain ⟨p4, -⟩ := hp
            replace p4 := p4 rfl
            dsimp only at p4
            rw [p4] at hK ⊢
            clear p4
            unfold RunsOp
            have k0 := (hR.cell (p := ⟨b2, k, none⟩) HB2.out (by simp)).trans HQ2.out
            go_simp
            exact hK.out _ _ ⟨_, rfl, Only.refl _ _, rfl⟩
        case donec =>
          intro vals wd hR hF
          have f0 : vals 0 = .func (.yield l) #[] #[] := hF 0 (by decide)
          have f1 : vals 1 = .agg #[.int .i64 e.1.1, .int .i64 e.1.2] := hF 1 (by decide)
          have f2 : vals 2 = .slice (some ⟨b2, 0, none⟩) M.length c2 := hF 2 (by decide)
          have f3 : vals 3 = .int .i64 (k : Int) := hF 3 (by decide)
          have f4 : vals 4 = .pointer (some ⟨b2, k, none⟩) := hF 4 (by decide)
          have f5 : vals 5 = .int .i64 e.2 := hF 5 (by decide)
          rw [f0, f1, f2, f3, f4, f5]
          clear f0 f1 f2 f3 f4 f5
          have HJd := Lib.hid (HJ.out k S' _ wd HJk.out (KeepT.grow ((HOw.out.drew).trans hR (by simp))))
          obtain ⟨fn, tmps, assign, body, hy, hRd⟩ := HY.out k S' wd _ HVK.out HJd.out
          have HRd := Lib.hid hRd
          clear hRd
          gi_wp2_with (fail)
          have HAd := Lib.hid (HAw.out.only ((Only.refl [] wr2).drew.trans hR (by simp)) (by simp))
          have hsd : wr.heap.size ≤ wd.heap.size := by have := HOw.out.size; have : wr2.heap.size ≤ wd.heap.size := hR.size; omega
          have HKd := Lib.hid ((((HOw.out.drew).trans hR (by simp)).block D (by omega) (by simp)).trans HKk.out)
          have hfar : ∀ x, W.heap.size ≤ x → x < X.heap.size → x ∉ l :: S' := fun x h1 h2 hm => by
            rcases List.mem_cons.1 hm with h | h
            · omega
            · rcases HSk.out x h with h | h
              · have := HS.out x h; omega
              · omega
          have HFAR := Lib.hid hfar
          clear hR hF hfar HJk HKk HAw HPw HOw HAk
          refine HRd.out.mono ?_
          rintro e9 W3 (⟨rfl, ⟨S3, hJ3, hS3⟩, ho3⟩ | ⟨rfl, ⟨S3, hJ3, hS3⟩, ho3⟩)
          · have HJ3 := Lib.hid hJ3
            have HS3 := Lib.hid hS3
            have HO3 := Lib.hid ho3
            clear hJ3 hS3 ho3
            gi_wp2_with (fail)
            go_roundw
            case rel =>
              have hs3 := HO3.out.size
              refine ⟨k + 1, S3, by go_num, by have := HIZ.out; omega, HJ3.out, fun b hb => ?_, HAd.out.only HO3.out (fun x hx => HFAR.out x ?_ (HAX.out.lt x hx)), by omega, (HO3.out.block D (by omega) (HFAR.out D hDW hDX)).trans HKd.out⟩
              · rcases HS3.out b hb with h | h
                · exact HSk.out b h
                · right; omega
              · rcases HAX.out.ge x hx with h | h | h <;> omega
            case measure => simp [intOf]; have := HIZ.out; omega
          · have HJ3 := Lib.hid hJ3
            have HS3 := Lib.hid hS3
            have HO3 := Lib.hid ho3
            clear hJ3 hS3 ho3
            gi_wp2_with (fail)
            have hD3 := (HO3.out.block D (by omega) (HFAR.out D hDW hDX)).trans HKd.out
            refine ⟨by simp, .inl ⟨_, _, rfl, run_takeDeferred hD3, ?_⟩⟩
            refine ⟨_, results_none rfl _ _ _, ⟨_, rfl⟩, .inr ⟨S3, HJX.out _ _ _ HJ3.out (KeepT.putObj hDW (fun hm => ?_))⟩⟩
            rcases HS3.out D hm with h | h
            · exact HFAR.out D hDW hDX (List.mem_cons_of_mem _ h)
            · omega
      · obtain rfl : k = M.length := by omega
        obtain ⟨k0, kl⟩ := hAk.ba.facts1
        clear hAk hJk hSk hKk
        gi_wp2_with (fail)
        refine ⟨by simp, .inl ⟨_, _, rfl, run_takeDeferred HKk.out, ?_⟩⟩
        refine ⟨_, results_none rfl _ _ _, ⟨_, rfl⟩, .inl ⟨S', ?_⟩⟩
        rw [HM.out]
        refine HJ.out _ _ _ _ HJk.out (KeepT.putObj hDW (fun hm => ?_))
        rcases HSk.out D hm with h | h
        · have := HS.out D h; omega
        · omega
end Go.Proofs.Ytlhmhpopppfpkaa
