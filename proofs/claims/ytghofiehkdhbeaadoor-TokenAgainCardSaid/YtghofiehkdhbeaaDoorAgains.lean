/- TokenAgain. -/
import Derived.Test.YtghofiehkdhbeaaDoorCuts
namespace Go.Proofs.YtghofiehkdhbeaaDoor
open Go.RowKit Go.Kx Go.Tok
set_option maxRecDepth 100000

def cat (g : List UInt8) (ts : List Tok) : List UInt8 := ts.flatMap fun t => text t ++ g
theorem cat_snoc (g : List UInt8) (ts : List Tok) (t : Tok) : cat g (ts ++ [t]) = cat g ts ++ (text t ++ g) := by simp [cat]
theorem flat_cat (g : List UInt8) (ts : List Tok) : flat g ts = cat g ts := by
  induction ts with
  | nil => rfl
  | cons t ts ih =>
    have e : cat g (t :: ts) = text t ++ g ++ cat g ts := rfl
    rw [flat, ih, e, List.append_assoc]
theorem good_len {t : Tok} (h : Go.Tok.Good t) : (text t).length ≤ 20 := by
  cases h with
  | name h1 h2 h3 => simp [text]; omega
  | sym h1 h2 h3 => simp [text]; omega
  | num h => simp only [text, if_true]; exact dec_len _ h
  | two h => simp [text]
  | one h => simp [text]
theorem cat_len {g : List UInt8} (hg : g.length ≤ 3) : ∀ (ts : List Tok), (∀ t ∈ ts, (text t).length ≤ 20) → (cat g ts).length ≤ ts.length * 23
  | [], _ => by simp [cat]
  | t :: ts, h => by
    have e : cat g (t :: ts) = text t ++ g ++ cat g ts := rfl
    have h1 := cat_len hg ts (fun x hx => h x (by simp [hx]))
    have h2 := h t (by simp)
    rw [e, List.length_append, List.length_append, List.length_cons]
    omega
/-- what the law's loop asks of the words -/
structure Fine (s : ByteArray) (ws : List Word) : Prop where
  fits : ∀ (k : Nat) (x : Word), ws[k]? = some x → Fits x.t ∧ (text x.t).length ≤ 20 ∧ x.at_ ≤ s.size
  more : ∀ (k : Nat) (x : Word), ws[k]? = some x → k + 1 < ws.length → x.t.kind ≠ 4
  rise : ∀ (k : Nat) (x y : Word), ws[k]? = some x → ws[k + 1]? = some y → k + 2 < ws.length → x.at_ < y.at_
  last : ∀ (k : Nat) (x : Word), ws[k]? = some x → k + 1 = ws.length → x.t.kind = 4 ∧ x.at_ = s.size
theorem fine_of {s : ByteArray} {ws : List Word} (h : scanR s = (ws, none)) : Fine s ws := by
  obtain ⟨h1, h2⟩ := scanR_none h
  have hc := scan_chain _ s.data.toList 0 ws (Nat.le_refl _) h1
  have hsz : s.data.toList.length = s.size := by simp
  rw [Nat.zero_add, hsz] at hc
  obtain ⟨gs, rfl, hg⟩ := hc.split
  have hlast : ∀ (k : Nat) (x : Word), (gs ++ [⟨eof, s.size⟩])[k]? = some x → (k < gs.length ∧ Go.Tok.Good x.t) ∨ (k = gs.length ∧ x = ⟨eof, s.size⟩) := by
    intro k x hx
    by_cases hk : k < gs.length
    · rw [List.getElem?_append_left hk] at hx
      exact .inl ⟨hk, hg x (List.mem_of_getElem? hx)⟩
    · rw [List.getElem?_append_right (by omega)] at hx
      have h3 := (List.getElem?_eq_some_iff.1 hx).1
      simp at h3
      have h4 : k - gs.length = 0 := by omega
      rw [h4] at hx
      simp at hx
      exact .inr ⟨by omega, hx.symm⟩
  refine ⟨fun k x hx => ?_, fun k x hx hk => ?_, fun k x y hx hy hk => ?_, fun k x hx hk => ?_⟩
  · have h5 := (hc.at_ge x (List.mem_of_getElem? hx)).2
    rcases hlast k x hx with ⟨_, h3⟩ | ⟨_, rfl⟩
    · exact ⟨good_fits h3, good_len h3, h5⟩
    · exact ⟨⟨Nat.zero_le _, by simp [eof], by simp [eof]⟩, by simp [eof, text], h5⟩
  · rcases hlast k x hx with ⟨_, h3⟩ | ⟨h3, _⟩
    · exact good_kind h3
    · simp at hk; omega
  · have h3 := hc.rises k x y hx hy
    have := good_pos h3.2
    omega
  · rcases hlast k x hx with ⟨h3, _⟩ | ⟨_, rfl⟩
    · simp at hk; omega
    · exact ⟨rfl, rfl⟩
theorem again_scan {s : ByteArray} {ws : List Word} (h : scanR s = (ws, none)) {g : List UInt8} (hg : Gap g) : ∃ ws', scanL (cat g (ws.map (·.t))) 0 = (ws', none) ∧ ws'.map (·.t) = ws.map (·.t) := by
  obtain ⟨h1, h2⟩ := scanR_none h
  have hc := scan_chain _ s.data.toList 0 ws (Nat.le_refl _) h1
  obtain ⟨gs, rfl, hgd⟩ := hc.split
  obtain ⟨ws', q1, q2⟩ := scan_flat hg (gs.map (·.t)) (fun t ht => by obtain ⟨w, hw, rfl⟩ := List.mem_map.1 ht; exact hgd w hw) [] (fun x => by simp) 0
  have e : cat g ((gs ++ [(⟨eof, 0 + s.data.toList.length⟩ : Word)]).map fun x : Word => x.t) = [] ++ (flat g (gs.map (·.t)) ++ g) := by
    rw [List.map_append, List.map_cons, List.map_nil, cat_snoc, flat_cat]
    have : text eof = [] := rfl
    rw [this, List.nil_append, List.nil_append]
  exact ⟨ws', by rw [e]; exact q1, by rw [q2, List.map_append]; rfl⟩
/-- the last word's place -/
def LA (ws : List Word) (k : Nat) (la : Int) : Prop := (k = 0 ∧ la = -1) ∨ ∃ j x, k = j + 1 ∧ ws[j]? = some x ∧ la = (x.at_ : Int)
theorem LA.lt {s : ByteArray} {ws : List Word} (hf : Fine s ws) {k : Nat} {la : Int} (h : LA ws k la) {x : Word} (hx : ws[k]? = some x) (hk : k + 1 < ws.length) : la < (x.at_ : Int) := by
  rcases h with ⟨_, rfl⟩ | ⟨j, y, rfl, hy, rfl⟩
  · omega
  · have := hf.rise j y x hy hx hk
    omega
theorem map_at {ws ws' : List Word} (h : ws'.map (·.t) = ws.map (·.t)) {k : Nat} {x : Word} (hx : ws[k]? = some x) : ∃ y, ws'[k]? = some y ∧ y.t = x.t := by
  have h1 := congrArg (·[k]?) h
  simp only [List.getElem?_map, hx, Option.map_some] at h1
  cases hy : ws'[k]? with
  | none => rw [hy] at h1; cases h1
  | some y => rw [hy] at h1; exact ⟨y, rfl, Option.some.inj h1⟩
theorem map_len {ws ws' : List Word} (h : ws'.map (·.t) = ws.map (·.t)) : ws'.length = ws.length := by
  have := congrArg List.length h
  simpa using this
set_option maxHeartbeats 8000000 in
theorem agains_f {w : World} {s : ByteArray} (hT : Tabs w) : Calls Tryd.prog 3 #[.string s, .bool false] w fun r w' => r = .returned (.bool true) ∧ Only [] w w' := by
  have HT := Lib.hid hT
  clear hT
  by_cases hbig : 6000 < s.size
  · have e1 : (6000 : Int) < (s.size : Int) := by omega
    go_enter Tryd.func3, Tryd.ntmps3
    go_wp2_with (fail)
    refine (awake_any HT.out).mono ?_
    rintro r w1 ⟨rfl, o1⟩
    have HO1 := Lib.hid o1
    clear o1
    go_wp2_with (fail)
    refine (awake_any (HT.out.keep HO1.out)).mono ?_
    rintro r w2 ⟨rfl, o2⟩
    have HO2 := Lib.hid (HO1.out.trans o2 (by simp))
    clear o2
    go_wp2_with (fail)
    go_ret
    exact ⟨rfl, HO2.out⟩
  · have e1 : decide ((6000 : Int) < (s.size : Int)) = false := by simp; omega
    obtain ⟨ws, er, hsc⟩ : ∃ ws er, scanR s = (ws, er) := ⟨_, _, rfl⟩
    have hcnt := scanR_count s
    rw [hsc] at hcnt
    have hwl : ws.length ≤ 6001 := by simp at hcnt; omega
    have HSC := Lib.hid hsc
    clear hsc hcnt
    go_enter Tryd.func3, Tryd.ntmps3
    go_wp2_with (fail)
    refine (awake_any HT.out).mono ?_
    rintro r w1 ⟨rfl, o1⟩
    have HO1 := Lib.hid o1
    clear o1
    go_wp2_with (fail)
    refine (scan_any s (by omega) (HT.out.keep HO1.out)).mono ?_
    rintro r w2 ⟨o2, hp⟩
    have HO2 := Lib.hid (HO1.out.trans o2 (by simp))
    rw [HSC.out] at hp
    clear o2
    cases er with
    | some pe =>
      obtain ⟨p, e⟩ := pe
      have hp2 : r = .returned (.tuple #[.slice none 0 0, .int .i64 p, .int .i64 e]) := hp
      subst hp2
      have he := scanR_err HSC.out
      have ee : ((e : Int) == 0) = false := by rw [beq_eq_false_iff_ne]; omega
      have ee2 : ((e : Int) != 0) = true := by simp; omega
      clear hp he
      go_wp2_with (fail)
      go_ret
      exact ⟨rfl, HO2.out⟩
    | none =>
      obtain ⟨A, c, rfl, how⟩ := hp
      have HR := Lib.hid (own_rowW rfl how)
      clear how
      have HFI := Lib.hid (fine_of HSC.out)
      obtain ⟨ws', hag, hmp⟩ := again_scan HSC.out gap_blank
      have HAG := Lib.hid hag
      have HMP := Lib.hid hmp
      have HML := Lib.hid (map_len hmp)
      clear hag hmp
      obtain ⟨N, hN⟩ : ∃ N, ws.length = N := ⟨_, rfl⟩
      rw [hN] at hwl ⊢
      have HN := Lib.hid hN
      clear hN
      obtain ⟨G, hG⟩ : ∃ G : ByteArray, G = ⟨([32] : List UInt8).toArray⟩ := ⟨_, rfl⟩
      have hGs : G.size ≤ 3 := by rw [hG]; decide
      go_wp2_with (fail)
      have hG2 : (⟨#[32]⟩ : ByteArray) = G := by rw [hG]
      rw [hG2]
      clear hG2
      have HGG := Lib.hid hG
      clear hG
      go_loopw [9, 10, 11] (fun sv lv i wr => ∃ (k : Nat) (la : Int) (L : List UInt8), lv = .int .i64 la ∧ sv = .string ⟨L.toArray⟩ ∧ i = .int .i64 k ∧ k ≤ N ∧ -1 ≤ la ∧ la ≤ 6000 ∧ Hid (LA ws k la) ∧ Hid (L = cat [32] ((ws.take k).map (·.t))) ∧ Only [] w2 wr) (fun _ _ i _ => N - (intOf i).toNat)
      case atStart => exact ⟨0, -1, [], rfl, rfl, rfl, Nat.zero_le _, by omega, by omega, Lib.hid (.inl ⟨rfl, rfl⟩), Lib.hid rfl, Only.refl _ _⟩
      case round =>
        obtain ⟨k, la, L, rfl, rfl, rfl, hk, hl1, hl2, HLA, HL, hO⟩ := hrel
        have HOr := Lib.hid hO
        clear hO
        have hLl : L.length ≤ 200000 := by
          have h1 := HL.out
          rw [h1]
          have := cat_len (g := [32]) (by decide) ((ws.take k).map (·.t)) (fun t ht => by
            obtain ⟨x, hx, rfl⟩ := List.mem_map.1 ht
            obtain ⟨i, hi⟩ := List.getElem?_of_mem (List.mem_of_mem_take hx)
            exact (HFI.out.fits i x hi).2.1)
          rw [List.length_map, List.length_take] at this
          omega
        by_cases hlt : k < N
        · obtain ⟨x, hx⟩ : ∃ x, ws[k]? = some x := ⟨_, List.getElem?_eq_getElem (by have := HN.out; omega)⟩
          have HXW := Lib.hid hx
          obtain ⟨f1, f2, f3⟩ := HFI.out.fits k x hx
          have HTX := Lib.hid (fun w => text_any x.t x.at_ f1 w)
          obtain ⟨b, o, rfl, hb, c0, c1, c2, c3⟩ := (HR.out.keep HOr.out).at hx
          have hki : (0 : Int) ≤ (k : Int) := by omega
          have hki2 : (k : Int) < (N : Int) := by omega
          have hgl : (⟨(text x.t).toArray⟩ : ByteArray).size ≤ 20 := by show (text x.t).toArray.size ≤ 20; simpa using f2
          by_cases hlast : k + 1 < N
          · have h4 := HFI.out.more k x hx (by have := HN.out; omega)
            have hlt2 := HLA.out.lt HFI.out hx (by have := HN.out; omega)
            have g1 : decide ((x.at_ : Int) ≤ la) = false := decide_eq_false (by omega)
            have g2 : (((x.t.kind : Nat) : Int) == 4) = false := by rw [beq_eq_false_iff_ne]; omega
            have g3 : (((x.t.kind : Nat) : Int) != 4) = true := by simp; omega
            have g4 : (x.t.kind == 4) = false := by rw [beq_eq_false_iff_ne]; omega
            clear hx h4 hlt2 f1
            go_wp2_with (fail)
            refine (HTX.out _).mono ?_
            rintro r w5 ⟨rfl, o5⟩
            have HO5 := Lib.hid (HOr.out.trans o5 (by simp))
            clear o5 c0 c1 c2 c3
            go_wp2_with (fail)
            go_roundw
            case rel => exact ⟨k + 1, x.at_, L ++ (text x.t ++ ([32] : List UInt8)), rfl, by rw [HGG.out, str_app, str_app]; simp, by go_num, by omega, by omega, by omega, Lib.hid (.inr ⟨k, x, rfl, HXW.out, rfl⟩), Lib.hid (by rw [List.map_take, List.take_add_one, List.getElem?_map, HXW.out]; simp only [Option.map_some, Option.toList_some]; rw [cat_snoc, ← List.map_take, ← HL.out]), HO5.out⟩
            case measure => simp [intOf]; omega
          · obtain ⟨h4, hat⟩ := HFI.out.last k x hx (by have := HN.out; omega)
            have g2 : (((x.t.kind : Nat) : Int) == 4) = true := by rw [beq_iff_eq]; omega
            have g3 : (((x.t.kind : Nat) : Int) != 4) = false := by simp; omega
            have g4 : (x.t.kind == 4) = true := by rw [beq_iff_eq]; omega
            have g5 : (((x.at_ : Nat) : Int) != (s.size : Int)) = false := by simp; omega
            have g6 : (((k : Nat) : Int) != (N : Int) - 1) = false := by simp; omega
            have g7 : (x.at_ != s.size) = false := by simp; omega
            clear hx h4 hat f1
            cases g1 : decide ((x.at_ : Int) ≤ la)
            all_goals
              go_wp2_with (fail)
              refine (HTX.out _).mono ?_
              rintro r w5 ⟨rfl, o5⟩
              have HO5 := Lib.hid (HOr.out.trans o5 (by simp))
              clear o5 c0 c1 c2 c3
              go_wp2_with (fail)
              go_roundw
              case rel => exact ⟨k + 1, x.at_, L ++ (text x.t ++ ([32] : List UInt8)), rfl, by rw [HGG.out, str_app, str_app]; simp, by go_num, by omega, by omega, by omega, Lib.hid (.inr ⟨k, x, rfl, HXW.out, rfl⟩), Lib.hid (by rw [List.map_take, List.take_add_one, List.getElem?_map, HXW.out]; simp only [Option.map_some, Option.toList_some]; rw [cat_snoc, ← List.map_take, ← HL.out]), HO5.out⟩
              case measure => simp [intOf]; omega
        · obtain rfl : k = N := by omega
          have hLw : L = cat [32] (ws.map (·.t)) := by have := HL.out; rwa [← HN.out, List.take_length] at this
          have HLW := Lib.hid hLw
          clear hLw HL HLA
          by_cases hbg : 16384 < L.length
          · have e5 : (16384 : Int) < (L.length : Int) := by omega
            go_wp2_with (fail)
            go_ret
            exact ⟨rfl, HO2.out.trans HOr.out (by simp)⟩
          · have e5 : decide ((16384 : Int) < (L.length : Int)) = false := by simp; omega
            have hsz : (⟨L.toArray⟩ : ByteArray).size = L.length := by show L.toArray.size = _; simp
            have HS2 := Lib.hid (show scanR ⟨L.toArray⟩ = (ws', none) from scanR_of (by show scanL L.toArray.toList 0 = _; rw [HLW.out]; exact HAG.out) (by omega))
            have HO3 := Lib.hid (HO2.out.trans HOr.out (by simp))
            have C := Lib.hid (scan_any ⟨L.toArray⟩ (by omega) (HT.out.keep HO3.out))
            have HR3 := Lib.hid (HR.out.keep HOr.out)
            clear hsz
            go_wp2_with (fail)
            refine C.out.mono ?_
            rintro r w4 ⟨o4, hp⟩
            rw [HS2.out] at hp
            obtain ⟨A2, c2, rfl, how⟩ := hp
            have HO4 := Lib.hid (HO3.out.trans o4 (by simp))
            have HR4 := Lib.hid (HR3.out.keep o4)
            have hML : ws'.length = k := by rw [HML.out, HN.out]
            have HRM := Lib.hid (own_rowW rfl how)
            rw [hML]
            have HML2 := Lib.hid hML
            have hkk : ((k : Int) != (k : Int)) = false := by simp
            clear o4 how hML
            go_wp2_with (fail)
            go_loopw [15] (fun i wr => ∃ j : Nat, i = .int .i64 j ∧ j ≤ k ∧ Only [] w4 wr) (fun i _ => k - (intOf i).toNat)
            case atStart => exact ⟨0, rfl, Nat.zero_le _, Only.refl _ _⟩
            case round =>
              obtain ⟨j, rfl, hj, hO⟩ := hrel
              have HOq := Lib.hid hO
              clear hO
              by_cases hlt : j < k
              · obtain ⟨x, hx⟩ : ∃ x, ws[j]? = some x := ⟨_, List.getElem?_eq_getElem (by have := HN.out; omega)⟩
                obtain ⟨y, hy, hyt⟩ := map_at HMP.out hx
                obtain ⟨b, o, rfl, hb, c0, c1, c2', c3⟩ := (HR4.out.keep HOq.out).at hx
                obtain ⟨b3, o3, rfl, hb3, d0, d1, d2, d3⟩ := (HRM.out.keep HOq.out).at hy
                rw [hyt] at d0 d1 d2
                have hki : (0 : Int) ≤ (j : Int) := by omega
                have hki2 : (j : Int) < (k : Int) := by omega
                clear hx hy hyt
                go_wp2_with (fail)
                go_quiet (fail)
                go_wp2_with (fail)
                go_roundw
                case rel => exact ⟨j + 1, by go_num, by omega, by first | exact HOq.out | exact HOq.out.drewN _⟩
                case measure => simp [intOf]; omega
              · have hki2 : ¬ (j : Int) < (k : Int) := by omega
                go_wp2_with (fail)
                go_ret
                exact ⟨rfl, HO4.out.trans HOq.out (by simp)⟩
set_option maxHeartbeats 8000000 in
theorem agains_t {w : World} {s : ByteArray} (hT : Tabs w) : Calls Tryd.prog 3 #[.string s, .bool true] w fun r w' => r = .returned (.bool true) ∧ Only [] w w' := by
  have HT := Lib.hid hT
  clear hT
  by_cases hbig : 6000 < s.size
  · have e1 : (6000 : Int) < (s.size : Int) := by omega
    go_enter Tryd.func3, Tryd.ntmps3
    go_wp2_with (fail)
    refine (awake_any HT.out).mono ?_
    rintro r w1 ⟨rfl, o1⟩
    have HO1 := Lib.hid o1
    clear o1
    go_wp2_with (fail)
    refine (awake_any (HT.out.keep HO1.out)).mono ?_
    rintro r w2 ⟨rfl, o2⟩
    have HO2 := Lib.hid (HO1.out.trans o2 (by simp))
    clear o2
    go_wp2_with (fail)
    go_ret
    exact ⟨rfl, HO2.out⟩
  · have e1 : decide ((6000 : Int) < (s.size : Int)) = false := by simp; omega
    obtain ⟨ws, er, hsc⟩ : ∃ ws er, scanR s = (ws, er) := ⟨_, _, rfl⟩
    have hcnt := scanR_count s
    rw [hsc] at hcnt
    have hwl : ws.length ≤ 6001 := by simp at hcnt; omega
    have HSC := Lib.hid hsc
    clear hsc hcnt
    go_enter Tryd.func3, Tryd.ntmps3
    go_wp2_with (fail)
    refine (awake_any HT.out).mono ?_
    rintro r w1 ⟨rfl, o1⟩
    have HO1 := Lib.hid o1
    clear o1
    go_wp2_with (fail)
    refine (scan_any s (by omega) (HT.out.keep HO1.out)).mono ?_
    rintro r w2 ⟨o2, hp⟩
    have HO2 := Lib.hid (HO1.out.trans o2 (by simp))
    rw [HSC.out] at hp
    clear o2
    cases er with
    | some pe =>
      obtain ⟨p, e⟩ := pe
      have hp2 : r = .returned (.tuple #[.slice none 0 0, .int .i64 p, .int .i64 e]) := hp
      subst hp2
      have he := scanR_err HSC.out
      have ee : ((e : Int) == 0) = false := by rw [beq_eq_false_iff_ne]; omega
      have ee2 : ((e : Int) != 0) = true := by simp; omega
      clear hp he
      go_wp2_with (fail)
      go_ret
      exact ⟨rfl, HO2.out⟩
    | none =>
      obtain ⟨A, c, rfl, how⟩ := hp
      have HR := Lib.hid (own_rowW rfl how)
      clear how
      have HFI := Lib.hid (fine_of HSC.out)
      obtain ⟨ws', hag, hmp⟩ := again_scan HSC.out gap_remark
      have HAG := Lib.hid hag
      have HMP := Lib.hid hmp
      have HML := Lib.hid (map_len hmp)
      clear hag hmp
      obtain ⟨N, hN⟩ : ∃ N, ws.length = N := ⟨_, rfl⟩
      rw [hN] at hwl ⊢
      have HN := Lib.hid hN
      clear hN
      obtain ⟨G, hG⟩ : ∃ G : ByteArray, G = ⟨([35, 120, 10] : List UInt8).toArray⟩ := ⟨_, rfl⟩
      have hGs : G.size ≤ 3 := by rw [hG]; decide
      go_wp2_with (fail)
      have hG2 : (⟨#[35, 120, 10]⟩ : ByteArray) = G := by rw [hG]
      rw [hG2]
      clear hG2
      have HGG := Lib.hid hG
      clear hG
      go_loopw [9, 10, 11] (fun sv lv i wr => ∃ (k : Nat) (la : Int) (L : List UInt8), lv = .int .i64 la ∧ sv = .string ⟨L.toArray⟩ ∧ i = .int .i64 k ∧ k ≤ N ∧ -1 ≤ la ∧ la ≤ 6000 ∧ Hid (LA ws k la) ∧ Hid (L = cat [35, 120, 10] ((ws.take k).map (·.t))) ∧ Only [] w2 wr) (fun _ _ i _ => N - (intOf i).toNat)
      case atStart => exact ⟨0, -1, [], rfl, rfl, rfl, Nat.zero_le _, by omega, by omega, Lib.hid (.inl ⟨rfl, rfl⟩), Lib.hid rfl, Only.refl _ _⟩
      case round =>
        obtain ⟨k, la, L, rfl, rfl, rfl, hk, hl1, hl2, HLA, HL, hO⟩ := hrel
        have HOr := Lib.hid hO
        clear hO
        have hLl : L.length ≤ 200000 := by
          have h1 := HL.out
          rw [h1]
          have := cat_len (g := [35, 120, 10]) (by decide) ((ws.take k).map (·.t)) (fun t ht => by
            obtain ⟨x, hx, rfl⟩ := List.mem_map.1 ht
            obtain ⟨i, hi⟩ := List.getElem?_of_mem (List.mem_of_mem_take hx)
            exact (HFI.out.fits i x hi).2.1)
          rw [List.length_map, List.length_take] at this
          omega
        by_cases hlt : k < N
        · obtain ⟨x, hx⟩ : ∃ x, ws[k]? = some x := ⟨_, List.getElem?_eq_getElem (by have := HN.out; omega)⟩
          have HXW := Lib.hid hx
          obtain ⟨f1, f2, f3⟩ := HFI.out.fits k x hx
          have HTX := Lib.hid (fun w => text_any x.t x.at_ f1 w)
          obtain ⟨b, o, rfl, hb, c0, c1, c2, c3⟩ := (HR.out.keep HOr.out).at hx
          have hki : (0 : Int) ≤ (k : Int) := by omega
          have hki2 : (k : Int) < (N : Int) := by omega
          have hgl : (⟨(text x.t).toArray⟩ : ByteArray).size ≤ 20 := by show (text x.t).toArray.size ≤ 20; simpa using f2
          by_cases hlast : k + 1 < N
          · have h4 := HFI.out.more k x hx (by have := HN.out; omega)
            have hlt2 := HLA.out.lt HFI.out hx (by have := HN.out; omega)
            have g1 : decide ((x.at_ : Int) ≤ la) = false := decide_eq_false (by omega)
            have g2 : (((x.t.kind : Nat) : Int) == 4) = false := by rw [beq_eq_false_iff_ne]; omega
            have g3 : (((x.t.kind : Nat) : Int) != 4) = true := by simp; omega
            have g4 : (x.t.kind == 4) = false := by rw [beq_eq_false_iff_ne]; omega
            clear hx h4 hlt2 f1
            go_wp2_with (fail)
            refine (HTX.out _).mono ?_
            rintro r w5 ⟨rfl, o5⟩
            have HO5 := Lib.hid (HOr.out.trans o5 (by simp))
            clear o5 c0 c1 c2 c3
            go_wp2_with (fail)
            go_roundw
            case rel => exact ⟨k + 1, x.at_, L ++ (text x.t ++ ([35, 120, 10] : List UInt8)), rfl, by rw [HGG.out, str_app, str_app]; simp, by go_num, by omega, by omega, by omega, Lib.hid (.inr ⟨k, x, rfl, HXW.out, rfl⟩), Lib.hid (by rw [List.map_take, List.take_add_one, List.getElem?_map, HXW.out]; simp only [Option.map_some, Option.toList_some]; rw [cat_snoc, ← List.map_take, ← HL.out]), HO5.out⟩
            case measure => simp [intOf]; omega
          · obtain ⟨h4, hat⟩ := HFI.out.last k x hx (by have := HN.out; omega)
            have g2 : (((x.t.kind : Nat) : Int) == 4) = true := by rw [beq_iff_eq]; omega
            have g3 : (((x.t.kind : Nat) : Int) != 4) = false := by simp; omega
            have g4 : (x.t.kind == 4) = true := by rw [beq_iff_eq]; omega
            have g5 : (((x.at_ : Nat) : Int) != (s.size : Int)) = false := by simp; omega
            have g6 : (((k : Nat) : Int) != (N : Int) - 1) = false := by simp; omega
            have g7 : (x.at_ != s.size) = false := by simp; omega
            clear hx h4 hat f1
            cases g1 : decide ((x.at_ : Int) ≤ la)
            all_goals
              go_wp2_with (fail)
              refine (HTX.out _).mono ?_
              rintro r w5 ⟨rfl, o5⟩
              have HO5 := Lib.hid (HOr.out.trans o5 (by simp))
              clear o5 c0 c1 c2 c3
              go_wp2_with (fail)
              go_roundw
              case rel => exact ⟨k + 1, x.at_, L ++ (text x.t ++ ([35, 120, 10] : List UInt8)), rfl, by rw [HGG.out, str_app, str_app]; simp, by go_num, by omega, by omega, by omega, Lib.hid (.inr ⟨k, x, rfl, HXW.out, rfl⟩), Lib.hid (by rw [List.map_take, List.take_add_one, List.getElem?_map, HXW.out]; simp only [Option.map_some, Option.toList_some]; rw [cat_snoc, ← List.map_take, ← HL.out]), HO5.out⟩
              case measure => simp [intOf]; omega
        · obtain rfl : k = N := by omega
          have hLw : L = cat [35, 120, 10] (ws.map (·.t)) := by have := HL.out; rwa [← HN.out, List.take_length] at this
          have HLW := Lib.hid hLw
          clear hLw HL HLA
          by_cases hbg : 16384 < L.length
          · have e5 : (16384 : Int) < (L.length : Int) := by omega
            go_wp2_with (fail)
            go_ret
            exact ⟨rfl, HO2.out.trans HOr.out (by simp)⟩
          · have e5 : decide ((16384 : Int) < (L.length : Int)) = false := by simp; omega
            have hsz : (⟨L.toArray⟩ : ByteArray).size = L.length := by show L.toArray.size = _; simp
            have HS2 := Lib.hid (show scanR ⟨L.toArray⟩ = (ws', none) from scanR_of (by show scanL L.toArray.toList 0 = _; rw [HLW.out]; exact HAG.out) (by omega))
            have HO3 := Lib.hid (HO2.out.trans HOr.out (by simp))
            have C := Lib.hid (scan_any ⟨L.toArray⟩ (by omega) (HT.out.keep HO3.out))
            have HR3 := Lib.hid (HR.out.keep HOr.out)
            clear hsz
            go_wp2_with (fail)
            refine C.out.mono ?_
            rintro r w4 ⟨o4, hp⟩
            rw [HS2.out] at hp
            obtain ⟨A2, c2, rfl, how⟩ := hp
            have HO4 := Lib.hid (HO3.out.trans o4 (by simp))
            have HR4 := Lib.hid (HR3.out.keep o4)
            have hML : ws'.length = k := by rw [HML.out, HN.out]
            have HRM := Lib.hid (own_rowW rfl how)
            rw [hML]
            have HML2 := Lib.hid hML
            have hkk : ((k : Int) != (k : Int)) = false := by simp
            clear o4 how hML
            go_wp2_with (fail)
            go_loopw [15] (fun i wr => ∃ j : Nat, i = .int .i64 j ∧ j ≤ k ∧ Only [] w4 wr) (fun i _ => k - (intOf i).toNat)
            case atStart => exact ⟨0, rfl, Nat.zero_le _, Only.refl _ _⟩
            case round =>
              obtain ⟨j, rfl, hj, hO⟩ := hrel
              have HOq := Lib.hid hO
              clear hO
              by_cases hlt : j < k
              · obtain ⟨x, hx⟩ : ∃ x, ws[j]? = some x := ⟨_, List.getElem?_eq_getElem (by have := HN.out; omega)⟩
                obtain ⟨y, hy, hyt⟩ := map_at HMP.out hx
                obtain ⟨b, o, rfl, hb, c0, c1, c2', c3⟩ := (HR4.out.keep HOq.out).at hx
                obtain ⟨b3, o3, rfl, hb3, d0, d1, d2, d3⟩ := (HRM.out.keep HOq.out).at hy
                rw [hyt] at d0 d1 d2
                have hki : (0 : Int) ≤ (j : Int) := by omega
                have hki2 : (j : Int) < (k : Int) := by omega
                clear hx hy hyt
                go_wp2_with (fail)
                go_quiet (fail)
                go_wp2_with (fail)
                go_roundw
                case rel => exact ⟨j + 1, by go_num, by omega, by first | exact HOq.out | exact HOq.out.drewN _⟩
                case measure => simp [intOf]; omega
              · have hki2 : ¬ (j : Int) < (k : Int) := by omega
                go_wp2_with (fail)
                go_ret
                exact ⟨rfl, HO4.out.trans HOq.out (by simp)⟩
theorem agains_any {w : World} {s : ByteArray} {z : Bool} (hT : Tabs w) : Calls Tryd.prog 3 #[.string s, .bool z] w fun r w' => r = .returned (.bool true) ∧ Only [] w w' := by
  cases z
  · exact agains_f hT
  · exact agains_t hT
end Go.Proofs.YtghofiehkdhbeaaDoor
