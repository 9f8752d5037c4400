/- Scan, the document's. -/
import Derived.Test.YtghofiehkdhbeaaDoorMark
namespace Go.Proofs.YtghofiehkdhbeaaDoor
open Go.RowKit Go.Kx Go.Tok
set_option maxRecDepth 100000

/-! ### steps of a scan -/
theorem scan_shift {L : List UInt8} {a b : Nat} (h : a + sk false (L.drop a) = b + sk false (L.drop b)) : scanL (L.drop a) a = scanL (L.drop b) b := by
  rw [scanL_eq, scanL_eq (L.drop b)]
  have e : ∀ n, (L.drop a).drop (sk false (L.drop a) + n) = (L.drop b).drop (sk false (L.drop b) + n) := fun n => by
    rw [List.drop_drop, List.drop_drop]; congr 1; omega
  have e0 := e 0
  rw [Nat.add_zero, Nat.add_zero] at e0
  rw [e0]
  cases wordW ((L.drop b).drop (sk false (L.drop b))) with
  | bad e => simp only; rw [h]
  | ok t n =>
    simp only
    rw [h, e n, ← Nat.add_assoc a, ← Nat.add_assoc b, h]
theorem scan_blank {s : ByteArray} {a : Nat} (h : a < s.size) (hb : isBlank s[a] = true) : scanL (s.data.toList.drop a) a = scanL (s.data.toList.drop (a + 1)) (a + 1) :=
  scan_shift (by have := sk_at_blank h hb; omega)
theorem rest_at {s : ByteArray} {k : Nat} (h : k < s.size) : rest (s.data.toList.drop k) = if s[k].toNat = 10 then 0 else rest (s.data.toList.drop (k + 1)) + 1 := by
  rw [drop_cons h]; simp only [rest]
theorem rest_size {s : ByteArray} {k : Nat} (h : k ≤ s.size) : k + rest (s.data.toList.drop k) ≤ s.size := by
  have := rest_le (s.data.toList.drop k)
  simp at this
  omega
theorem rest_byte {s : ByteArray} : ∀ (d k : Nat), s.size - k ≤ d → ∀ h : k + rest (s.data.toList.drop k) < s.size, s[k + rest (s.data.toList.drop k)].toNat = 10 := by
  intro d
  induction d with
  | zero => intro k hk h; omega
  | succ d ih =>
    intro k hk h
    have hks : k < s.size := by omega
    by_cases h10 : s[k].toNat = 10
    · have e : rest (s.data.toList.drop k) = 0 := by rw [rest_at hks, if_pos h10]
      have e2 : k + rest (s.data.toList.drop k) = k := by omega
      simp only [e2]
      exact h10
    · have e : rest (s.data.toList.drop k) = rest (s.data.toList.drop (k + 1)) + 1 := by rw [rest_at hks, if_neg h10]
      have e2 : k + rest (s.data.toList.drop k) = k + 1 + rest (s.data.toList.drop (k + 1)) := by omega
      have h' : k + 1 + rest (s.data.toList.drop (k + 1)) < s.size := by omega
      have := ih (k + 1) (by omega) h'
      simp only [e2]
      exact this
theorem scan_remark {s : ByteArray} {a : Nat} (h : a < s.size) (h35 : s[a].toNat = 35) : scanL (s.data.toList.drop a) a = scanL (s.data.toList.drop (a + rest (s.data.toList.drop a))) (a + rest (s.data.toList.drop a)) := by
  obtain ⟨g1, g2⟩ := sk_at_remark h h35
  refine scan_shift ?_
  by_cases hr : rest (s.data.toList.drop a) < s.size - a
  · obtain ⟨k1, k2⟩ := g1 hr
    have hb : isBlank s[a + rest (s.data.toList.drop a)] = true := by
      unfold isBlank
      rw [rest_byte _ a (Nat.le_refl _) k1]
      rfl
    rw [k2, sk_at_blank k1 hb]
    omega
  · have hz : a + rest (s.data.toList.drop a) = s.size := by have := rest_size (s := s) (Nat.le_of_lt h); omega
    rw [g2 hr, hz, drop_end]
    rfl
theorem scan_word {s : ByteArray} {a n : Nat} {t : Tok} (h : a < s.size) (hb : isBlank s[a] = false) (h35 : s[a].toNat ≠ 35) (hw : wordW (s.data.toList.drop a) = .ok t n) : scanL (s.data.toList.drop a) a = ((⟨t, a⟩ :: (scanL (s.data.toList.drop (a + n)) (a + n)).1), (scanL (s.data.toList.drop (a + n)) (a + n)).2) := by
  have h0 := sk_at_other h hb h35
  have hne : t.kind ≠ 4 := fun h4 => by
    have := (word_len hw).2.1.1 h4
    rw [drop_cons h] at this
    cases this
  rw [scanL_eq, h0, List.drop_zero, hw]
  simp only
  rw [if_neg hne, Nat.zero_add, Nat.add_zero, List.drop_drop]
  rfl
theorem scan_bad {s : ByteArray} {a e : Nat} (h : a < s.size) (hb : isBlank s[a] = false) (h35 : s[a].toNat ≠ 35) (hw : wordW (s.data.toList.drop a) = .bad e) : scanL (s.data.toList.drop a) a = ([], some (a, e)) := by
  have h0 := sk_at_other h hb h35
  rw [scanL_eq, h0, List.drop_zero, hw]
  rfl
theorem scan_end (s : ByteArray) : scanL (s.data.toList.drop s.size) s.size = ([⟨eof, s.size⟩], none) := by
  rw [drop_end, scanL_eq]; rfl
/-- how far a scan has come -/
def At (s : ByteArray) (dn : List Word) (a : Nat) : Prop := scanR s = (dn ++ (scanL (s.data.toList.drop a) a).1, (scanL (s.data.toList.drop a) a).2)
theorem At.shift {s : ByteArray} {dn : List Word} {a b : Nat} (h : At s dn a) (he : scanL (s.data.toList.drop a) a = scanL (s.data.toList.drop b) b) : At s dn b := by
  unfold At at h ⊢; rw [← he]; exact h
theorem At.word {s : ByteArray} {dn : List Word} {a n : Nat} {t : Tok} (h : At s dn a) (he : scanL (s.data.toList.drop a) a = ((⟨t, a⟩ :: (scanL (s.data.toList.drop (a + n)) (a + n)).1), (scanL (s.data.toList.drop (a + n)) (a + n)).2)) : At s (dn ++ [⟨t, a⟩]) (a + n) := by
  unfold At at h ⊢
  rw [h, he]
  simp
theorem At.bad {s : ByteArray} {dn : List Word} {a e : Nat} (h : At s dn a) (he : scanL (s.data.toList.drop a) a = ([], some (a, e))) : scanR s = (dn, some (a, e)) := by
  unfold At at h
  rw [h, he, List.append_nil]
theorem At.fin {s : ByteArray} {dn : List Word} (h : At s dn s.size) : scanR s = (dn ++ [⟨eof, s.size⟩], none) := by
  unfold At at h
  rw [h, scan_end]
theorem At.len {s : ByteArray} {dn : List Word} {a : Nat} (h : At s dn a) : dn.length ≤ s.size + 1 := by
  have := scanR_count s
  unfold At at h
  rw [h] at this
  simp at this
  omega
theorem rletter_w (c : UInt8) (w : World) : Calls Tryd.prog 14 #[.int .u8 c.toNat] w fun e w' => e = .returned (.bool (isLet c)) ∧ w = w' := (rletter_any c w).mono fun _ _ h => ⟨h.1, h.2.symm⟩
theorem rdigit_w (c : UInt8) (w : World) : Calls Tryd.prog 15 #[.int .u8 c.toNat] w fun e w' => e = .returned (.bool (isDig c)) ∧ w = w' := (rdigit_any c w).mono fun _ _ h => ⟨h.1, h.2.symm⟩
/-- what the document's Scan answers -/
def RScanPost (s : ByteArray) (w : World) (r : Ending) (w' : World) : Prop := Only [] w w' ∧
  match scanR s with
  | (ws, none) => ∃ A c, r = .returned (.tuple #[.slice A ws.length c, .int .i64 0, .int .i64 0]) ∧ w'.ownsRow w.heap.size 41 4 (.slice A ws.length c) ws.length (flatW ws)
  | (_, some (p, e)) => r = .returned (.tuple #[.slice none 0 0, .int .i64 p, .int .i64 e])
theorem rs_bad {s : ByteArray} {w w' : World} {dn : List Word} {p e : Nat} {E : Int} (h : scanR s = (dn, some (p, e))) (hE : E = e) (ho : Only [] w w') : RScanPost s w (.returned (.tuple #[.slice none 0 0, .int .i64 p, .int .i64 E])) w' := by
  refine ⟨ho, ?_⟩
  rw [h, hE]
theorem rs_ok {s : ByteArray} {w w' : World} {ws : List Word} {A : Option Addr} {n c : Nat} (h : scanR s = (ws, none)) (hn : n = ws.length) (hw : w'.ownsRow w.heap.size 41 4 (.slice A n c) n (flatW ws)) (ho : Only [] w w') : RScanPost s w (.returned (.tuple #[.slice A n c, .int .i64 0, .int .i64 0])) w' := by
  refine ⟨ho, ?_⟩
  subst hn
  rw [h]
  exact ⟨A, c, rfl, hw⟩
theorem run_appendR {w : World} {base n : Nat} {A : Option Addr} {c : Nat} {dn : List Word} (hown : w.ownsRow base 41 4 (.slice A n c) n (flatW dn)) (x : Word) {K N : Int} {S : ByteArray} (hK : K = x.t.kind) (hN : N = x.t.n) (hS : S = ⟨x.t.s.toArray⟩) (hbase : base ≤ w.heap.size) (hn : n ≤ 100000001) :
    ∃ g cap w1, (Builtin.append_ #[31, 31] 31 #[.slice A n c, .slice (some ⟨w.heap.size, 0, none⟩) 1 1]).run Tryd.prog (w.alloc (.cells #[.int .i64 K, .string S, .int .i64 N, .int .i64 x.at_] 41)) = .ok (.slice (some ⟨g, 0, none⟩) (n + 1) cap) w1 ∧
      w1.ownsRow base 41 4 (.slice (some ⟨g, 0, none⟩) (n + 1) cap) (n + 1) (flatW (dn ++ [x])) ∧ (∀ w0, Only [] w0 w → w0.heap.size = base → Only [] w0 w1) := by
  subst hK hN hS
  obtain ⟨g, cap, w1, h1, h2, h3, _⟩ := run_appendZ (ts := 31) (e := 41) Tryd.underlying31 ref_info rfl (hown.alloc _) x (Blk.new w 41 _) (by simp; omega) hn 31
  refine ⟨g, cap, w1, h1, by rw [flatW_snoc]; exact h2, fun w0 ho hb => (ho.alloc _).trans h3 (fun b hb2 => .inr ?_)⟩
  cases A with
  | none => simp [Value.ownBlock] at hb2
  | some p => simp [Value.ownBlock] at hb2; subst hb2; rw [hb]; exact (hown.lt p.block rfl).1
theorem val_at {s : ByteArray} {a k : Nat} (h : a ≤ k) (hk : k < s.size) : val ((s.data.toList.drop a).take (k + 1 - a)) = 10 * val ((s.data.toList.drop a).take (k - a)) + digit s[k] := by
  have e : k + 1 - a = k - a + 1 := by omega
  have hl : k < s.data.toList.length := by simpa using hk
  have hg : (s.data.toList.drop a)[k - a]? = some s[k] := by
    rw [List.getElem?_drop, show a + (k - a) = k by omega, List.getElem?_eq_getElem hl]
    rfl
  rw [e, List.take_add_one, hg, Option.toList_some, val_snoc]
/-- what the loop over the digits has found -/
def PV (s : ByteArray) (a k m : Nat) (lg : Bool) : Prop := (lg = true → big < val ((s.data.toList.drop a).take (k - a))) ∧ (lg = false → val ((s.data.toList.drop a).take (k - a)) = m)
theorem PV.large {s : ByteArray} {a k m : Nat} {lg : Bool} (hp : PV s a k m lg) (h : a ≤ k) (hk : k < s.size) (ht : 922337203685477580 < m ∨ (m = 922337203685477580 ∧ 7 < digit s[k])) : PV s a (k + 1) m true := by
  refine ⟨fun _ => ?_, fun h => by cases h⟩
  rw [val_at h hk]
  unfold big
  cases lg with
  | true => have := hp.1 rfl; unfold big at this; omega
  | false => have := hp.2 rfl; omega
theorem PV.next {s : ByteArray} {a k m : Nat} {lg : Bool} (hp : PV s a k m lg) (h : a ≤ k) (hk : k < s.size) : PV s a (k + 1) (m * 10 + digit s[k]) lg := by
  refine ⟨fun hl => ?_, fun hl => ?_⟩
  · rw [val_at h hk]
    have := hp.1 hl
    omega
  · rw [val_at h hk, hp.2 hl]
    omega
theorem PV.end_ {s : ByteArray} {a z m : Nat} {lg : Bool} (hp : PV s a (a + z) m lg) (hz : (run isDig (s.data.toList.drop a)).length = z) : (lg = true → big < val (run isDig (s.data.toList.drop a))) ∧ (lg = false → val (run isDig (s.data.toList.drop a)) = m) := by
  unfold PV at hp
  rw [show a + z - a = z by omega, ← hz, run_pre] at hp
  exact hp
set_option maxHeartbeats 8000000 in
theorem rscan_any (s : ByteArray) (hs : s.size ≤ 100000000) (w : World) : Calls Tryd.prog 10 #[.string s] w (RScanPost s w) := by
  by_cases hbig : 16384 < s.size
  · have HF := Lib.hid (show scanR s = ([], some (0, 9)) by unfold scanR; rw [if_pos hbig])
    have e1 : (16384 : Int) < (s.size : Int) := by omega
    go_enter Tryd.func10, Tryd.ntmps10
    go_wp2_with (fail)
    go_ret3
    exact rs_bad (p := 0) HF.out rfl (Only.refl _ _)
  · have HF := Lib.hid (show At s [] 0 by unfold At scanR; rw [if_neg hbig]; rfl)
    have e1 : ¬ (16384 : Int) < (s.size : Int) := by omega
    obtain ⟨B, hB⟩ : ∃ B, w.heap.size = B := ⟨_, rfl⟩
    have HBB := Lib.hid hB
    clear hB hbig
    go_enter Tryd.func10, Tryd.ntmps10
    go_wp2_with (fail)
    go_loopw [5, 6] (fun v i wr => ∃ (a : Nat) (dn : List Word) (n : Nat) (A2 : Option Addr) (c2 : Nat), i = .int .i64 a ∧ v = .slice A2 n c2 ∧ a ≤ s.size ∧ Hid (dn.length = n) ∧ Hid (At s dn a) ∧ Hid (wr.ownsRow B 41 4 (.slice A2 n c2) n (flatW dn)) ∧ Hid (Only [] w wr)) (fun _ i _ => s.size - (intOf i).toNat)
    case atStart => exact ⟨0, [], 0, none, 0, rfl, rfl, Nat.zero_le _, Lib.hid rfl, HF, Lib.hid (World.ownsRow_nil _ _ _ _), Lib.hid (Only.refl _ _)⟩
    case round =>
      obtain ⟨a, dn, n, A2, c2, rfl, rfl, ha, HLN, HA, HOW, HO⟩ := hrel
      have hnb : n ≤ 100000001 := by have := HA.out.len; have := HLN.out; omega
      by_cases hlt : a < s.size
      · cases hb : isBlank s[a] with
        | true =>
          have HAT2 := Lib.hid (HA.out.shift (scan_blank hlt hb))
          have hc : s[a].toNat = 32 ∨ s[a].toNat = 9 ∨ s[a].toNat = 10 := by unfold isBlank at hb; simpa [or_assoc] using hb
          clear hb
          rcases hc with hc | hc | hc
          all_goals
            have q1 : ((s[a].toNat : Nat) : Int) = _ := congrArg (fun n : Nat => (n : Int)) hc
            clear hc
            go_wp2_with (fail)
            go_roundw
            case rel => exact ⟨a + 1, dn, n, A2, c2, by go_num, rfl, by omega, HLN, HAT2, HOW, HO⟩
            case measure => simp [intOf]; omega
        | false =>
          have hc : s[a].toNat ≠ 32 ∧ s[a].toNat ≠ 9 ∧ s[a].toNat ≠ 10 := by unfold isBlank at hb; simpa [and_assoc] using hb
          have q1 : (((s[a].toNat : Nat) : Int) == 32) = false := by rw [beq_eq_false_iff_ne]; omega
          have q2 : (((s[a].toNat : Nat) : Int) == 9) = false := by rw [beq_eq_false_iff_ne]; omega
          have q3 : (((s[a].toNat : Nat) : Int) == 10) = false := by rw [beq_eq_false_iff_ne]; omega
          by_cases h35 : s[a].toNat = 35
          · have q4 : (((s[a].toNat : Nat) : Int) == 35) = true := by rw [beq_iff_eq]; omega
            as_aux_lemma =>
              have hz1 : 1 ≤ rest (s.data.toList.drop a) := by rw [rest_at hlt, if_neg (by omega)]; omega
              have hzs := rest_size (s := s) ha
              have HAT2 := Lib.hid (HA.out.shift (scan_remark hlt h35))
              obtain ⟨z, hz⟩ : ∃ z, rest (s.data.toList.drop a) = z := ⟨_, rfl⟩
              have HZ := Lib.hid (show a + rest (s.data.toList.drop a) = a + z by rw [hz])
              rw [hz] at HAT2 hz1 hzs
              clear hb hc hz h35
              go_wp2_with (fail)
              go_loopw [6] (fun i wz => Hid (wz = wr) ∧ ∃ k : Nat, i = .int .i64 k ∧ a ≤ k ∧ k ≤ s.size ∧ Hid (k + rest (s.data.toList.drop k) = a + z)) (fun i _ => s.size - (intOf i).toNat)
              case atStart => exact ⟨Lib.hid rfl, a, rfl, Nat.le_refl _, ha, HZ⟩
              case round =>
                obtain ⟨HW, k, rfl, hak, hk, HK⟩ := hrel
                obtain rfl := HW.out.symm
                clear HW
                by_cases hlt2 : k < s.size
                · have HRA := Lib.hid (rest_at hlt2)
                  by_cases h10 : s[k].toNat = 10
                  · have r1 : (((s[k].toNat : Nat) : Int) != 10) = false := by simp; omega
                    have hkz : k = a + z := by have h1 := HK.out; rw [HRA.out, if_pos h10] at h1; omega
                    clear h10
                    subst hkz
                    go_wp2_with (fail)
                    go_roundw
                    case rel => exact ⟨a + z, dn, n, A2, c2, by go_num, rfl, hk, HLN, HAT2, HOW, HO⟩
                    case measure => simp [intOf]; omega
                  · have r1 : (((s[k].toNat : Nat) : Int) != 10) = true := by simp; omega
                    have HK2 := Lib.hid (show k + 1 + rest (s.data.toList.drop (k + 1)) = a + z by have h1 := HK.out; rw [HRA.out, if_neg h10] at h1; omega)
                    clear h10
                    go_wp2_with (fail)
                    go_roundw
                    case rel => exact ⟨by first | exact Lib.hid rfl | exact Lib.hid trivial, k + 1, by go_num, by omega, by omega, HK2⟩
                    case measure => simp [intOf]; omega
                · have hkz : k = a + z := by have h1 := HK.out; rw [show k = s.size by omega, drop_end] at h1; simp [rest] at h1; omega
                  subst hkz
                  go_wp2_with (fail)
                  go_roundw
                  case rel => exact ⟨a + z, dn, n, A2, c2, by go_num, rfl, hk, HLN, HAT2, HOW, HO⟩
                  case measure => simp [intOf]; omega
          · have q4 : (((s[a].toNat : Nat) : Int) == 35) = false := by rw [beq_eq_false_iff_ne]; omega
            have HNB := Lib.hid (show isBlank s[a] = false ∧ s[a].toNat ≠ 35 from ⟨hb, h35⟩)
            have hdc := drop_cons hlt
            clear hb hc h35
            cases hl : isLet s[a] with
            | true =>
              as_aux_lemma =>
                have hr := let_range hl
                have q5 : (((s[a].toNat : Nat) : Int) == 39) = false := by rw [beq_eq_false_iff_ne]; omega
                have q6 : ((a : Int) == (s.size : Int)) = false := by rw [beq_eq_false_iff_ne]; omega
                have q7 : (a == s.size) = false := by rw [beq_eq_false_iff_ne]; omega
                have HLF := Lib.hid hl
                have HWD := Lib.hid (show wordW (s.data.toList.drop a) = nameW 0 0 (s.data.toList.drop a) by rw [hdc]; simp only [wordW]; rw [if_pos hl])
                clear hl hdc hr
                go_wp2_with (fail)
                refine (rletter_w _ _).mono ?_
                rintro e w1 ⟨rfl, rfl⟩
                rw [HLF.out]
                go_wp2_with (fail)
                refine (rletter_w _ _).mono ?_
                rintro e w1 ⟨rfl, rfl⟩
                rw [HLF.out]
                go_wp2_with (fail)
                obtain ⟨z, hz⟩ : ∃ z, (run isAl (s.data.toList.drop a)).length = z := ⟨_, rfl⟩
                have hzs := run_size isAl s (show a ≤ s.size by omega)
                have hex := ext_run isAl s a
                have hz1 : 1 ≤ z := by rw [← hz]; exact run_first (p := isLet) (q := isAl) (fun c => let_al) (by rw [first_at (show a < s.size by omega)]; exact HLF.out)
                have HNBAD := Lib.hid (show 16 < z → wordW (s.data.toList.drop a) = .bad 9 from fun h => by rw [HWD.out]; unfold nameW; rw [first_at (show a < s.size by omega), HLF.out, if_pos rfl, if_pos (by rw [hz]; exact h)])
                have HNOK := Lib.hid (show ¬ 16 < z → wordW (s.data.toList.drop a) = .ok ⟨0, run isAl (s.data.toList.drop a), 0⟩ (a - a + z) from fun h => by rw [HWD.out]; unfold nameW; rw [first_at (show a < s.size by omega), HLF.out, if_pos rfl, if_neg (by rw [hz]; exact h), hz]; congr 1; omega)
                rw [hz] at hzs hex
                have HEX := Lib.hid hex
                have HZ := Lib.hid (show a + (run isAl (s.data.toList.drop a)).length = a + z by rw [hz])
                clear hz hex
                go_loopw [6] (fun i wz => Hid (wz = wr) ∧ ∃ k : Nat, i = .int .i64 k ∧ a ≤ k ∧ k ≤ s.size ∧ Hid (k + (run isAl (s.data.toList.drop k)).length = a + z)) (fun i _ => s.size - (intOf i).toNat)
                case atStart => exact ⟨Lib.hid rfl, a, by first | rfl | go_num, Nat.le_refl _, by omega, HZ⟩
                case round =>
                  obtain ⟨HW, k, rfl, hfk, hk, HK⟩ := hrel
                  obtain rfl := HW.out.symm
                  clear HW
                  by_cases hlt2 : k < s.size
                  · have HRA := Lib.hid (run_at (p := isAl) hlt2)
                    cases hl2 : isLet s[k] with
                    | true =>
                      have HL2 := Lib.hid hl2
                      have HAL := Lib.hid (show isAl s[k] = true by unfold isAl; rw [hl2]; rfl)
                      clear hl2
                      go_wp2_with (fail)
                      refine (rletter_w _ _).mono ?_
                      rintro e w1 ⟨rfl, rfl⟩
                      rw [HL2.out]
                      go_wp2_with (fail)
                      go_roundw
                      case rel => exact ⟨by first | exact Lib.hid rfl | exact Lib.hid trivial, k + 1, by go_num, by omega, by omega, Lib.hid (by have h1 := HK.out; rw [HRA.out, HAL.out, if_pos rfl] at h1; omega)⟩
                      case measure => simp [intOf]; omega
                    | false =>
                      have HL2 := Lib.hid hl2
                      cases hd2 : isDig s[k] with
                      | true =>
                        have HD2 := Lib.hid hd2
                        have HAL := Lib.hid (show isAl s[k] = true by unfold isAl; rw [hl2, hd2]; rfl)
                        clear hl2 hd2
                        go_wp2_with (fail)
                        refine (rletter_w _ _).mono ?_
                        rintro e w1 ⟨rfl, rfl⟩
                        rw [HL2.out]
                        go_wp2_with (fail)
                        refine (rdigit_w _ _).mono ?_
                        rintro e w1 ⟨rfl, rfl⟩
                        rw [HD2.out]
                        go_wp2_with (fail)
                        go_roundw
                        case rel => exact ⟨by first | exact Lib.hid rfl | exact Lib.hid trivial, k + 1, by go_num, by omega, by omega, Lib.hid (by have h1 := HK.out; rw [HRA.out, HAL.out, if_pos rfl] at h1; omega)⟩
                        case measure => simp [intOf]; omega
                      | false =>
                        have HD2 := Lib.hid hd2
                        have HAL := Lib.hid (show isAl s[k] = false by unfold isAl; rw [hl2, hd2]; rfl)
                        have hkz : k = a + z := by have h1 := HK.out; rw [HRA.out, HAL.out, if_neg (by decide)] at h1; omega
                        clear hl2 hd2
                        subst hkz
                        go_wp2_with (fail)
                        refine (rletter_w _ _).mono ?_
                        rintro e w1 ⟨rfl, rfl⟩
                        rw [HL2.out]
                        go_wp2_with (fail)
                        refine (rdigit_w _ _).mono ?_
                        rintro e w1 ⟨rfl, rfl⟩
                        rw [HD2.out]
                        by_cases h16 : 16 < z
                        · have e1 : (16 : Int) < (z : Int) := by omega
                          have HF := Lib.hid (HA.out.bad (scan_bad hlt HNB.out.1 HNB.out.2 (HNBAD.out h16)))
                          go_wp2_with (fail)
                          go_ret3
                          exact rs_bad HF.out rfl HO.out
                        · have e1 : ¬ (16 : Int) < (z : Int) := by omega
                          have HAT2 := Lib.hid (show At s (dn ++ [⟨⟨0, run isAl (s.data.toList.drop a), 0⟩, a⟩]) (a + z) by
                            have h := HA.out.word (scan_word hlt HNB.out.1 HNB.out.2 (HNOK.out h16))
                            rwa [show a + (a - a + z) = a + z by omega] at h)
                          obtain ⟨g, cap, w4, hrun, how4, o4⟩ := run_appendR HOW.out (⟨⟨0, run isAl (s.data.toList.drop a), 0⟩, a⟩ : Word) (K := 0) (N := 0) (S := s.extract (a) (a + z)) rfl rfl HEX.out (by rw [← HBB.out]; exact HO.out.size) hnb
                          have HOW4 := Lib.hid how4
                          have HO4 := Lib.hid (o4 w HO.out HBB.out)
                          clear how4 o4
                          go_wp2_with (at_builtin; refine wpList_append_run hrun rfl _ _ rfl rfl rfl rfl ?_; clear hrun)
                          go_roundw
                          case rel => exact ⟨a + z, dn ++ [⟨⟨0, run isAl (s.data.toList.drop a), 0⟩, a⟩], n + 1, some ⟨g, 0, none⟩, cap, by go_num, rfl, by omega, Lib.hid (by rw [List.length_append, HLN.out]; rfl), HAT2, HOW4, HO4⟩
                          case measure => simp [intOf]; omega
                  · have hks : k = s.size := by omega
                    have hkz : k = a + z := by have h1 := HK.out; rw [hks, run_end] at h1; omega
                    clear hks
                    subst hkz
                    clear HK
                    by_cases h16 : 16 < z
                    · have e1 : (16 : Int) < (z : Int) := by omega
                      have HF := Lib.hid (HA.out.bad (scan_bad hlt HNB.out.1 HNB.out.2 (HNBAD.out h16)))
                      go_wp2_with (fail)
                      go_ret3
                      exact rs_bad HF.out rfl HO.out
                    · have e1 : ¬ (16 : Int) < (z : Int) := by omega
                      have HAT2 := Lib.hid (show At s (dn ++ [⟨⟨0, run isAl (s.data.toList.drop a), 0⟩, a⟩]) (a + z) by
                        have h := HA.out.word (scan_word hlt HNB.out.1 HNB.out.2 (HNOK.out h16))
                        rwa [show a + (a - a + z) = a + z by omega] at h)
                      obtain ⟨g, cap, w4, hrun, how4, o4⟩ := run_appendR HOW.out (⟨⟨0, run isAl (s.data.toList.drop a), 0⟩, a⟩ : Word) (K := 0) (N := 0) (S := s.extract (a) (a + z)) rfl rfl HEX.out (by rw [← HBB.out]; exact HO.out.size) hnb
                      have HOW4 := Lib.hid how4
                      have HO4 := Lib.hid (o4 w HO.out HBB.out)
                      clear how4 o4
                      go_wp2_with (at_builtin; refine wpList_append_run hrun rfl _ _ rfl rfl rfl rfl ?_; clear hrun)
                      go_roundw
                      case rel => exact ⟨a + z, dn ++ [⟨⟨0, run isAl (s.data.toList.drop a), 0⟩, a⟩], n + 1, some ⟨g, 0, none⟩, cap, by go_num, rfl, by omega, Lib.hid (by rw [List.length_append, HLN.out]; rfl), HAT2, HOW4, HO4⟩
                      case measure => simp [intOf]; omega
            | false =>
              have HL := Lib.hid hl
              by_cases h39 : s[a].toNat = 39
              · have q5 : (((s[a].toNat : Nat) : Int) == 39) = true := by rw [beq_iff_eq]; omega
                have HWD := Lib.hid (show wordW (s.data.toList.drop a) = nameW 2 1 (s.data.toList.drop (a + 1)) by rw [hdc]; simp only [wordW]; rw [if_neg (by rw [hl]; decide), if_pos h39])
                clear hl hdc h39
                by_cases hlt1 : a + 1 < s.size
                · have q6 : ((a : Int) + 1 == (s.size : Int)) = false := by rw [beq_eq_false_iff_ne]; omega
                  have q7 : (a + 1 == s.size) = false := by rw [beq_eq_false_iff_ne]; omega
                  have q8 : ((a : Int) + 1) = ((a + 1 : Nat) : Int) := by omega
                  have q9 : (a : Int) + 1 < (s.size : Int) := by omega
                  have q10 : ((a : Int) + 1).toNat = a + 1 := by omega
                  clear q8
                  cases hl1 : isLet s[a + 1] with
                  | true =>
                    as_aux_lemma =>
                      have HLF := Lib.hid hl1
                      clear hl1
                      go_wp2_with (fail)
                      refine (rletter_w _ _).mono ?_
                      rintro e w1 ⟨rfl, rfl⟩
                      rw [HL.out]
                      go_wp2_with (fail)
                      refine (rletter_w _ _).mono ?_
                      rintro e w1 ⟨rfl, rfl⟩
                      rw [HLF.out]
                      go_wp2_with (fail)
                      obtain ⟨z, hz⟩ : ∃ z, (run isAl (s.data.toList.drop (a + 1))).length = z := ⟨_, rfl⟩
                      have hzs := run_size isAl s (show (a + 1) ≤ s.size by omega)
                      have hex := ext_run isAl s (a + 1)
                      have hz1 : 1 ≤ z := by rw [← hz]; exact run_first (p := isLet) (q := isAl) (fun c => let_al) (by rw [first_at (show (a + 1) < s.size by omega)]; exact HLF.out)
                      have HNBAD := Lib.hid (show 16 < z → wordW (s.data.toList.drop a) = .bad 9 from fun h => by rw [HWD.out]; unfold nameW; rw [first_at (show (a + 1) < s.size by omega), HLF.out, if_pos rfl, if_pos (by rw [hz]; exact h)])
                      have HNOK := Lib.hid (show ¬ 16 < z → wordW (s.data.toList.drop a) = .ok ⟨2, run isAl (s.data.toList.drop (a + 1)), 0⟩ ((a + 1) - a + z) from fun h => by rw [HWD.out]; unfold nameW; rw [first_at (show (a + 1) < s.size by omega), HLF.out, if_pos rfl, if_neg (by rw [hz]; exact h), hz]; congr 1; omega)
                      rw [hz] at hzs hex
                      have HEX := Lib.hid hex
                      have HZ := Lib.hid (show (a + 1) + (run isAl (s.data.toList.drop (a + 1))).length = (a + 1) + z by rw [hz])
                      clear hz hex
                      go_loopw [6] (fun i wz => Hid (wz = wr) ∧ ∃ k : Nat, i = .int .i64 k ∧ (a + 1) ≤ k ∧ k ≤ s.size ∧ Hid (k + (run isAl (s.data.toList.drop k)).length = (a + 1) + z)) (fun i _ => s.size - (intOf i).toNat)
                      case atStart => exact ⟨Lib.hid rfl, (a + 1), by first | rfl | go_num, Nat.le_refl _, by omega, HZ⟩
                      case round =>
                        obtain ⟨HW, k, rfl, hfk, hk, HK⟩ := hrel
                        obtain rfl := HW.out.symm
                        clear HW
                        by_cases hlt2 : k < s.size
                        · have HRA := Lib.hid (run_at (p := isAl) hlt2)
                          cases hl2 : isLet s[k] with
                          | true =>
                            have HL2 := Lib.hid hl2
                            have HAL := Lib.hid (show isAl s[k] = true by unfold isAl; rw [hl2]; rfl)
                            clear hl2
                            go_wp2_with (fail)
                            refine (rletter_w _ _).mono ?_
                            rintro e w1 ⟨rfl, rfl⟩
                            rw [HL2.out]
                            go_wp2_with (fail)
                            go_roundw
                            case rel => exact ⟨by first | exact Lib.hid rfl | exact Lib.hid trivial, k + 1, by go_num, by omega, by omega, Lib.hid (by have h1 := HK.out; rw [HRA.out, HAL.out, if_pos rfl] at h1; omega)⟩
                            case measure => simp [intOf]; omega
                          | false =>
                            have HL2 := Lib.hid hl2
                            cases hd2 : isDig s[k] with
                            | true =>
                              have HD2 := Lib.hid hd2
                              have HAL := Lib.hid (show isAl s[k] = true by unfold isAl; rw [hl2, hd2]; rfl)
                              clear hl2 hd2
                              go_wp2_with (fail)
                              refine (rletter_w _ _).mono ?_
                              rintro e w1 ⟨rfl, rfl⟩
                              rw [HL2.out]
                              go_wp2_with (fail)
                              refine (rdigit_w _ _).mono ?_
                              rintro e w1 ⟨rfl, rfl⟩
                              rw [HD2.out]
                              go_wp2_with (fail)
                              go_roundw
                              case rel => exact ⟨by first | exact Lib.hid rfl | exact Lib.hid trivial, k + 1, by go_num, by omega, by omega, Lib.hid (by have h1 := HK.out; rw [HRA.out, HAL.out, if_pos rfl] at h1; omega)⟩
                              case measure => simp [intOf]; omega
                            | false =>
                              have HD2 := Lib.hid hd2
                              have HAL := Lib.hid (show isAl s[k] = false by unfold isAl; rw [hl2, hd2]; rfl)
                              have hkz : k = (a + 1) + z := by have h1 := HK.out; rw [HRA.out, HAL.out, if_neg (by decide)] at h1; omega
                              clear hl2 hd2
                              subst hkz
                              go_wp2_with (fail)
                              refine (rletter_w _ _).mono ?_
                              rintro e w1 ⟨rfl, rfl⟩
                              rw [HL2.out]
                              go_wp2_with (fail)
                              refine (rdigit_w _ _).mono ?_
                              rintro e w1 ⟨rfl, rfl⟩
                              rw [HD2.out]
                              by_cases h16 : 16 < z
                              · have e1 : (16 : Int) < (z : Int) := by omega
                                have HF := Lib.hid (HA.out.bad (scan_bad hlt HNB.out.1 HNB.out.2 (HNBAD.out h16)))
                                go_wp2_with (fail)
                                go_ret3
                                exact rs_bad HF.out rfl HO.out
                              · have e1 : ¬ (16 : Int) < (z : Int) := by omega
                                have HAT2 := Lib.hid (show At s (dn ++ [⟨⟨2, run isAl (s.data.toList.drop (a + 1)), 0⟩, a⟩]) ((a + 1) + z) by
                                  have h := HA.out.word (scan_word hlt HNB.out.1 HNB.out.2 (HNOK.out h16))
                                  rwa [show a + ((a + 1) - a + z) = (a + 1) + z by omega] at h)
                                obtain ⟨g, cap, w4, hrun, how4, o4⟩ := run_appendR HOW.out (⟨⟨2, run isAl (s.data.toList.drop (a + 1)), 0⟩, a⟩ : Word) (K := 2) (N := 0) (S := s.extract ((a + 1)) ((a + 1) + z)) rfl rfl HEX.out (by rw [← HBB.out]; exact HO.out.size) hnb
                                have HOW4 := Lib.hid how4
                                have HO4 := Lib.hid (o4 w HO.out HBB.out)
                                clear how4 o4
                                go_wp2_with (at_builtin; refine wpList_append_run hrun rfl _ _ rfl rfl rfl rfl ?_; clear hrun)
                                go_roundw
                                case rel => exact ⟨(a + 1) + z, dn ++ [⟨⟨2, run isAl (s.data.toList.drop (a + 1)), 0⟩, a⟩], n + 1, some ⟨g, 0, none⟩, cap, by go_num, rfl, by omega, Lib.hid (by rw [List.length_append, HLN.out]; rfl), HAT2, HOW4, HO4⟩
                                case measure => simp [intOf]; omega
                        · have hks : k = s.size := by omega
                          have hkz : k = (a + 1) + z := by have h1 := HK.out; rw [hks, run_end] at h1; omega
                          clear hks
                          subst hkz
                          clear HK
                          by_cases h16 : 16 < z
                          · have e1 : (16 : Int) < (z : Int) := by omega
                            have HF := Lib.hid (HA.out.bad (scan_bad hlt HNB.out.1 HNB.out.2 (HNBAD.out h16)))
                            go_wp2_with (fail)
                            go_ret3
                            exact rs_bad HF.out rfl HO.out
                          · have e1 : ¬ (16 : Int) < (z : Int) := by omega
                            have HAT2 := Lib.hid (show At s (dn ++ [⟨⟨2, run isAl (s.data.toList.drop (a + 1)), 0⟩, a⟩]) ((a + 1) + z) by
                              have h := HA.out.word (scan_word hlt HNB.out.1 HNB.out.2 (HNOK.out h16))
                              rwa [show a + ((a + 1) - a + z) = (a + 1) + z by omega] at h)
                            obtain ⟨g, cap, w4, hrun, how4, o4⟩ := run_appendR HOW.out (⟨⟨2, run isAl (s.data.toList.drop (a + 1)), 0⟩, a⟩ : Word) (K := 2) (N := 0) (S := s.extract ((a + 1)) ((a + 1) + z)) rfl rfl HEX.out (by rw [← HBB.out]; exact HO.out.size) hnb
                            have HOW4 := Lib.hid how4
                            have HO4 := Lib.hid (o4 w HO.out HBB.out)
                            clear how4 o4
                            go_wp2_with (at_builtin; refine wpList_append_run hrun rfl _ _ rfl rfl rfl rfl ?_; clear hrun)
                            go_roundw
                            case rel => exact ⟨(a + 1) + z, dn ++ [⟨⟨2, run isAl (s.data.toList.drop (a + 1)), 0⟩, a⟩], n + 1, some ⟨g, 0, none⟩, cap, by go_num, rfl, by omega, Lib.hid (by rw [List.length_append, HLN.out]; rfl), HAT2, HOW4, HO4⟩
                            case measure => simp [intOf]; omega
                  | false =>
                    have HLF := Lib.hid hl1
                    have HF := Lib.hid (HA.out.bad (scan_bad hlt HNB.out.1 HNB.out.2 (show wordW (s.data.toList.drop a) = .bad 5 by rw [HWD.out]; unfold nameW; rw [first_at hlt1, hl1]; rfl)))
                    clear hl1
                    go_wp2_with (fail)
                    refine (rletter_w _ _).mono ?_
                    rintro e w1 ⟨rfl, rfl⟩
                    rw [HL.out]
                    go_wp2_with (fail)
                    refine (rletter_w _ _).mono ?_
                    rintro e w1 ⟨rfl, rfl⟩
                    rw [HLF.out]
                    go_wp2_with (fail)
                    go_ret3
                    exact rs_bad HF.out rfl HO.out
                · have q6 : ((a : Int) + 1 == (s.size : Int)) = true := by rw [beq_iff_eq]; omega
                  have q7 : (a + 1 == s.size) = true := by rw [beq_iff_eq]; omega
                  have HF := Lib.hid (HA.out.bad (scan_bad hlt HNB.out.1 HNB.out.2 (show wordW (s.data.toList.drop a) = .bad 5 by rw [HWD.out, List.drop_of_length_le (by simp; omega)]; rfl)))
                  go_wp2_with (fail)
                  refine (rletter_w _ _).mono ?_
                  rintro e w1 ⟨rfl, rfl⟩
                  rw [HL.out]
                  go_wp2_with (fail)
                  go_ret3
                  exact rs_bad HF.out rfl HO.out
              · have q5 : (((s[a].toNat : Nat) : Int) == 39) = false := by rw [beq_eq_false_iff_ne]; omega
                cases hd : isDig s[a] with
                | true =>
                  have HD := Lib.hid hd
                  have HWD := Lib.hid (show wordW (s.data.toList.drop a) = numW (s.data.toList.drop a) by rw [hdc]; simp only [wordW]; rw [if_neg (by rw [hl]; decide), if_neg h39, if_pos hd])
                  clear hl hdc h39 hd
                  as_aux_lemma =>
                    obtain ⟨z, hz⟩ : ∃ z, (run isDig (s.data.toList.drop a)).length = z := ⟨_, rfl⟩
                    have hzs := run_size isDig s ha
                    have hra := run_at (p := isDig) hlt
                    rw [HD.out, if_pos rfl] at hra
                    have hz1 : 1 ≤ z := by omega
                    have HFZ := Lib.hid (first_at (p := isZero) hlt)
                    have HZ := Lib.hid (show a + (run isDig (s.data.toList.drop a)).length = a + z by rw [hz])
                    have HLZ := Lib.hid hz
                    rw [hz] at hzs
                    clear hz hra
                    go_wp2_with (fail)
                    refine (rletter_w _ _).mono ?_
                    rintro e w1 ⟨rfl, rfl⟩
                    rw [HL.out]
                    go_wp2_with (fail)
                    refine (rdigit_w _ _).mono ?_
                    rintro e w1 ⟨rfl, rfl⟩
                    rw [HD.out]
                    go_wp2_with (fail)
                    go_loopw [6, 11, 12] (fun i nv lv wz => Hid (wz = wr) ∧ ∃ (k m : Nat) (lg : Bool), i = .int .i64 k ∧ nv = .int .i64 m ∧ lv = .bool lg ∧ a ≤ k ∧ k ≤ s.size ∧ m ≤ 9223372036854775807 ∧ Hid (k + (run isDig (s.data.toList.drop k)).length = a + z) ∧ Hid (PV s a k m lg)) (fun i _ _ _ => s.size - (intOf i).toNat)
                    case atStart => exact ⟨Lib.hid rfl, a, 0, false, rfl, rfl, rfl, Nat.le_refl _, ha, by omega, HZ, Lib.hid (show PV s a a 0 false from ⟨(fun h => by cases h), (fun _ => by rw [Nat.sub_self]; rfl)⟩)⟩
                    case round =>
                      obtain ⟨HW, k, m, lg, rfl, rfl, rfl, hak, hk, hm, HK, HPV⟩ := hrel
                      obtain rfl := HW.out.symm
                      clear HW
                      by_cases hlt2 : k < s.size
                      · have HRA := Lib.hid (run_at (p := isDig) hlt2)
                        cases hd2 : isDig s[k] with
                        | true =>
                          have hdr := dig_range hd2
                          have HD2 := Lib.hid hd2
                          have HK2 := Lib.hid (show k + 1 + (run isDig (s.data.toList.drop (k + 1))).length = a + z by have h1 := HK.out; rw [HRA.out, hd2, if_pos rfl] at h1; omega)
                          have u1 : (48 : Int) ≤ ((s[k].toNat : Nat) : Int) := by omega
                          have u2 : ((s[k].toNat : Nat) : Int) ≤ 57 := by omega
                          have HDG := Lib.hid (show digit s[k] = s[k].toNat - 48 from rfl)
                          clear hd2 hdr
                          by_cases t1 : 922337203685477580 < m
                          · have w1 : (922337203685477580 : Int) < (m : Int) := by omega
                            have HP2 := Lib.hid (HPV.out.large hak hlt2 (.inl t1))
                            clear t1
                            go_wp2_with (fail)
                            refine (rdigit_w _ _).mono ?_
                            rintro e w1 ⟨rfl, rfl⟩
                            rw [HD2.out]
                            go_wp2_with (fail)
                            go_roundw
                            case rel => exact ⟨by first | exact Lib.hid rfl | exact Lib.hid trivial, k + 1, m, true, by go_num, rfl, rfl, by omega, by omega, hm, HK2, HP2⟩
                            case measure => simp [intOf]; omega
                          · have w1 : ¬ (922337203685477580 : Int) < (m : Int) := by omega
                            by_cases t2 : m = 922337203685477580 ∧ 7 < digit s[k]
                            · have w2 : ((m : Int) == 922337203685477580) = true := by rw [beq_iff_eq]; omega
                              have w3 : (m == 922337203685477580) = true := by rw [beq_iff_eq]; omega
                              have w4 : (7 : Int) < ((s[k].toNat : Nat) : Int) - 48 := by have := t2.2; have := HDG.out; omega
                              have HP2 := Lib.hid (HPV.out.large hak hlt2 (.inr t2))
                              clear t1 t2
                              go_wp2_with (fail)
                              refine (rdigit_w _ _).mono ?_
                              rintro e w1 ⟨rfl, rfl⟩
                              rw [HD2.out]
                              go_wp2_with (fail)
                              go_roundw
                              case rel => exact ⟨by first | exact Lib.hid rfl | exact Lib.hid trivial, k + 1, m, true, by go_num, rfl, rfl, by omega, by omega, hm, HK2, HP2⟩
                              case measure => simp [intOf]; omega
                            · have HP2 := Lib.hid (HPV.out.next hak hlt2)
                              have hm2 : m * 10 + digit s[k] ≤ 9223372036854775807 := by have := HDG.out; omega
                              have hm3 : (m : Int) * 10 + (((s[k].toNat : Nat) : Int) - 48) ≤ 9223372036854775807 := by have := HDG.out; omega
                              have hm4 : (m : Int) * 10 ≤ 9223372036854775807 := by omega
                              have HMM := Lib.hid (show (m : Int) * 10 + (((s[k].toNat : Nat) : Int) - 48) = ((m * 10 + digit s[k] : Nat) : Int) by have := HDG.out; omega)
                              by_cases t3 : m = 922337203685477580
                              · have w2 : ((m : Int) == 922337203685477580) = true := by rw [beq_iff_eq]; omega
                                have w3 : (m == 922337203685477580) = true := by rw [beq_iff_eq]; omega
                                have w4 : ¬ (7 : Int) < ((s[k].toNat : Nat) : Int) - 48 := fun h => t2 ⟨t3, by have := HDG.out; omega⟩
                                clear t1 t2 t3
                                go_wp2_with (fail)
                                refine (rdigit_w _ _).mono ?_
                                rintro e w1 ⟨rfl, rfl⟩
                                rw [HD2.out]
                                go_wp2_with (fail)
                                go_roundw
                                case rel => exact ⟨by first | exact Lib.hid rfl | exact Lib.hid trivial, k + 1, m * 10 + digit s[k], lg, by go_num, congrArg (fun x => Value.int .i64 x) HMM.out, rfl, by omega, by omega, hm2, HK2, HP2⟩
                                case measure => simp [intOf]; omega
                              · have w2 : ((m : Int) == 922337203685477580) = false := by rw [beq_eq_false_iff_ne]; omega
                                have w3 : (m == 922337203685477580) = false := by rw [beq_eq_false_iff_ne]; omega
                                clear t1 t2 t3
                                go_wp2_with (fail)
                                refine (rdigit_w _ _).mono ?_
                                rintro e w1 ⟨rfl, rfl⟩
                                rw [HD2.out]
                                go_wp2_with (fail)
                                go_roundw
                                case rel => exact ⟨by first | exact Lib.hid rfl | exact Lib.hid trivial, k + 1, m * 10 + digit s[k], lg, by go_num, congrArg (fun x => Value.int .i64 x) HMM.out, rfl, by omega, by omega, hm2, HK2, HP2⟩
                                case measure => simp [intOf]; omega
                        | false =>
                          have HD2 := Lib.hid hd2
                          have hkz : k = a + z := by have h1 := HK.out; rw [HRA.out, hd2, if_neg (by decide)] at h1; omega
                          clear hd2
                          subst hkz
                          clear HK
                          go_wp2_with (fail)
                          refine (rdigit_w _ _).mono ?_
                          rintro e w1 ⟨rfl, rfl⟩
                          rw [HD2.out]
                          have HPE := Lib.hid (HPV.out.end_ HLZ.out)
                          by_cases h0 : s[a].toNat = 48
                          · have r0 : (((s[a].toNat : Nat) : Int) == 48) = true := by rw [beq_iff_eq]; omega
                            by_cases h1 : 1 < z
                            · have e1 : (1 : Int) < (z : Int) := by omega
                              have HF := Lib.hid (HA.out.bad (scan_bad hlt HNB.out.1 HNB.out.2 (show wordW (s.data.toList.drop a) = .bad 6 by rw [HWD.out]; unfold numW; rw [HFZ.out, HLZ.out, if_pos ⟨by unfold isZero; simp [h0], h1⟩])))
                              clear h0
                              go_wp2_with (fail)
                              go_ret3
                              exact rs_bad HF.out rfl HO.out
                            · have e1 : ¬ (1 : Int) < (z : Int) := by omega
                              have HNW := Lib.hid (show ∀ a1 b1 : Wd, (if first isZero (s.data.toList.drop a) = true ∧ 1 < (run isDig (s.data.toList.drop a)).length then a1 else b1) = b1 from fun a1 b1 => by rw [HLZ.out, if_neg (by rintro ⟨_, h⟩; exact h1 h)])
                              clear h0
                              cases lg with
                              | true =>
                                have HF := Lib.hid (HA.out.bad (scan_bad hlt HNB.out.1 HNB.out.2 (show wordW (s.data.toList.drop a) = .bad 2 by rw [HWD.out]; unfold numW; rw [HNW.out, if_pos (HPE.out.1 rfl)])))
                                go_wp2_with (fail)
                                go_ret3
                                exact rs_bad HF.out rfl HO.out
                              | false =>
                                have HVM := Lib.hid (HPE.out.2 rfl)
                                have HAT2 := Lib.hid (HA.out.word (scan_word hlt HNB.out.1 HNB.out.2 (show wordW (s.data.toList.drop a) = .ok ⟨1, [], m⟩ z by rw [HWD.out]; unfold numW; rw [HNW.out, HVM.out, if_neg (by unfold big; omega), HLZ.out])))
                                obtain ⟨g, cap, w4, hrun, how4, o4⟩ := run_appendR HOW.out (⟨⟨1, [], m⟩, a⟩ : Word) (K := 1) (N := (m : Nat)) (S := ⟨#[]⟩) rfl rfl rfl (by rw [← HBB.out]; exact HO.out.size) hnb
                                have HOW4 := Lib.hid how4
                                have HO4 := Lib.hid (o4 w HO.out HBB.out)
                                clear how4 o4
                                go_wp2_with (at_builtin; refine wpList_append_run hrun rfl _ _ rfl rfl rfl rfl ?_; clear hrun)
                                go_roundw
                                case rel => exact ⟨a + z, dn ++ [⟨⟨1, [], m⟩, a⟩], n + 1, some ⟨g, 0, none⟩, cap, by go_num, rfl, by omega, Lib.hid (by rw [List.length_append, HLN.out]; rfl), HAT2, HOW4, HO4⟩
                                case measure => simp [intOf]; omega
                          · have r0 : (((s[a].toNat : Nat) : Int) == 48) = false := by rw [beq_eq_false_iff_ne]; omega
                            have HNW := Lib.hid (show ∀ a1 b1 : Wd, (if first isZero (s.data.toList.drop a) = true ∧ 1 < (run isDig (s.data.toList.drop a)).length then a1 else b1) = b1 from fun a1 b1 => by rw [HFZ.out, if_neg (by rintro ⟨h, _⟩; unfold isZero at h; simp at h; exact h0 h)])
                            clear h0
                            cases lg with
                            | true =>
                              have HF := Lib.hid (HA.out.bad (scan_bad hlt HNB.out.1 HNB.out.2 (show wordW (s.data.toList.drop a) = .bad 2 by rw [HWD.out]; unfold numW; rw [HNW.out, if_pos (HPE.out.1 rfl)])))
                              go_wp2_with (fail)
                              go_ret3
                              exact rs_bad HF.out rfl HO.out
                            | false =>
                              have HVM := Lib.hid (HPE.out.2 rfl)
                              have HAT2 := Lib.hid (HA.out.word (scan_word hlt HNB.out.1 HNB.out.2 (show wordW (s.data.toList.drop a) = .ok ⟨1, [], m⟩ z by rw [HWD.out]; unfold numW; rw [HNW.out, HVM.out, if_neg (by unfold big; omega), HLZ.out])))
                              obtain ⟨g, cap, w4, hrun, how4, o4⟩ := run_appendR HOW.out (⟨⟨1, [], m⟩, a⟩ : Word) (K := 1) (N := (m : Nat)) (S := ⟨#[]⟩) rfl rfl rfl (by rw [← HBB.out]; exact HO.out.size) hnb
                              have HOW4 := Lib.hid how4
                              have HO4 := Lib.hid (o4 w HO.out HBB.out)
                              clear how4 o4
                              go_wp2_with (at_builtin; refine wpList_append_run hrun rfl _ _ rfl rfl rfl rfl ?_; clear hrun)
                              go_roundw
                              case rel => exact ⟨a + z, dn ++ [⟨⟨1, [], m⟩, a⟩], n + 1, some ⟨g, 0, none⟩, cap, by go_num, rfl, by omega, Lib.hid (by rw [List.length_append, HLN.out]; rfl), HAT2, HOW4, HO4⟩
                              case measure => simp [intOf]; omega
                      · have hks : k = s.size := by omega
                        have hkz : k = a + z := by have h1 := HK.out; rw [hks, run_end] at h1; omega
                        clear hks
                        subst hkz
                        clear HK
                        have HPE := Lib.hid (HPV.out.end_ HLZ.out)
                        by_cases h0 : s[a].toNat = 48
                        · have r0 : (((s[a].toNat : Nat) : Int) == 48) = true := by rw [beq_iff_eq]; omega
                          by_cases h1 : 1 < z
                          · have e1 : (1 : Int) < (z : Int) := by omega
                            have HF := Lib.hid (HA.out.bad (scan_bad hlt HNB.out.1 HNB.out.2 (show wordW (s.data.toList.drop a) = .bad 6 by rw [HWD.out]; unfold numW; rw [HFZ.out, HLZ.out, if_pos ⟨by unfold isZero; simp [h0], h1⟩])))
                            clear h0
                            go_wp2_with (fail)
                            go_ret3
                            exact rs_bad HF.out rfl HO.out
                          · have e1 : ¬ (1 : Int) < (z : Int) := by omega
                            have HNW := Lib.hid (show ∀ a1 b1 : Wd, (if first isZero (s.data.toList.drop a) = true ∧ 1 < (run isDig (s.data.toList.drop a)).length then a1 else b1) = b1 from fun a1 b1 => by rw [HLZ.out, if_neg (by rintro ⟨_, h⟩; exact h1 h)])
                            clear h0
                            cases lg with
                            | true =>
                              have HF := Lib.hid (HA.out.bad (scan_bad hlt HNB.out.1 HNB.out.2 (show wordW (s.data.toList.drop a) = .bad 2 by rw [HWD.out]; unfold numW; rw [HNW.out, if_pos (HPE.out.1 rfl)])))
                              go_wp2_with (fail)
                              go_ret3
                              exact rs_bad HF.out rfl HO.out
                            | false =>
                              have HVM := Lib.hid (HPE.out.2 rfl)
                              have HAT2 := Lib.hid (HA.out.word (scan_word hlt HNB.out.1 HNB.out.2 (show wordW (s.data.toList.drop a) = .ok ⟨1, [], m⟩ z by rw [HWD.out]; unfold numW; rw [HNW.out, HVM.out, if_neg (by unfold big; omega), HLZ.out])))
                              obtain ⟨g, cap, w4, hrun, how4, o4⟩ := run_appendR HOW.out (⟨⟨1, [], m⟩, a⟩ : Word) (K := 1) (N := (m : Nat)) (S := ⟨#[]⟩) rfl rfl rfl (by rw [← HBB.out]; exact HO.out.size) hnb
                              have HOW4 := Lib.hid how4
                              have HO4 := Lib.hid (o4 w HO.out HBB.out)
                              clear how4 o4
                              go_wp2_with (at_builtin; refine wpList_append_run hrun rfl _ _ rfl rfl rfl rfl ?_; clear hrun)
                              go_roundw
                              case rel => exact ⟨a + z, dn ++ [⟨⟨1, [], m⟩, a⟩], n + 1, some ⟨g, 0, none⟩, cap, by go_num, rfl, by omega, Lib.hid (by rw [List.length_append, HLN.out]; rfl), HAT2, HOW4, HO4⟩
                              case measure => simp [intOf]; omega
                        · have r0 : (((s[a].toNat : Nat) : Int) == 48) = false := by rw [beq_eq_false_iff_ne]; omega
                          have HNW := Lib.hid (show ∀ a1 b1 : Wd, (if first isZero (s.data.toList.drop a) = true ∧ 1 < (run isDig (s.data.toList.drop a)).length then a1 else b1) = b1 from fun a1 b1 => by rw [HFZ.out, if_neg (by rintro ⟨h, _⟩; unfold isZero at h; simp at h; exact h0 h)])
                          clear h0
                          cases lg with
                          | true =>
                            have HF := Lib.hid (HA.out.bad (scan_bad hlt HNB.out.1 HNB.out.2 (show wordW (s.data.toList.drop a) = .bad 2 by rw [HWD.out]; unfold numW; rw [HNW.out, if_pos (HPE.out.1 rfl)])))
                            go_wp2_with (fail)
                            go_ret3
                            exact rs_bad HF.out rfl HO.out
                          | false =>
                            have HVM := Lib.hid (HPE.out.2 rfl)
                            have HAT2 := Lib.hid (HA.out.word (scan_word hlt HNB.out.1 HNB.out.2 (show wordW (s.data.toList.drop a) = .ok ⟨1, [], m⟩ z by rw [HWD.out]; unfold numW; rw [HNW.out, HVM.out, if_neg (by unfold big; omega), HLZ.out])))
                            obtain ⟨g, cap, w4, hrun, how4, o4⟩ := run_appendR HOW.out (⟨⟨1, [], m⟩, a⟩ : Word) (K := 1) (N := (m : Nat)) (S := ⟨#[]⟩) rfl rfl rfl (by rw [← HBB.out]; exact HO.out.size) hnb
                            have HOW4 := Lib.hid how4
                            have HO4 := Lib.hid (o4 w HO.out HBB.out)
                            clear how4 o4
                            go_wp2_with (at_builtin; refine wpList_append_run hrun rfl _ _ rfl rfl rfl rfl ?_; clear hrun)
                            go_roundw
                            case rel => exact ⟨a + z, dn ++ [⟨⟨1, [], m⟩, a⟩], n + 1, some ⟨g, 0, none⟩, cap, by go_num, rfl, by omega, Lib.hid (by rw [List.length_append, HLN.out]; rfl), HAT2, HOW4, HO4⟩
                            case measure => simp [intOf]; omega
                | false =>
                  have HD := Lib.hid hd
                  have HWD := Lib.hid (show wordW (s.data.toList.drop a) = markW (s.data.toList.drop a) by rw [hdc]; simp only [wordW]; rw [if_neg (by rw [hl]; decide), if_neg h39, if_neg (by rw [hd]; decide)])
                  as_aux_lemma =>
                    have HM := Lib.hid (fun w => mark_any s hs a hlt w)
                    have hml := markLen_le (s.data.toList.drop a)
                    obtain ⟨m, hm⟩ : ∃ m, markLen (s.data.toList.drop a) = m := ⟨_, rfl⟩
                    rw [hm] at HM hml
                    have hms : a + m ≤ s.size := by simp at hml; omega
                    have HMM := Lib.hid hm
                    clear hl hdc h39 hd hm hml
                    by_cases h0 : m = 0
                    · have e1 : ((m : Int) == 0) = true := by rw [beq_iff_eq]; omega
                      have e2 : (m == 0) = true := by rw [beq_iff_eq]; omega
                      have HF := Lib.hid (HA.out.bad (scan_bad hlt HNB.out.1 HNB.out.2 (show wordW (s.data.toList.drop a) = .bad 5 by rw [HWD.out]; unfold markW; rw [if_pos (HMM.out.trans h0)])))
                      clear h0
                      go_wp2_with (fail)
                      refine (rletter_w _ _).mono ?_
                      rintro e w1 ⟨rfl, rfl⟩
                      rw [HL.out]
                      go_wp2_with (fail)
                      refine (rdigit_w _ _).mono ?_
                      rintro e w1 ⟨rfl, rfl⟩
                      rw [HD.out]
                      go_wp2_with (fail)
                      refine (HM.out _).mono ?_
                      rintro e w5 ⟨rfl, o5⟩
                      have HO5 := Lib.hid (HO.out.trans o5 (by simp))
                      clear o5
                      go_wp2_with (fail)
                      go_ret3
                      exact rs_bad HF.out rfl HO5.out
                    · have e1 : ((m : Int) == 0) = false := by rw [beq_eq_false_iff_ne]; omega
                      have e2 : (m == 0) = false := by rw [beq_eq_false_iff_ne]; omega
                      have hm1 : 1 ≤ m := by omega
                      have HAT2 := Lib.hid (HA.out.word (scan_word hlt HNB.out.1 HNB.out.2 (show wordW (s.data.toList.drop a) = .ok ⟨3, (s.data.toList.drop a).take m, 0⟩ m by rw [HWD.out]; exact markW_of HMM.out h0)))
                      have HEX := Lib.hid (ext_mark (s := s) (p := a) (m := m))
                      clear h0
                      go_wp2_with (fail)
                      refine (rletter_w _ _).mono ?_
                      rintro e w1 ⟨rfl, rfl⟩
                      rw [HL.out]
                      go_wp2_with (fail)
                      refine (rdigit_w _ _).mono ?_
                      rintro e w1 ⟨rfl, rfl⟩
                      rw [HD.out]
                      go_wp2_with (fail)
                      refine (HM.out _).mono ?_
                      rintro e w5 ⟨rfl, o5⟩
                      have HO5 := Lib.hid (HO.out.trans o5 (by simp))
                      have HOW5 := Lib.hid (ownsRow_only o5 HOW.out (by simp))
                      clear o5
                      obtain ⟨g, cap, w4, hrun, how4, o4⟩ := run_appendR HOW5.out (⟨⟨3, (s.data.toList.drop a).take m, 0⟩, a⟩ : Word) (K := 3) (N := 0) (S := s.extract a (a + m)) rfl rfl HEX.out (by rw [← HBB.out]; exact HO5.out.size) hnb
                      have HOW4 := Lib.hid how4
                      have HO4 := Lib.hid (o4 w HO5.out HBB.out)
                      clear how4 o4
                      go_wp2_with (at_builtin; refine wpList_append_run hrun rfl _ _ rfl rfl rfl rfl ?_; clear hrun)
                      go_roundw
                      case rel => exact ⟨a + m, dn ++ [⟨⟨3, (s.data.toList.drop a).take m, 0⟩, a⟩], n + 1, some ⟨g, 0, none⟩, cap, by go_num, rfl, by omega, Lib.hid (by rw [List.length_append, HLN.out]; rfl), HAT2, HOW4, HO4⟩
                      case measure => simp [intOf]; omega
      · obtain rfl : a = s.size := by omega
        have HFIN := Lib.hid HA.out.fin
        obtain ⟨g, cap, w4, hrun, how4, o4⟩ := run_appendR HOW.out (⟨eof, s.size⟩ : Word) (K := 4) (N := 0) (S := ⟨#[]⟩) rfl rfl rfl (by rw [← HBB.out]; exact HO.out.size) hnb
        have HOW4 := Lib.hid how4
        have HO4 := Lib.hid (o4 w HO.out HBB.out)
        clear how4 o4
        go_wp2_with (at_builtin; refine wpList_append_run hrun rfl _ _ rfl rfl rfl rfl ?_; clear hrun)
        go_ret3
        exact rs_ok HFIN.out (by rw [List.length_append, HLN.out]; rfl) (by rw [HBB.out]; exact HOW4.out) HO4.out
end Go.Proofs.YtghofiehkdhbeaaDoor
