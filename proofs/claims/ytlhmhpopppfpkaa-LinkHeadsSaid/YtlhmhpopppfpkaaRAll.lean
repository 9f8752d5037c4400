/- The document's All. -/
import Derived.Test.YtlhmhpopppfpkaaRTake
import Derived.Test.YtlhmhpopppfpkaaRel
namespace Go.Proofs.Ytlhmhpopppfpkaa
open Go.RowKit Go.Kx Go.Maps
set_option maxRecDepth 100000

/-- what is picked of one link -/
def selM (hd : Bool) (m : List It) (a b : Nat) : List It := if hd then (m.filter fun e => e.1 == ((a : Int), (b : Int))).take 1 else m.filter fun e => e.1 == ((a : Int), (b : Int))
def rowA (hd : Bool) (m : List It) (a b : Nat) : List It := (List.range b).flatMap fun j => selM hd m a j
def preA (hd : Bool) (m : List It) (n a b : Nat) : List It := ((List.range a).flatMap fun i => rowA hd m i n) ++ rowA hd m a b
def allA (hd : Bool) (m : List It) (n : Nat) : List It := (List.range n).flatMap fun i => rowA hd m i n
theorem preA_succ (hd : Bool) (m : List It) (n a b : Nat) : preA hd m n a (b + 1) = preA hd m n a b ++ selM hd m a b := by
  unfold preA rowA
  rw [List.range_succ, List.flatMap_append]
  simp
theorem preA_next (hd : Bool) (m : List It) (n a : Nat) : preA hd m n (a + 1) 0 = preA hd m n a n := by
  unfold preA
  rw [List.range_succ, List.flatMap_append]
  simp [rowA]
theorem preA_all (hd : Bool) (m : List It) (n : Nat) : preA hd m n n 0 = allA hd m n := by simp [preA, allA, rowA]
theorem preA_zero (hd : Bool) (m : List It) (n : Nat) : preA hd m n 0 0 = [] := rfl
theorem selM_nil (hd : Bool) (a b : Nat) : selM hd [] a b = [] := by unfold selM; cases hd <;> rfl
theorem selM_other {hd : Bool} {m : List It} {a b : Nat} {e : It} (h : e.1 ≠ ((a : Int), (b : Int))) : selM hd (m ++ [e]) a b = selM hd m a b := by
  unfold selM
  have : ([e] : List It).filter (fun x => x.1 == ((a : Int), (b : Int))) = [] := by
    rw [List.filter_eq_nil_iff]
    intro x hx
    simp at hx
    subst hx
    simpa using h
  rw [List.filter_append, this, List.append_nil]
theorem selM_all {m : List It} {a b : Nat} {e : It} (h : e.1 = ((a : Int), (b : Int))) : selM false (m ++ [e]) a b = selM false m a b ++ [e] := by
  simp [selM, List.filter_append, h]
theorem selM_first {m : List It} {a b : Nat} {e : It} (h : e.1 = ((a : Int), (b : Int))) (h0 : (selM true m a b).length = 0) : selM true (m ++ [e]) a b = selM true m a b ++ [e] := by
  simp only [selM, if_true] at h0 ⊢
  have h1 : m.filter (fun x => x.1 == ((a : Int), (b : Int))) = [] := by
    cases hm : m.filter (fun x => x.1 == ((a : Int), (b : Int))) with
    | nil => rfl
    | cons y r => rw [hm] at h0; simp at h0
  rw [List.filter_append, h1]
  simp [h]
theorem selM_later {m : List It} {a b : Nat} {e : It} (h0 : (selM true m a b).length ≠ 0) : selM true (m ++ [e]) a b = selM true m a b := by
  simp only [selM, if_true] at h0 ⊢
  cases hm : m.filter (fun x => x.1 == ((a : Int), (b : Int))) with
  | nil => rw [hm] at h0; simp at h0
  | cons y r => rw [List.filter_append, hm]; rfl
theorem selM_le (hd : Bool) (m : List It) (a b : Nat) : (selM hd m a b).length ≤ m.length := by
  unfold selM
  have := List.length_filter_le (fun e : It => e.1 == ((a : Int), (b : Int))) m
  split
  · simp; omega
  · exact this
theorem flat_le' {α β : Type} (f : α → List β) (c : Nat) : ∀ (l : List α), (∀ a ∈ l, (f a).length ≤ c) → (l.flatMap f).length ≤ l.length * c
  | [], _ => by simp
  | a :: l, h => by
    rw [List.flatMap_cons, List.length_append, List.length_cons, Nat.add_mul]
    have := flat_le' f c l (fun x hx => h x (by simp [hx]))
    have := h a (by simp)
    omega
theorem rowA_le (hd : Bool) (m : List It) (a b : Nat) : (rowA hd m a b).length ≤ b * m.length := by
  have := flat_le' (fun j => selM hd m a j) m.length (List.range b) (fun j _ => selM_le hd m a j)
  rwa [List.length_range] at this
theorem preA_le {hd : Bool} {m : List It} {n a b : Nat} (hn : n ≤ 8) (ha : a ≤ 8) (hb : b ≤ 8) (hm : m.length ≤ 1000000) : (preA hd m n a b).length ≤ 72000000 := by
  unfold preA
  rw [List.length_append]
  have h1 := flat_le' (fun i => rowA hd m i n) (n * m.length) (List.range a) (fun i _ => rowA_le hd m i n)
  have h2 := rowA_le hd m a b
  rw [List.length_range] at h1
  have h3 : n * m.length ≤ 8 * 1000000 := Nat.mul_le_mul hn hm
  have h4 : b * m.length ≤ 8 * 1000000 := Nat.mul_le_mul hb hm
  have h5 : a * (n * m.length) ≤ 8 * 8000000 := Nat.mul_le_mul ha (by omega)
  omega
/-- the out row under way -/
def OA (w0 wr : World) (v : Value) (L : List It) : Prop := ∃ (A : Option Addr) (c : Nat), v = .slice A L.length c ∧ wr.ownsRow w0.heap.size 52 3 (.slice A L.length c) L.length (flat3 L) ∧ Only [] w0 wr
theorem OA.keep {w0 wr wr' : World} {v : Value} {L : List It} (h : OA w0 wr v L) (o : Only [] wr wr') : OA w0 wr' v L := by
  obtain ⟨A, c, e, ho, hO⟩ := h
  exact ⟨A, c, e, ownsRow_only o ho (by simp), hO.trans o (by simp)⟩
theorem OA.push {w0 wr : World} {v : Value} {L : List It} (h : OA w0 wr v L) (hl : L.length ≤ 100000000) (e : It) :
    ∃ (A : Option Addr) (c : Nat) (v' : Value) (w1 : World), v = .slice A L.length c ∧ (Builtin.append_ #[39, 39] 39 #[.slice A L.length c, .slice (some ⟨wr.heap.size, 0, none⟩) 1 1]).run Try.prog (wr.alloc (.cells #[.int .i64 e.1.1, .int .i64 e.1.2, .int .i64 e.2] 52)) = .ok v' w1 ∧ OA w0 w1 v' (L ++ [e]) := by
  obtain ⟨A, c, rfl, ho, hO⟩ := h
  obtain ⟨g, cap, w1, hr, ho1, o1, hg⟩ := run_append3 (P := Try.prog) (t := 39) 52 39 Try.underlying39 it_info rfl ho e hO.size (by unfold maxLen; omega) (by omega)
  have len : (L ++ [e]).length = L.length + 1 := by simp
  refine ⟨A, c, _, w1, rfl, hr, some ⟨g, 0, none⟩, cap, by rw [len], ?_, ?_⟩
  · rw [len, flat3_snoc]; exact ho1
  · refine hO.trans o1 (fun x hx => .inr ?_)
    cases A with
    | none => simp [Value.ownBlock] at hx
    | some p => simp [Value.ownBlock] at hx; subst hx; exact (ho.lt _ rfl).1
set_option maxHeartbeats 4000000 in
theorem rall_any {B : Nat} {w : World} {mb n room : Nat} {m : List It} {A : Option Addr} {c : Nat} (h : RN B w mb n room m A c) (hd : Bool) (hn : n ≤ 8) (hl : m.length ≤ 1000000) :
    Calls Try.prog 16 #[.pointer (some ⟨mb, 0, none⟩), .bool hd] w fun e w' => ∃ v, e = .returned v ∧ OA w w' v (allA hd m n) := by
  have HR := Lib.hid h
  clear h
  obtain ⟨g0, g1, g2, gl⟩ := HR.out.blk.facts3
  go_enter Try.func16, Try.ntmps16
  go_wp2_with (fail)
  go_loopw [5, 6, 7, 8, 9] (fun v i _ _ _ wr => ∃ a : Nat, i = .int .i64 a ∧ a ≤ n ∧ OA w wr v (preA hd m n a 0)) (fun _ i _ _ _ _ => n - (intOf i).toNat)
  case atStart => exact ⟨0, rfl, Nat.zero_le _, none, 0, rfl, World.ownsRow_nil _ _ 52 3, Only.refl _ _⟩
  case round =>
    clear g0 g1 g2 gl
    obtain ⟨a, rfl, ha, hO⟩ := hrel
    have HO := Lib.hid hO
    obtain ⟨g0, g1, g2, gl⟩ := (HR.out.keep (by obtain ⟨_, _, _, _, o⟩ := hO; exact o)).blk.facts3
    clear hO
    by_cases hlt : a < n
    · go_wp2_with (fail)
      obtain ⟨wo, rfl⟩ : ∃ wo : World, wo = wr := ⟨_, rfl⟩
      go_loopw [5, 7, 8, 9] (fun v i _ _ wr => ∃ b : Nat, i = .int .i64 b ∧ b ≤ n ∧ OA w wr v (preA hd m n a b)) (fun _ i _ _ _ => n - (intOf i).toNat)
      case atStart => exact ⟨0, rfl, Nat.zero_le _, HO.out⟩
      case round =>
        clear g0 g1 g2 gl HO
        obtain ⟨b, rfl, hb, hO⟩ := hrel
        have HO := Lib.hid hO
        obtain ⟨g0, g1, g2, gl⟩ := (HR.out.keep (by obtain ⟨_, _, _, _, o⟩ := hO; exact o)).blk.facts3
        clear hO
        by_cases hbn : b < n
        · go_wp2_with (fail)
          obtain ⟨wo2, rfl⟩ : ∃ wo2 : World, wo2 = wr := ⟨_, rfl⟩
          go_loopw [5, 8, 9] (fun v x i wr => ∃ k : Nat, i = .int .i64 k ∧ k ≤ m.length ∧ x = .int .i64 (selM hd (m.take k) a b).length ∧ OA w wr v (preA hd m n a b ++ selM hd (m.take k) a b)) (fun _ _ i _ => m.length - (intOf i).toNat)
          case atStart => exact ⟨0, rfl, Nat.zero_le _, by rw [List.take_zero, selM_nil]; rfl, by rw [List.take_zero, selM_nil, List.append_nil]; exact HO.out⟩
          case round =>
            clear g0 g1 g2 gl HO
            obtain ⟨k, rfl, hk, rfl, hO⟩ := hrel
            have HO := Lib.hid hO
            have hR := HR.out.keep (by obtain ⟨_, _, _, _, o⟩ := hO; exact o)
            obtain ⟨g0, g1, g2, gl⟩ := hR.blk.facts3
            clear hO
            by_cases hkm : k < m.length
            · obtain ⟨e, he⟩ : ∃ e, m[k]? = some e := ⟨_, List.getElem?_eq_getElem hkm⟩
              obtain ⟨p, rfl, pl, pb, c0, c1, c2⟩ := own_cell rfl hR.own he
              have htk : m.take (k + 1) = m.take k ++ [e] := by rw [List.take_add_one, he]; rfl
              have hsl := selM_le hd (m.take k) a b
              rw [List.length_take] at hsl
              have hpl := preA_le (hd := hd) (m := m) (n := n) (a := a) (b := b) hn (by omega) (by omega) hl
              have iz0 : (0 : Int) ≤ (k : Int) := by omega
              have iz1 : (k : Int) < (m.length : Int) := by omega
              have HTK := Lib.hid htk
              clear hR he htk
              obtain ⟨⟨x, y⟩, z⟩ := e
              dsimp only at c0 c1 c2
              by_cases hx : x = a
              · have hbx : (x == (a : Int)) = true := by simpa using hx
                by_cases hy : y = b
                · have hby : (y == (b : Int)) = true := by simpa using hy
                  have hxy : ((x, y) : Pr) = ((a : Int), (b : Int)) := by rw [hx, hy]
                  have HXY := Lib.hid hxy
                  clear hxy
                  cases hd with
                  | false =>
                    have e2 := selM_all (m := m.take k) (e := ((x, y), z)) HXY.out
                    have HE := Lib.hid e2
                    obtain ⟨A', c', v', w1, hv, hrun, hO1⟩ := HO.out.push (by rw [List.length_append]; omega) ((x, y), z)
                    have HO1 := Lib.hid hO1
                    clear e2 hO1 hx hy
                    subst hv
                    go_wp2_with (at_builtin; refine wpList_append_run hrun rfl _ _ rfl rfl rfl rfl ?_)
                    go_roundw
                    case rel => exact ⟨k + 1, by go_num, hkm, by rw [HTK.out, HE.out, List.length_append]; go_num, by rw [HTK.out, HE.out, ← List.append_assoc]; exact HO1.out⟩
                    case measure => simp [intOf]; omega
                  | true =>
                    by_cases h0 : (selM true (m.take k) a b).length = 0
                    · have e2 := selM_first (m := m.take k) (e := ((x, y), z)) HXY.out h0
                      have HE := Lib.hid e2
                      have hz : (((selM true (m.take k) a b).length : Int) == 0) = true := by rw [h0]; rfl
                      obtain ⟨A', c', v', w1, hv, hrun, hO1⟩ := HO.out.push (by rw [List.length_append]; omega) ((x, y), z)
                      have HO1 := Lib.hid hO1
                      clear e2 hO1 hx hy h0
                      subst hv
                      go_wp2_with (at_builtin; refine wpList_append_run hrun rfl _ _ rfl rfl rfl rfl ?_)
                      go_roundw
                      case rel => exact ⟨k + 1, by go_num, hkm, by rw [HTK.out, HE.out, List.length_append]; go_num, by rw [HTK.out, HE.out, ← List.append_assoc]; exact HO1.out⟩
                      case measure => simp [intOf]; omega
                    · have e2 := selM_later (m := m.take k) (a := a) (b := b) (e := ((x, y), z)) h0
                      have HE := Lib.hid e2
                      have hz : (((selM true (m.take k) a b).length : Int) == 0) = false := by rw [beq_eq_false_iff_ne]; intro hc; exact h0 (by omega)
                      clear e2 hx hy h0
                      go_wp2_with (fail)
                      go_roundw
                      case rel => exact ⟨k + 1, by go_num, hkm, by rw [HTK.out, HE.out], by rw [HTK.out, HE.out]; exact HO.out⟩
                      case measure => simp [intOf]; omega
                · have hby : (y == (b : Int)) = false := by simpa using hy
                  have HE := Lib.hid (selM_other (hd := hd) (m := m.take k) (a := a) (b := b) (e := ((x, y), z)) (by simp [hy]))
                  clear hx hy
                  go_wp2_with (fail)
                  go_roundw
                  case rel => exact ⟨k + 1, by go_num, hkm, by rw [HTK.out, HE.out], by rw [HTK.out, HE.out]; exact HO.out⟩
                  case measure => simp [intOf]; omega
              · have hbx : (x == (a : Int)) = false := by simpa using hx
                have HE := Lib.hid (selM_other (hd := hd) (m := m.take k) (a := a) (b := b) (e := ((x, y), z)) (by simp [hx]))
                clear hx
                go_wp2_with (fail)
                go_roundw
                case rel => exact ⟨k + 1, by go_num, hkm, by rw [HTK.out, HE.out], by rw [HTK.out, HE.out]; exact HO.out⟩
                case measure => simp [intOf]; omega
            · obtain rfl : k = m.length := by omega
              clear hR
              go_wp2_with (fail)
              go_roundw
              case rel => exact ⟨b + 1, by go_num, by omega, by rw [preA_succ]; have := HO.out; rw [List.take_length] at this; exact this⟩
              case measure => simp [intOf]; omega
        · obtain rfl : b = n := by omega
          go_wp2_with (fail)
          go_roundw
          case rel => exact ⟨a + 1, by go_num, by omega, by rw [preA_next]; exact HO.out⟩
          case measure => simp [intOf]; omega
    · obtain rfl : a = n := by omega
      go_wp2_with (fail)
      go_ret
      exact ⟨_, rfl, by rw [← preA_all]; exact HO.out⟩
end Go.Proofs.Ytlhmhpopppfpkaa
