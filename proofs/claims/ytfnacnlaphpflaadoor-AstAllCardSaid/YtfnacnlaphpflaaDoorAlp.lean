/- What AstAll needs of the expressions of a program, in plain words. -/
import Derived.Test.YtfnacnlaphpflaaDoorPSp
import Derived.Test.YtfnacnlaphpflaaDoorPRt
namespace Go.Proofs.YtfnacnlaphpflaaDoor
open Go.RowKit Go.Kx
set_option maxRecDepth 100000
theorem spL_mem {α : Type} {f : α → Ex} {m p : Nat} {l : List α} {s : Sp} (h : s ∈ spL f m p l) : ∃ a ∈ l, s.e = f a := by
  obtain ⟨i, hi, rfl⟩ := List.mem_mapIdx.1 h
  exact ⟨l[i], List.getElem_mem hi, rfl⟩
theorem ifL_mem {m : Nat} {l : List Em} {s : Sp} (h : s ∈ ifL m l) : ∃ x ∈ l, s.e ∈ x.i_ := by
  obtain ⟨q, hq, hs⟩ := List.mem_flatten.1 h
  obtain ⟨i, hi, rfl⟩ := List.mem_mapIdx.1 hq
  obtain ⟨e, he, rfl⟩ := List.mem_map.1 hs
  exact ⟨l[i], List.getElem_mem hi, he⟩
theorem mdL_mem {m : Nat} {x : Md} {s : Sp} (h : s ∈ mdL m x) :
    (∃ a ∈ x.vars_, s.e = a.e_) ∨ (s.e ∈ x.ta_) ∨ (∃ a ∈ x.emits_, s.e = a.e_ ∨ s.e ∈ a.i_) ∨ (∃ a ∈ x.int_, s.e = a.e_) ∨ (∃ a ∈ x.ext_, s.e = a.e_) ∨ (∃ a ∈ x.own_, s.e = a.e_) ∨ ∃ a ∈ x.rules_, s.e = a.e_ := by
  simp only [mdL, List.mem_append] at h
  rcases h with ((((((h | h) | h) | h) | h) | h) | h) | h
  · exact .inl (spL_mem h)
  · obtain ⟨a, ha, e⟩ := spL_mem h
    exact .inr (.inl (by rw [e]; exact ha))
  · obtain ⟨a, ha, e⟩ := spL_mem h
    exact .inr (.inr (.inl ⟨a, ha, .inl e⟩))
  · obtain ⟨a, ha, e⟩ := ifL_mem h
    exact .inr (.inr (.inl ⟨a, ha, .inr e⟩))
  · exact .inr (.inr (.inr (.inl (spL_mem h))))
  · exact .inr (.inr (.inr (.inr (.inl (spL_mem h)))))
  · exact .inr (.inr (.inr (.inr (.inr (.inl (spL_mem h))))))
  · exact .inr (.inr (.inr (.inr (.inr (.inr (spL_mem h))))))
theorem allL_mem {ms : List Md} {s : Sp} (h : s ∈ allL ms) : ∃ x ∈ ms, ∃ m, s ∈ mdL m x := by
  obtain ⟨q, hq, hs⟩ := List.mem_flatten.1 h
  obtain ⟨i, hi, rfl⟩ := List.mem_mapIdx.1 hq
  exact ⟨ms[i], List.getElem_mem hi, i, hs⟩
theorem Se.li_e {W : World} {s : Se} (h : Se.Li W s) : Lies W s.e_ := by cases s; exact h.2
theorem Em.li_e {W : World} {s : Em} (h : Em.Li W s) : Lies W s.e_ := by cases s; exact h.2.1
theorem Em.li_i {W : World} {s : Em} (h : Em.Li W s) : ∀ e ∈ s.i_, Lies W e := by cases s; exact h.2.2.sub
theorem Ru.li_e {W : World} {s : Ru} (h : Ru.Li W s) : Lies W s.e_ := by cases s; exact h.1
theorem mdL_lies {W : World} {m : Nat} {x : Md} (h : Md.Li W x) : ∀ s ∈ mdL m x, Lies W s.e := by
  intro s hs
  have hm := mdL_mem hs
  obtain ⟨h1, h2, h3, h4, h5, h6, h7, h8, h9, h10, h11, h12, h13, h14⟩ : True ∧ True ∧ True ∧ True ∧ (∀ a ∈ x.vars_, Se.Li W a) ∧ (∀ a ∈ x.ta_, Lies W a) ∧ (∀ a ∈ x.emits_, Em.Li W a) ∧ (∀ a ∈ x.int_, Se.Li W a) ∧ (∀ a ∈ x.ext_, Se.Li W a) ∧ True ∧ (∀ a ∈ x.own_, Se.Li W a) ∧ True ∧ True ∧ ∀ a ∈ x.rules_, Ru.Li W a := by
    cases x
    obtain ⟨_, _, _, _, h5, h6, h7, h8, h9, _, h11, _, _, h14⟩ := h
    exact ⟨trivial, trivial, trivial, trivial, h5.sub, h6.sub, h7.sub, h8.sub, h9.sub, trivial, h11.sub, trivial, trivial, h14.sub⟩
  rcases hm with ⟨a, ha, e⟩ | e | ⟨a, ha, e | e⟩ | ⟨a, ha, e⟩ | ⟨a, ha, e⟩ | ⟨a, ha, e⟩ | ⟨a, ha, e⟩
  · rw [e]; exact Se.li_e (h5 a ha)
  · exact h6 _ e
  · rw [e]; exact Em.li_e (h7 a ha)
  · exact Em.li_i (h7 a ha) _ e
  · rw [e]; exact Se.li_e (h8 a ha)
  · rw [e]; exact Se.li_e (h9 a ha)
  · rw [e]; exact Se.li_e (h11 a ha)
  · rw [e]; exact Ru.li_e (h14 a ha)
theorem allL_lies {W : World} {A : Option Addr} {ms : List Md} (h : RowX Md.cs 14 Md.Li W A ms) : ∀ s ∈ allL ms, Lies W s.e := fun s hs => by
  obtain ⟨x, hx, m, hm⟩ := allL_mem hs
  exact mdL_lies (h.sub x hx) s hm
theorem setsOk_e {l : List Se} (h : setsOk l = true) : ∀ a ∈ l, a.e_.tr.ok = true := fun a ha => by
  simp only [setsOk, Bool.and_eq_true, List.all_eq_true] at h
  have := h.2 a ha
  simp only [Se.ok, Bool.and_eq_true] at this
  exact this.2
theorem none_of {α : Type} {l : List α} (h : decide (l.length = 0) = true) {a : α} : a ∉ l := by
  rw [List.length_eq_zero_iff.1 (of_decide_eq_true h)]; simp
theorem mdL_ok {m : Nat} {x : Md} (h : x.ok = true) : ∀ s ∈ mdL m x, s.e.tr.ok = true := by
  intro s hs
  have hm := mdL_mem hs
  simp only [Md.ok, Bool.and_eq_true] at h
  obtain ⟨_, h⟩ := h
  split at h
  · simp only [Md.okC, Bool.and_eq_true] at h
    obtain ⟨⟨⟨⟨⟨⟨⟨⟨⟨⟨⟨⟨h1, h2⟩, h3⟩, _⟩, h5⟩, h6⟩, h7⟩, _⟩, _⟩, _⟩, _⟩, _⟩, h13⟩ := h
    rcases hm with ⟨a, ha, e⟩ | e | ⟨a, ha, e⟩ | ⟨a, ha, e⟩ | ⟨a, ha, e⟩ | ⟨a, ha, e⟩ | ⟨a, ha, e⟩
    · exact absurd ha (none_of h1)
    · exact absurd e (none_of h2)
    · exact absurd ha (none_of h3)
    · exact absurd ha (none_of h5)
    · exact absurd ha (none_of h6)
    · exact absurd ha (none_of h7)
    · have := List.all_eq_true.1 h13 a ha
      simp only [Ru.ok, Bool.and_eq_true] at this
      rw [e]; exact this.1.2
  · simp only [Md.okA, Bool.and_eq_true] at h
    obtain ⟨⟨⟨⟨⟨⟨⟨⟨⟨⟨⟨⟨⟨_, _⟩, h3⟩, _⟩, _⟩, _⟩, h7⟩, h8⟩, h9⟩, h10⟩, _⟩, h12⟩, _⟩, h14⟩ := h
    rcases hm with ⟨a, ha, e⟩ | e | ⟨a, ha, e | e⟩ | ⟨a, ha, e⟩ | ⟨a, ha, e⟩ | ⟨a, ha, e⟩ | ⟨a, ha, e⟩
    · rw [e]; exact setsOk_e h7 a ha
    · exact List.all_eq_true.1 h12 _ e
    · have := List.all_eq_true.1 h14 a ha
      simp only [Em.ok, Bool.and_eq_true] at this
      rw [e]; exact this.1.2
    · have := List.all_eq_true.1 h14 a ha
      simp only [Em.ok, Bool.and_eq_true] at this
      exact List.all_eq_true.1 this.2 _ e
    · rw [e]; exact setsOk_e h8 a ha
    · rw [e]; exact setsOk_e h9 a ha
    · rw [e]; exact setsOk_e h10 a ha
    · exact absurd ha (none_of h3)
theorem allL_ok {ms : List Md} {r : ByteArray} (h : okP ms r = true) : ∀ s ∈ allL ms, s.e.tr.ok = true := fun s hs => by
  obtain ⟨x, hx, m, hm⟩ := allL_mem hs
  simp only [okP, Bool.and_eq_true] at h
  exact mdL_ok (List.all_eq_true.1 h.2 x hx) s hm
/-- two lists with the same keys, at one place -/
theorem key_at {L M : List Sp} (h : M.map Sp.key = L.map Sp.key) {k : Nat} {a b : Sp} (ha : M[k]? = some a) (hb : L[k]? = some b) : a.m = b.m ∧ a.p = b.p ∧ a.i = b.i ∧ a.e.tr = b.e.tr := by
  have h1 := congrArg (·[k]?) h
  simp only [List.getElem?_map, ha, hb, Option.map_some, Option.some.injEq, Sp.key, Prod.mk.injEq] at h1
  exact h1
/-- an entry of the document's row, read -/
theorem AtR.read {B : Nat} {w : World} {A : Option Addr} {c : Nat} {L : List Sp} (h : AtR B w A c L) {k : Nat} {s : Sp} (hk : L[k]? = some s) :
    ∃ g, A = some ⟨g, 0, none⟩ ∧ B ≤ g ∧ g < w.heap.size ∧ ∀ j u, s.cd[j]? = some u → w.cell? ⟨g, k * 8 + j, none⟩ = some u := by
  have hlt := (List.getElem?_eq_some_iff.1 hk).1
  obtain ⟨g, hA, hg, hc⟩ := own_cellG h.own (by omega)
  exact ⟨g, hA, (h.low _ hA).1, hg, fun j u hu => hc _ _ (flatG_at Sp.cd spcd_len L k j _ _ hk hu)⟩
end Go.Proofs.YtfnacnlaphpflaaDoor
