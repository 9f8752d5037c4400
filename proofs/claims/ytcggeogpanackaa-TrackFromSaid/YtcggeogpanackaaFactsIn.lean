/- Regions that draw their order, in a round of a range over a function. -/
import Derived.Test.YtcggeogpanackaaFacts
import Derived.Test.YtcggeogpanackaaRange
namespace Go.Kx
open Go

section
variable {P : Program} {ops : Array Oper} {Q : Exit → Act → World → Prop}

/-- A REGION THAT DRAWS ITS ORDER, BY ONE FACT AN OPERATION; from number m on the operations come up in the text's order -/
theorem wpIn_region_facts {id r n : Nat} {a0 : Act} {w0 : World} {fr : (Nat → Value) → Act} {tl : List Oper} (m : Nat) (S : List Nat) (F : Nat → Value → World → Prop) (hnd : (ops.all fun o => match o.op with | .defer _ => false | _ => true) = true) (hQ : ∀ a w, ¬ Q .outgrown a w) (hm : P.follows .mixedOrders = true) (hd : dstsApart ops = true) (hb : edgesBack ops = true)
    (ht : tailWaits ops m = true) (hml : m ≤ ops.size) (htl : ops.toList.drop m = tl)
    (hfr : ∀ vals, putAll ops a0 vals m = fr vals)
    (stab : ∀ i v w w', Only S w w' → F i v w → F i v w')
    (steps : AllDo (Does2 P ops Q fr w0.drew S F) 0 (ops.toList.take m))
    (done : ∀ vals w, Only S w0.drew w → (∀ j, j < m → F j (vals j) w) → wpList P ops Q tl (fr vals) w) : (Code.region id ops true).wpIn (Fence.wide.inRound r) n P Q a0 w0 := by
  refine wpIn_round_any hm hnd hQ ?_
  have hlen : tl.length = ops.size - m := by rw [← htl]; simp
  have h := wpAny_facts (P := P) (Q := Q) hml hd hb ht (Only S) F (a0 := a0) (w0 := w0.drew) (fun a b c h k => h.trans k (fun _ hx => .inl hx)) stab
    (fun i o him hio vals w hR hp K hK => by
      have hD := AllDo.at _ 0 steps i o (by rw [List.getElem?_take_of_lt him]; simpa using hio)
      rw [Nat.zero_add] at hD
      rw [hfr vals]
      exact hD vals w hR (Pre.of _ (fun e he => hp e (by simpa using he))) K (fun a w' ⟨v, ha, hr, hf⟩ => by rw [ha]; have := hK v w' hr hf; rwa [hfr vals] at this))
    (fun vals w hR hF => by
      rw [hfr vals, ← hlen, wpOps_eq_wpList tl m (fun j => by rw [← htl, List.getElem?_drop]; simp)]
      exact done vals w hR hF) ops.size (Array.replicate ops.size false) (fun j => match dstAt ops j with | some t => a0.tmps.getD t undef | none => undef) w0.drew (by simp) (unl_le _ _) (Only.refl _ _)
    (fun j hj => by
      exfalso
      rcases Nat.lt_or_ge j ops.size with h | h
      · simp [h] at hj
      · simp [h] at hj)
    (fun j _ hj => by simp [hj])
  have e : putAll ops a0 (fun j => match dstAt ops j with | some t => a0.tmps.getD t undef | none => undef) m = a0 := putAll_self a0 m
  rw [e] at h
  exact h
end
end Go.Kx
