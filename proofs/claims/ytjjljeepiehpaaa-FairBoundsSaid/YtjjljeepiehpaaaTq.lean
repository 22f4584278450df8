/- Within a round: a statement that draws its order and only reads: steps in the order of the text. -/
import Derived.Test.YtjjljeepiehpaaaTb
import Derived.Sort.QuietThIn
import Derived.KernelRfl
namespace Go.Proofs.Ytjjljeepiehpaaa
open Go.RowKit Go.Shelf

section
variable {F : Fence} {n : Nat} {P : Program} {ops : Array Oper} {md : Region.Mode} {C : World → Prop} {Q : Act → Prop} {a : Act} {o : Oper} {rest : List Oper}

def noDefer (ops : Array Oper) : Prop := ∀ (i : Nat) (o : Oper), ops[i]? = some o → ∀ c, o.op ≠ Op.defer c

def noDeferB (l : List Oper) : Bool := l.all fun o => match o.op with | .defer _ => false | _ => true
theorem noDefer_of {l : List Oper} (h : noDeferB l = true) : noDefer l.toArray := by
  intro i o ho c hc
  have hm : o ∈ l := by
    rw [List.getElem?_toArray] at ho
    exact List.mem_of_getElem? ho
  have h2 := List.all_eq_true.1 h o hm
  rw [hc] at h2
  cases h2

theorem wpOpIn_of_q {i : Nat} {a : Act} {K : Act → Prop} {K' : Act → World → Prop} {Q' : Exit → Act → World → Prop} {w : World} (hnd : noDefer ops) (hC : C w) (h : ∀ a w', C w' → K a → K' a w')
    (hh : qOpIn F n P ops C i K a) : wpOpIn F n P ops Q' i K' a w := by
  unfold qOpIn at hh
  unfold wpOpIn
  split
  · rename_i ho; simp only [ho] at hh; exact h _ _ hC hh
  · rename_i o ho
    simp only [ho] at hh
    obtain ⟨ha, hh⟩ := hh
    split
    · rename_i hw
      simp only [hw, if_true] at hh
      obtain ⟨v, h1, h2⟩ := hh
      have h3 := h1 w hC
      unfold Oper.quietAtIn at h3
      unfold Oper.wpIn
      refine ⟨ha w hC, ?_⟩
      rw [Oper.semAt_eq _ _ _ (hnd i o ho)]
      generalize (execOp a.eval o).run P w = r at *
      cases r with
      | ok x w' =>
        cases x <;> simp only [Oper.quietUponIn] at h3 <;> simp only [Oper.uponIn]
        case value u =>
          obtain ⟨e1, e2⟩ := h3
          rw [e1, e2]; exact h _ _ hC h2
        case skip =>
          obtain ⟨e1, e2⟩ := h3
          rw [e1, ← e2]; exact h _ _ hC h2
        case enter f args =>
          obtain ⟨e1, hd, hc⟩ := h3
          rw [e1]
          exact ⟨hd, hc.mono fun e w'' ⟨he, hw''⟩ => by subst he; exact h _ _ hw'' h2⟩
      | halt x w' => simp only [Oper.quietUponIn] at h3
    · rename_i hw; simp only [hw] at hh; exact ⟨ha w hC, h _ _ hC hh⟩

theorem wpAnyIn_of_q {Q' : Exit → Act → World → Prop} (hnd : noDefer ops) (hQ : ∀ a w, C w → Q a → Q' .normal a w) : ∀ (fuel : Nat) (listed : Array Bool) (a : Act) (w : World), C w →
    wpAnyQIn F n P md ops C Q fuel listed a → wpAnyIn F n P md ops Q' fuel listed a w
  | 0, _, _, _, hw, h => ⟨h.1, hQ _ _ hw h.2⟩
  | fuel + 1, _, _, _, hw, h => ⟨fun h0 => hQ _ _ hw (h.1 h0), fun i hi => wpOpIn_of_q hnd hw (fun a' w' hw' => wpAnyIn_of_q hnd hQ fuel _ a' w' hw') (h.2 i hi)⟩

theorem wpIn_region_q {id : Nat} {Q' : Exit → Act → World → Prop} {w : World} {l : List Oper} (hm : P.follows .mixedOrders = true) (hnd : noDeferB l = true) (hB : Region.lexB .any l.toArray = true)
    (h : wpQuietIn F n P l.toArray (fun w' => ∃ k, w' = w.drewN k) (fun a' => ∀ k, Q' .normal a' (w.drewN k)) l a) : (Code.region id l.toArray true).wpIn F n P Q' a w := by
  simp only [Region.lexB, Bool.and_eq_true] at hB
  refine wpIn_region_any hm (wpAnyIn_of_q (noDefer_of hnd) (C := fun w' => ∃ k, w' = w.drewN k) (Q := fun a' => ∀ k, Q' .normal a' (w.drewN k)) (fun _ w' ⟨k, hk⟩ h => by rw [hk]; exact h k) _ _ _ _ ⟨1, rfl⟩ ?_)
  have := wpAnyQIn_lex (F := F) (n := n) (C := fun w' => ∃ k, w' = w.drewN k) (md := .any) hB.1 l 0 (Array.replicate l.toArray.size false) a (by simp) (by simpa using hB.2) h
  simpa using this

theorem qi_val (v : Value) (hno : ∀ w, o.about P w a.eval = none) (hw : Region.wanted o (yielded ops a.tmps) = true) (hv : ∀ w, C w → (execOp a.eval o).run P w = .ok (.value v) w)
    (h : wpQuietIn F n P ops C Q rest (a.put o.dst v)) : wpQuietIn F n P ops C Q (o :: rest) a := by
  unfold wpQuietIn
  refine ⟨fun w _ f hf => (by rw [hno] at hf; cases hf), ?_⟩
  rw [if_pos hw]
  exact ⟨v, fun w hC => by unfold Oper.quietAtIn; rw [hv w hC]; exact ⟨rfl, rfl⟩, h⟩
end

end Go.Proofs.Ytjjljeepiehpaaa
