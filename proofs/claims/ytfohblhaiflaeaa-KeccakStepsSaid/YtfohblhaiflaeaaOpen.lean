/- An array of 25 numbers of 64 bits as an argument: what it is as a value. -/
import Derived.Test.YtfohblhaiflaeaaQ
import Derived.ProofKit
import Derived.OpenShut
namespace Go.Proofs.Ytfohblhaiflaeaa
open Go.RowKit Go.ChangeShapes Go.WideShapes Go.ChangeAt

theorem bv_of_wf {n : Int} (h : (Lit.int .u64 n).wf = true) : ∃ x : BitVec 64, (Value.int .u64 n) = U x := by
  have hb : 0 ≤ n ∧ n < 18446744073709551616 := by
    have h2 : IntKind.u64.min ≤ n ∧ n ≤ IntKind.u64.max := by simpa [Lit.wf] using h
    have e1 : IntKind.u64.min = 0 := rfl
    have e2 : IntKind.u64.max = 18446744073709551615 := rfl
    rw [e1, e2] at h2
    omega
  refine ⟨BitVec.ofNat 64 n.toNat, ?_⟩
  have : ((BitVec.ofNat 64 n.toNat).toNat : Int) = n := by rw [BitVec.toNat_ofNat]; omega
  show Value.int .u64 n = Value.int .u64 ((BitVec.ofNat 64 n.toNat).toNat : Int)
  rw [this]

section
variable {H : Type} {enc : TypeId × Value → H} {w : World} {base : Nat} {spare : Nat → Bool} {held : Bool}
theorem cells22 : Try.prog.cellsOf 22 = 1 := by kernel_rfl
theorem cells23 : Try.prog.cellsOf 23 = 25 := by kernel_rfl

theorem open25 {r : Reach} {b0 : Nat} {v : Value} {d : DataW H} {p : List MemPlace} (hv : Value.okWide Try.prog w r b0 23 v) (h : DataW.Trod enc Try.prog w base spare held 23 v d p) :
    ∃ s : List (BitVec 64), s.length = 25 ∧ v = .agg (vals s) := by
  unfold Value.okWide at hv
  rw [und23] at hv
  obtain ⟨cs, rfl, hsz, _⟩ := hv
  rw [cells23] at hsz
  obtain ⟨fuel, hf⟩ := h
  obtain ⟨xs, m, _, _, _, hxl, hx⟩ := DataW.trod_array und23 hf
  have hcell : ∀ i, i < 25 → ∃ x : BitVec 64, cs[i]? = some (U x) := by
    intro i hi
    have h1 := hx i hi
    rw [cells22, List.getElem?_eq_getElem (by omega)] at h1
    have hlen : cs.toList.length = 25 := by simpa using hsz
    have e : ((Value.agg cs).cells.toList.drop (i * 1)).take 1 = [cs[i]'(by omega)] := by
      show (cs.toList.drop (i * 1)).take 1 = _
      rw [Nat.mul_one, List.drop_eq_getElem_cons (by omega)]
      simp
    rw [e] at h1
    obtain ⟨n, h2, _, wn⟩ := DataW.trod_int und22 h1
    obtain ⟨x, hx2⟩ := bv_of_wf wn
    refine ⟨x, ?_⟩
    rw [Array.getElem?_eq_getElem (by omega)]
    simp only [List.cons.injEq, and_true] at h2
    rw [h2, hx2]
  have hs : ∃ s : List (BitVec 64), s.length = 25 ∧ ∀ i, i < 25 → cs[i]? = some (U (s.getD i 0)) := by
    have key : ∀ n, n ≤ 25 → ∃ s : List (BitVec 64), s.length = n ∧ ∀ i, i < n → cs[i]? = some (U (s.getD i 0)) := by
      intro n
      induction n with
      | zero => intro _; exact ⟨[], rfl, fun i hi => absurd hi (by omega)⟩
      | succ n ih =>
        intro hn
        obtain ⟨s, hl, hs⟩ := ih (by omega)
        obtain ⟨x, hx⟩ := hcell n (by omega)
        refine ⟨s ++ [x], by simp [hl], fun i hi => ?_⟩
        by_cases hin : i < n
        · rw [hs i hin, List.getD_eq_getElem?_getD, List.getD_eq_getElem?_getD, List.getElem?_append_left (by omega)]
        · have : i = n := by omega
          subst this
          rw [hx, List.getD_eq_getElem?_getD, List.getElem?_append_right (by omega), hl]
          simp
    exact key 25 (by omega)
  obtain ⟨s, hl, hs⟩ := hs
  refine ⟨s, hl, ?_⟩
  congr 1
  apply Array.ext_getElem?
  intro i
  by_cases hi : i < 25
  · rw [hs i hi, vals_get s i (by omega)]; rfl
  · rw [Array.getElem?_eq_none (by omega), Array.getElem?_eq_none (by rw [vals_size]; omega)]
end

end Go.Proofs.Ytfohblhaiflaeaa
