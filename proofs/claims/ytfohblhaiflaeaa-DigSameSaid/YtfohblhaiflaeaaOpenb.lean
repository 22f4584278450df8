/- A slice of bytes as an argument: what it is as a value. -/
import Derived.Test.YtfohblhaiflaeaaDb
import Derived.ChangeSlices
import Derived.ProofKit
import Derived.OpenShut
namespace Go.Proofs.Ytfohblhaiflaeaa
open Go.RowKit Go.ChangeShapes Go.WideShapes Go.ChangeAt

section
variable {H : Type} {enc : TypeId × Value → H} {w : World} {base : Nat} {spare : Nat → Bool} {held : Bool}
theorem cells5 : Try.prog.cellsOf 5 = 1 := by kernel_rfl

theorem add_flat8 (b off n : Nat) : (⟨b, off, none⟩ : Addr).add n = ⟨b, off + n, none⟩ := by
  unfold Addr.add
  split
  · rename_i h; subst h; rfl
  · rfl
theorem u8_of_wf {n : Int} (h : (Lit.int .u8 n).wf = true) : (Value.int .u8 n) = B8 (UInt8.ofNat n.toNat) := by
  have hb : 0 ≤ n ∧ n < 256 := by
    have h2 : IntKind.u8.min ≤ n ∧ n ≤ IntKind.u8.max := by simpa [Lit.wf] using h
    have e1 : IntKind.u8.min = 0 := rfl
    have e2 : IntKind.u8.max = 255 := rfl
    rw [e1, e2] at h2
    omega
  show Value.int .u8 n = Value.int .u8 ((UInt8.ofNat n.toNat).toNat : Int)
  rw [UInt8.toNat_ofNat', Nat.mod_eq_of_lt (by omega)]
  congr 1
  omega

set_option maxRecDepth 100000 in
theorem open_byt {r : Reach} {b0 : Nat} {v : Value} {d : DataW H} {p : List MemPlace} (hv : Value.okWide Try.prog w r b0 30 v) (h : DataW.Trod enc Try.prog w base spare held 30 v d p) :
    ∃ a l c bs, v = .slice a l c ∧ Byt w.heap.size w (.slice a l c) bs ∧ (a = none → c = 0) := by
  obtain ⟨a0, len0, cap0, rfl⟩ := okWide_slice Try.underlying30 hv
  obtain ⟨fuel, hf⟩ := h
  rcases open_ints Try.underlying30 Try.underlying5 cells5 hf with ⟨hcs, _⟩ | ⟨a, len, cap, zs, hcs, _, hl, _, hz, _, hcell, hwz⟩
  · simp [Value.cells] at hcs
    obtain ⟨rfl, rfl, rfl⟩ := hcs
    exact ⟨_, _, _, [], rfl, .inl ⟨_, _, rfl, rfl⟩, fun _ => rfl⟩
  · simp [Value.cells] at hcs
    obtain ⟨rfl, rfl, rfl⟩ := hcs
    have hlz : len0 ≤ zs.length := by rw [hz]; split <;> omega
    rcases Nat.eq_zero_or_pos len0 with rfl | hpos
    · exact ⟨_, _, _, [], rfl, .inl ⟨_, _, rfl, rfl⟩, fun h => (by cases h)⟩
    · have g0 := hcell 0 (by omega)
      have ha : a = ⟨a.block, a.off, none⟩ := by
        obtain ⟨b, off, spot⟩ := a
        cases spot with
        | none => rfl
        | some k =>
          have := World.cell?_spot g0
          simp [Addr.add] at this
      have hblk : a.block < w.heap.size := by
        have := World.block_lt_of_cell? w _ g0
        simpa [Addr.add] using this
      have hlen : ((zs.take len0).map fun n => UInt8.ofNat n.toNat).length = len0 := by simp; omega
      refine ⟨some a, len0, cap0, (zs.take len0).map fun n => UInt8.ofNat n.toNat, rfl, .inr ⟨a.block, a.off, cap0, by rw [hlen, ← ha], by rw [hlen]; exact hl, hblk, fun j hj => ?_⟩, fun h => (by cases h)⟩
      rw [hlen] at hj
      have c0 := hcell j (by omega)
      rw [ha] at c0
      rw [add_flat8] at c0
      rw [c0]
      have hw := hwz (zs.getD j 0) (by rw [List.getD_eq_getElem?_getD, List.getElem?_eq_getElem (by omega)]; exact List.getElem_mem _)
      rw [u8_of_wf hw, List.getD_eq_getElem?_getD, List.getD_eq_getElem?_getD, List.getElem?_map, List.getElem?_take_of_lt (by omega), List.getElem?_eq_getElem (show j < zs.length by omega)]
      rfl
end

end Go.Proofs.Ytfohblhaiflaeaa
