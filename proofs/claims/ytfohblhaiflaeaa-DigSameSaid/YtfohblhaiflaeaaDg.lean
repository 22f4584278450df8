/- parcloselaw20.awake: it answers true. -/
import Derived.Test.YtfohblhaiflaeaaDf
import Derived.Lib.SlBytesConst
namespace Go.Proofs.Ytfohblhaiflaeaa
open Go.RowKit

theorem dig_nil : digF [] = [167, 255, 198, 248, 191, 30, 215, 102, 81, 193, 71, 86, 160, 97, 214, 98, 245, 128, 255, 77, 228, 59, 73, 250, 130, 216, 10, 75, 128, 248, 67, 74] := by decide +kernel
theorem dig_abc : digF [97, 98, 99] = [58, 152, 93, 167, 79, 226, 37, 178, 4, 92, 23, 45, 107, 211, 144, 189, 133, 95, 8, 110, 62, 157, 82, 91, 70, 191, 226, 69, 17, 67, 21, 50] := by decide +kernel

/-- the digest of no bytes, and that of "abc", as texts -/
def strNil : ByteArray := ⟨(digF []).toArray⟩
def strAbc : ByteArray := ⟨(digF [97, 98, 99]).toArray⟩
theorem str_nil_size : strNil.size = 32 := by unfold strNil; rw [dig_nil]; rfl
theorem str_abc_size : strAbc.size = 32 := by unfold strAbc; rw [dig_abc]; rfl
theorem str_ne : (strNil.toList == strAbc.toList) = false := by unfold strNil strAbc; rw [dig_nil, dig_abc]; decide +kernel
theorem nil_0 : (((strNil[0]'(by rw [str_nil_size]; decide)).toNat : Nat) : Int) = 167 := by
  have key : ∀ (l : List UInt8) (h : 0 < (⟨l.toArray⟩ : ByteArray).size), l.getD 0 0 = 167 → ((((⟨l.toArray⟩ : ByteArray)[0]'h).toNat : Nat) : Int) = 167 := by
    intro l h e
    cases l with
    | nil => simp at e
    | cons x l => simp at e; subst e; rfl
  exact key (digF []) _ (by rw [dig_nil]; rfl)
theorem nil_1 : (((strNil[1]'(by rw [str_nil_size]; decide)).toNat : Nat) : Int) = 255 := by
  have key : ∀ (l : List UInt8) (h : 1 < (⟨l.toArray⟩ : ByteArray).size), l.getD 1 0 = 255 → ((((⟨l.toArray⟩ : ByteArray)[1]'h).toNat : Nat) : Int) = 255 := by
    intro l h e
    match l with
    | [] => simp at e
    | [x] => simp at e
    | x :: y :: l => simp at e; subst e; rfl
  exact key (digF []) _ (by rw [dig_nil]; rfl)
theorem abc_0 : (((strAbc[0]'(by rw [str_abc_size]; decide)).toNat : Nat) : Int) = 58 := by
  have key : ∀ (l : List UInt8) (h : 0 < (⟨l.toArray⟩ : ByteArray).size), l.getD 0 0 = 58 → ((((⟨l.toArray⟩ : ByteArray)[0]'h).toNat : Nat) : Int) = 58 := by
    intro l h e
    cases l with
    | nil => simp at e
    | cons x l => simp at e; subst e; rfl
  exact key (digF [97, 98, 99]) _ (by rw [dig_abc]; rfl)
theorem abc_1 : (((strAbc[1]'(by rw [str_abc_size]; decide)).toNat : Nat) : Int) = 152 := by
  have key : ∀ (l : List UInt8) (h : 1 < (⟨l.toArray⟩ : ByteArray).size), l.getD 1 0 = 152 → ((((⟨l.toArray⟩ : ByteArray)[1]'h).toNat : Nat) : Int) = 152 := by
    intro l h e
    match l with
    | [] => simp at e
    | [x] => simp at e
    | x :: y :: l => simp at e; subst e; rfl
  exact key (digF [97, 98, 99]) _ (by rw [dig_abc]; rfl)
theorem byt_nil (n₀ : Nat) (w : World) : Byt n₀ w (.slice none 0 0) [] := .inl ⟨none, 0, rfl, rfl⟩

set_option maxRecDepth 100000 in
set_option maxHeartbeats 2000000 in
theorem awake20 (w : World) : Calls Try.prog 18 #[] w fun e w' => e = .returned (.bool true) ∧ Below w.heap.size w w' := by
  have h1 := of_any none 0 0 [] w (byt_nil _ _) (by decide)
  change Calls Try.prog 19 _ w fun e W' => e = .returned (.string strNil) ∧ Below w.heap.size w W' at h1
  go_enter Try.func18, Try.ntmps18
  go_wp2_with fail
  with_reducible refine h1.mono ?_
  rintro e w1 ⟨rfl, hb1⟩
  clear h1
  have kc := Lib.run_convert_bytes_const (P := Try.prog) w1 30 5 #[.int .u8 97, .int .u8 98, .int .u8 99] 3 3 und30 und5
  have hbc : Byt (w1.alloc (.cells #[.int .u8 97, .int .u8 98, .int .u8 99] 5 (3, 4))).heap.size (w1.alloc (.cells #[.int .u8 97, .int .u8 98, .int .u8 99] 5 (3, 4))) (.slice (some ⟨w1.heap.size, 0, none⟩) 3 3) [97, 98, 99] := by
    refine .inr ⟨w1.heap.size, 0, 3, rfl, by decide, by simp, fun j hj => ?_⟩
    rw [cell_of_row _ w1.heap.size (0 + j) #[.int .u8 97, .int .u8 98, .int .u8 99] 5 (3, 4) (heap_alloc_new w1 _)]
    have : j = 0 ∨ j = 1 ∨ j = 2 := by simp at hj; omega
    rcases this with rfl | rfl | rfl <;> rfl
  have h2 := of_any _ 3 3 [97, 98, 99] _ hbc (by decide)
  change Calls Try.prog 19 _ _ fun e W' => e = .returned (.string strAbc) ∧ _ at h2
  have hB2 := hb1.alloc hb1.size (.cells #[.int .u8 97, .int .u8 98, .int .u8 99] 5 (3, 4))
  have H2 := veil h2
  clear h2 hbc hb1
  go_wp2_with fail
  with_reducible refine H2.out.mono ?_
  rintro e w2 ⟨rfl, hb2⟩
  have hB3 := hB2.trans (hb2.mono hB2.size)
  clear hb2 hB2 H2 kc
  have s1 := str_nil_size
  have s2 := str_abc_size
  have s3 := str_ne
  have h3 := refof_any none 0 0 [] w2.heap.size w2 (byt_nil _ _) (Nat.le_refl _) (by decide)
  change Calls Try.prog 21 _ _ fun e W' => e = .returned (.string strNil) ∧ _ at h3
  have H3 := veil h3
  clear h3
  go_wp2_with fail
  with_reducible refine H3.out.mono ?_
  rintro e w3 ⟨rfl, hb3⟩
  have hB4 := hB3.trans (hb3.mono hB3.size)
  clear hb3 hB3 H3
  have n0 := nil_0
  have n1 := nil_1
  have a0 := abc_0
  have a1 := abc_1
  go_wp2
  go_ret
  exact ⟨rfl, hB4⟩

end Go.Proofs.Ytfohblhaiflaeaa
