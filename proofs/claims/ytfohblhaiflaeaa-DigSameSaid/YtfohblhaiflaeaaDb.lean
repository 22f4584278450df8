/- dig.number, parcloseref20.at, parcloselaw20.short: what they come to. -/
import Derived.Test.YtfohblhaiflaeaaDa
namespace Go.Proofs.Ytfohblhaiflaeaa
open Go.RowKit

/-- a byte as a value -/
abbrev B8 (b : UInt8) : Value := .int .u8 (b.toNat : Int)
/-- the bytes that a slice holds -/
def Byt (n₀ : Nat) (W : World) (sv : Value) (bs : List UInt8) : Prop :=
  (∃ a cap, sv = .slice a 0 cap ∧ bs = []) ∨ ∃ b off cap, sv = .slice (some ⟨b, off, none⟩) bs.length cap ∧ bs.length ≤ cap ∧ b < n₀ ∧
    ∀ j, j < bs.length → W.cell? ⟨b, off + j, none⟩ = some (B8 (bs.getD j 0))
theorem Byt.below {n₀ : Nat} {A B : World} (h : Below n₀ A B) {sv : Value} {bs : List UInt8} : Byt n₀ A sv bs → Byt n₀ B sv bs
  | .inl e => .inl e
  | .inr ⟨b, off, cap, e, hc, hb, hs⟩ => .inr ⟨b, off, cap, e, hc, hb, fun j hj => (h.cell (p := ⟨b, off + j, none⟩) hb).trans (hs j hj)⟩
theorem Byt.mono {n₀ n₁ : Nat} {A : World} (h : n₀ ≤ n₁) {sv : Value} {bs : List UInt8} : Byt n₀ A sv bs → Byt n₁ A sv bs
  | .inl e => .inl e
  | .inr ⟨b, off, cap, e, hc, hb, hs⟩ => .inr ⟨b, off, cap, e, hc, by omega, hs⟩
theorem Byt.drewN {n₀ : Nat} {A : World} (n : Nat) {sv : Value} {bs : List UInt8} : Byt n₀ A sv bs → Byt n₀ (A.drewN n) sv bs
  | .inl e => .inl e
  | .inr ⟨b, off, cap, e, hc, hb, hs⟩ => .inr ⟨b, off, cap, e, hc, hb, hs⟩
theorem Byt.len {n₀ : Nat} {A : World} {a : Option Addr} {l c : Nat} {bs : List UInt8} (h : Byt n₀ A (.slice a l c) bs) : l = bs.length := by
  rcases h with ⟨a', c', e, rfl⟩ | ⟨b, off, c', e, _⟩
  · injection e with _ e2 _
  · injection e with _ e2 _
theorem Byt.at {n₀ : Nat} {W : World} {a : Option Addr} {l c : Nat} {bs : List UInt8} (h : Byt n₀ W (.slice a l c) bs) (h0 : 0 < bs.length) :
    ∃ b off, a = some ⟨b, off, none⟩ ∧ bs.length ≤ c ∧ b < n₀ ∧ ∀ j, j < bs.length → W.cell? ⟨b, off + j, none⟩ = some (B8 (bs.getD j 0)) := by
  rcases h with ⟨a', c', e, rfl⟩ | ⟨b, off, c', e, hc, hb, hs⟩
  · simp at h0
  · injection e with e1 e2 e3
    subst e1 e2 e3
    exact ⟨b, off, rfl, hc, hb, hs⟩

theorem B8_bd (b : UInt8) : 0 ≤ (b.toNat : Int) ∧ (b.toNat : Int) < 256 := by have := b.toNat_lt; omega
theorem b8_u64 (b : UInt8) : (b.toNat : Int) = ((BitVec.ofNat 64 b.toNat).toNat : Int) := by
  have := b.toNat_lt
  rw [BitVec.toNat_ofNat, Nat.mod_eq_of_lt (by omega)]
/-- byte i, as a number -/
def bN (bs : List UInt8) (i : Nat) : Nat := (bs.getD i 0).toNat
theorem or_step (bs : List UInt8) (k : Nat) (hk : k < 8) (x : UInt8) (hx : x = bs.getD k 0) : bits .or .u64 (↑(numTo (bN bs) k).toNat) (IntKind.u64.wrap ((x.toNat : Int) * 2 ^ (8 * k))) = ((numTo (bN bs) (k + 1)).toNat : Int) := by
  rw [b8_u64, shl_num' _ _ (by omega), or_bv, numTo_succ]
  unfold up8 bN
  rw [hx]

set_option maxHeartbeats 1000000 in
theorem number_any (a : Option Addr) (l c : Nat) (bs : List UInt8) (n₀ : Nat) (w : World) (hI : Byt n₀ w (.slice a l c) bs) (h8 : bs.length ≤ 8) :
    Calls Try.prog 43 #[.slice a l c] w fun e w' => e = .returned (U (numTo (bN bs) bs.length)) ∧ w = w' := by
  obtain rfl := hI.len
  go_enter Try.func43, Try.ntmps43
  go_wp2
  go_loop [3, 8] (fun n i => ∃ k : Nat, k ≤ bs.length ∧ i = .int .i64 k ∧ n = U (numTo (bN bs) k)) (fun _ i => bs.length - (intOf i).toNat)
  case atStart => exact ⟨0, Nat.zero_le _, rfl, by rw [numTo_zero]; rfl⟩
  case round =>
    obtain ⟨k, hk, rfl, rfl⟩ := hrel
    by_cases hlt : k < bs.length
    · obtain ⟨b, off, rfl, hcp, hbw, hcs⟩ := hI.at (by omega)
      have hc := hcs k hlt
      have hkl : decide ((k : Int) < bs.length) = true := by simp; omega
      have hbd := B8_bd (bs.getD k 0)
      obtain ⟨x, hx⟩ : ∃ x, x = bs.getD k 0 := ⟨_, rfl⟩
      rw [← hx] at hc hbd
      have HX := veil hx
      clear hcs hx
      go_wp2
      go_round
      case rel => exact ⟨k + 1, by omega, by go_num, congrArg (Value.int .u64) (or_step bs k (by omega) x HX.out)⟩
      case measure => simp [intOf]; omega
    · go_wp2
      go_ret
      have : k = bs.length := by omega
      subst this
      exact ⟨rfl, rfl⟩

set_option maxHeartbeats 1000000 in
theorem short_any (a : Option Addr) (l c : Nat) (bs : List UInt8) (n₀ : Nat) (w : World) (hI : Byt n₀ w (.slice a l c) bs) :
    Calls Try.prog 20 #[.slice a l c] w fun e w' => e = .returned (.slice a (bs.take 700).length c) ∧ w = w' := by
  obtain rfl := hI.len
  have ht : (bs.take 700).length = min 700 bs.length := by simp
  by_cases h : 700 < bs.length
  · obtain ⟨b, off, rfl, hcp, hbw, hcs⟩ := hI.at (by omega)
    have hl : (bs.take 700).length = 700 := by omega
    rw [hl]
    clear ht hl hcs
    go_enter Try.func20, Try.ntmps20
    go_wp2
    go_ret
    exact ⟨rfl, rfl⟩
  · have hl : (bs.take 700).length = bs.length := by omega
    rw [hl]
    clear ht hl
    go_enter Try.func20, Try.ntmps20
    go_wp2
    go_ret
    exact ⟨rfl, rfl⟩
theorem Byt.take {n₀ : Nat} {W : World} {a : Option Addr} {l c : Nat} {bs : List UInt8} (h : Byt n₀ W (.slice a l c) bs) (n : Nat) : Byt n₀ W (.slice a (bs.take n).length c) (bs.take n) := by
  rcases h with ⟨a', c', e, rfl⟩ | ⟨b, off, c', e, hc, hb, hs⟩
  · exact .inl ⟨a, c, by simp, by simp⟩
  · injection e with e1 e2 e3
    subst e1 e2 e3
    refine .inr ⟨b, off, _, rfl, by rw [List.length_take]; omega, hb, fun j hj => ?_⟩
    rw [List.length_take] at hj
    rw [hs j (by omega)]
    simp only [List.getD_eq_getElem?_getD]
    rw [List.getElem?_take_of_lt (by omega)]

/-- what the reference asks of byte n -/
theorem byteN_cases (bs : List UInt8) (n : Nat) : byteN bs n = (if n < bs.length then bN bs n else if n = bs.length then 6 else 0) + (if n + 1 = allOf bs.length then 128 else 0) := rfl
theorem ret_u8 {a b : Int} (h : a = b) : Ending.returned (.int .u8 a) = .returned (.int .u8 b) := by rw [h]

set_option maxHeartbeats 1000000 in
theorem refat_any (a : Option Addr) (l c : Nat) (bs : List UInt8) (n₀ : Nat) (w : World) (hI : Byt n₀ w (.slice a l c) bs) (n : Nat) (hn : n < allOf bs.length) (hm : bs.length ≤ 1000) :
    Calls Try.prog 44 #[.slice a l c, .int .i64 n, .int .i64 (allOf bs.length)] w fun e w' => e = .returned (.int .u8 (byteN bs n)) ∧ w = w' := by
  obtain rfl := hI.len
  have hle := allOf_le bs.length
  have hal := allOf_lt bs.length
  have HB := veil (byteN_cases bs n)
  obtain ⟨all, hall⟩ : ∃ all, all = allOf bs.length := ⟨_, rfl⟩
  rw [← hall] at hn hle hal HB ⊢
  clear hall
  by_cases h1 : n < bs.length
  · obtain ⟨b, off, rfl, hcp, hbw, hcs⟩ := hI.at (by omega)
    have hc := hcs n h1
    have h2 : ¬ n = all - 1 := by omega
    have h3 : (n : Int) ≠ (all : Int) - 1 := by omega
    have h4 : (n : Int) ≠ (bs.length : Int) := by omega
    have h5 : ((n : Int) == (bs.length : Int)) = false := by simpa using h4
    have h6 : ((n : Int) == (all : Int) - 1) = false := by simpa using h3
    have hnl : decide ((n : Int) < bs.length) = true := by simp; omega
    clear hcs
    go_enter Try.func44, Try.ntmps44
    go_wp2
    all_goals
      go_ret
      refine ⟨ret_u8 ?_, rfl⟩
      rw [HB.out, if_pos h1, if_neg (by omega)]
      unfold bN
      simp [List.getD_eq_getElem?_getD, h1]
  · have hnl : decide ((n : Int) < bs.length) = false := by simp; omega
    by_cases h2 : n = bs.length
    · have h5 : ((n : Int) == (bs.length : Int)) = true := by simp; omega
      by_cases h3 : n + 1 = all
      · have h6 : ((n : Int) == (all : Int) - 1) = true := by simp; omega
        go_enter Try.func44, Try.ntmps44
        go_wp2
        all_goals
          go_ret
          refine ⟨ret_u8 ?_, rfl⟩
          rw [HB.out, if_neg h1, if_pos h2, if_pos h3]
          rfl
      · have h6 : ((n : Int) == (all : Int) - 1) = false := by simp; omega
        go_enter Try.func44, Try.ntmps44
        go_wp2
        all_goals
          go_ret
          refine ⟨ret_u8 ?_, rfl⟩
          rw [HB.out, if_neg h1, if_pos h2, if_neg h3]
          rfl
    · have h5 : ((n : Int) == (bs.length : Int)) = false := by simp; omega
      by_cases h3 : n + 1 = all
      · have h6 : ((n : Int) == (all : Int) - 1) = true := by simp; omega
        go_enter Try.func44, Try.ntmps44
        go_wp2
        all_goals
          go_ret
          refine ⟨ret_u8 ?_, rfl⟩
          rw [HB.out, if_neg h1, if_neg h2, if_pos h3]
          rfl
      · have h6 : ((n : Int) == (all : Int) - 1) = false := by simp; omega
        go_enter Try.func44, Try.ntmps44
        go_wp2
        all_goals
          go_ret
          refine ⟨ret_u8 ?_, rfl⟩
          rw [HB.out, if_neg h1, if_neg h2, if_neg h3]
          rfl

end Go.Proofs.Ytfohblhaiflaeaa
