/- Printed by print.sh for the functions that FairBounds reaches (part 3); one arm mended by hand in part 2, the functions after Gap are left out. -/
import Derived.Test.YtjjljeepiehpaaaFb0
import Derived.Test.YtjjljeepiehpaaaFb1
import Derived.Test.YtjjljeepiehpaaaFb2
namespace Go.Proofs.Ytjjljeepiehpaaa.PFairBounds
open Go.RowKit Go.Proofs.YtjjljeepiehpaaaW.PrintWords Go.Proofs.YtjjljeepiehpaaaW.PrintLast Go.Proofs.YtjjljeepiehpaaaW.PrintMore
attribute [local go_sem] max2_int min2_int max_two min_two max_three min_three max_four min_four   -- for this text's walks alone
set_option linter.unusedVariables false
set_option linter.unusedSimpArgs false

/-! ### parcloseref27_Gap: function 21 -/
def parcloseref27_Gap.l0 : Nat → List Bool → Int → Int → Int → Option (Int)
  | 0, _, _, _, _ => none
  | k + 1, x5, x7, x8, x9 => if x9 < (wrap64 (2 * (x5.length : Int))) then (if (x5.length : Int) = 0 then (none) else (if 0 ≤ (Int.tmod x9 (x5.length : Int)) then (if (Int.tmod x9 (x5.length : Int)) < (x5.length : Int) then (if rdOf false x5 (Int.tmod x9 (x5.length : Int)) = true then (if x7 ≥ 0 then (if (wrap64 (x9 - x7)) > x8 then (parcloseref27_Gap.l0 k x5 x9 (wrap64 (x9 - x7)) (wrap64 (x9 + 1))) else (parcloseref27_Gap.l0 k x5 x9 x8 (wrap64 (x9 + 1)))) else (parcloseref27_Gap.l0 k x5 x9 x8 (wrap64 (x9 + 1)))) else (parcloseref27_Gap.l0 k x5 x7 x8 (wrap64 (x9 + 1)))) else (none)) else (none))) else (some x8)
def parcloseref27_Gap.f (k : Nat) (l0 : List (S49)) (a1 : Int) : Option (Int) := (parcloseref27_starts.f k l0 a1).bind fun bt153 => (parcloseref27_Gap.l0 k bt153.1 (-1) 0 0)
theorem parcloseref27_Gap.mono_l : ∀ k, (∀ y0 y1 y2 y3, LeO (parcloseref27_Gap.l0 k y0 y1 y2 y3) (parcloseref27_Gap.l0 (k + 1) y0 y1 y2 y3))
  | 0 => fun _ _ _ _ r h => by simp [parcloseref27_Gap.l0] at h
  | k + 1 => by
    have ih0 := parcloseref27_Gap.mono_l k
    · intro y0 y1 y2 y3
      unfold parcloseref27_Gap.l0
      repeat' first
      | (with_reducible exact ih0 _ _ _ _)
      | (with_reducible exact parcloseref27_starts.mono _ _ _)
      | (with_reducible exact LeO.refl _)
      | (with_reducible exact LeO.none _)
      | (with_reducible refine LeO.ite ?_ ?_)
      | (with_reducible refine LeO.bind ?_ (fun _ => ?_))
      | exact ih0 _ _ _ _
      | exact parcloseref27_starts.mono _ _ _
      | exact LeO.none _
      | refine LeO.ite ?_ ?_
      | refine LeO.bind ?_ (fun _ => ?_)
theorem parcloseref27_Gap.mono : ∀ a0 a1 k, LeO (parcloseref27_Gap.f k a0 a1) (parcloseref27_Gap.f (k + 1) a0 a1) := by
  intro a0 a1 k
  have ih0 := parcloseref27_Gap.mono_l k
  unfold parcloseref27_Gap.f
  repeat' first
      | (with_reducible exact ih0 _ _ _ _)
      | (with_reducible exact parcloseref27_starts.mono _ _ _)
      | (with_reducible exact LeO.refl _)
      | (with_reducible exact LeO.none _)
      | (with_reducible refine LeO.ite ?_ ?_)
      | (with_reducible refine LeO.bind ?_ (fun _ => ?_))
      | exact ih0 _ _ _ _
      | exact parcloseref27_starts.mono _ _ _
      | exact LeO.none _
      | refine LeO.ite ?_ ?_
      | refine LeO.bind ?_ (fun _ => ?_)
set_option maxHeartbeats 8000000 in
set_option maxRecDepth 100000 in
theorem parcloseref27_Gap.calls (k : Nat) (A0 : Option Addr) (c0 : Nat) (l0 : List (S49)) (a1 : Int) (r : Int) (w : World) (hr0 : Kd.C k49 w A0 l0.length l0) (hc0 : l0.length ≤ c0) (h : parcloseref27_Gap.f k l0 a1 = some r) :
    Calls Try.prog 21 #[.slice A0 l0.length c0, .int .i64 a1] w fun e w' => e = .returned (.int .i64 r) ∧ Below w.heap.size w w' := by
  have HR0 := Aside0.mk hr0
  have HC0 := Aside0.mk hc0
  clear hr0 hc0
  have HB := Aside0.mk (Below.refl w.heap.size w)
  have H : ((parcloseref27_starts.f k l0 a1).bind fun bt153 => (parcloseref27_Gap.l0 k bt153.1 (-1) 0 0)) = some r := h
  clear h
  replace H := Option.bind_eq_some_iff.mp H
  obtain ⟨⟨t153, t154⟩, A30, H⟩ := H
  replace H : (parcloseref27_Gap.l0 k t153 (-1) 0 0) = some r := H
  have A3 := Aside0.mk A30
  clear A30
  have H' := Aside0.mk H
  clear H
  go_enter Try.func21, Try.ntmps21
  go_wp2_with (first | ((with_reducible refine gate_callee (f := 39) rfl ?_); refine goesL_ (some 13) rfl rfl Try.func39 (by kernel_rfl) rfl #[.slice A0 l0.length c0, .int .i64 a1] rfl (by (try simp only [List.map_toArray, List.map_cons, List.map_nil]); first | done | rfl | (simp only [List.length_drop, List.length_take]; rfl)) ?_; (with_reducible refine (parcloseref27_starts.calls k _ _ l0 a1 t153 t154 _ ?side1 ?side2 A3.out).mono ?_); (case side1 => repeat (first | exact HR0.out | (with_reducible refine Kd.C_alloc ?_ _) | (with_reducible refine Kd.C_drewN ?_ _) | (with_reducible refine Kd.C_drew ?_))); (case side2 => exact HC0.out); rintro e w4 ⟨v155, rfl, ho0, hb⟩; refine ⟨_, rfl, ?_⟩; have n0_ := Aside0.mk (Kd.R_lower ho0 (below_size (by repeat (first | (with_reducible first | exact HB.out | apply below_alloc | apply pw_below_drewN | apply below_drew1) | exact HB.out)))); have n1_ := Aside0.mk (below_step (by repeat (first | (with_reducible first | exact HB.out | apply below_alloc | apply pw_below_drewN | apply below_drew1) | exact HB.out)) hb); clear HB; have HO156 := n0_; have HB := n1_; clear n0_ n1_; (try clear hb); (try clear hb2); (try clear hk); (try clear hi); (try clear ho0)))
  go_loopg [7, 8, 9] k (fun kq v7 v8 v9 w' => ∃ (x7_1 : Int) (x8_1 : Int) (x9_1 : Int), v7 = .int .i64 x7_1 ∧ v8 = .int .i64 x8_1 ∧ v9 = .int .i64 x9_1 ∧ Aside0 (parcloseref27_Gap.l0 kq t153 x7_1 x8_1 x9_1 = some r) ∧ Aside0 (kq ≤ k) ∧ Aside0 (Kd.R Kd.bool 4 w' w.heap.size (fun _ => True) v155 t153) ∧ Aside0 (Below w.heap.size w w'))
  case atStart => exact ⟨((-1)), (0), (0), (by first | rfl | (simp; done) | (simp [*]; done)), (by first | rfl | (simp; done) | (simp [*]; done)), (by first | rfl | (simp; done) | (simp [*]; done)), H', ⟨Nat.le_refl _⟩, ⟨by (with_reducible repeat (first | apply Kd.R_alloc | apply Kd.R_drewN | apply Kd.R_drew)); exact HO156.out⟩, ⟨by repeat (first | (with_reducible first | exact HB.out | apply below_alloc | apply pw_below_drewN | apply below_drew1) | exact HB.out)⟩⟩
  case round =>
    clear H'
    try clear c2
    try clear p2
    try clear c3
    obtain ⟨x7_1, x8_1, x9_1, rfl, rfl, rfl, HA, HK1, HO_5, HB⟩ := hrel
    cases gk with
    | zero => exact absurd HA.out (by simp [parcloseref27_Gap.l0])
    | succ k1 =>
      have H := HA.out
      clear HA
      simp only [parcloseref27_Gap.l0] at H
      by_cases c5 : x9_1 < (wrap64 (2 * (t153.length : Int)))
      · rw [if_pos c5] at H
        have c5b0 : decide (x9_1 < (wrap64 (2 * (t153.length : Int)))) = true := decide_eq_true c5
        clear c5
        by_cases c6 : (t153.length : Int) = 0
        · rw [if_pos c6] at H
          exact absurd H (by simp)
        · rw [if_neg c6] at H
          have c6b0 : ((t153.length : Int) == 0) = false := beq_eq_false_iff_ne.mpr c6
          have c6b1 : ((t153.length : Int) != 0) = true := bne_iff_ne.mpr c6
          have c6b2 : ¬ (t153 = []) := fun h_ => c6 (by rw [h_]; rfl)
          obtain ⟨ji7, hji7⟩ : ∃ j_ : Int, (Int.tmod x9_1 (t153.length : Int)) = j_ := ⟨_, rfl⟩
          replace H : (if 0 ≤ (ji7) then (if (ji7) < (t153.length : Int) then (if rdOf false t153 (ji7) = true then (if x7_1 ≥ 0 then (if (wrap64 (x9_1 - x7_1)) > x8_1 then (parcloseref27_Gap.l0 k1 t153 x9_1 (wrap64 (x9_1 - x7_1)) (wrap64 (x9_1 + 1))) else (parcloseref27_Gap.l0 k1 t153 x9_1 x8_1 (wrap64 (x9_1 + 1)))) else (parcloseref27_Gap.l0 k1 t153 x9_1 x8_1 (wrap64 (x9_1 + 1)))) else (parcloseref27_Gap.l0 k1 t153 x7_1 x8_1 (wrap64 (x9_1 + 1)))) else (none)) else (none)) = some r := by first | (rw [hji7] at H; exact H) | (simp only [hji7] at H ⊢; exact H)
          by_cases c8 : 0 ≤ (ji7)
          · rw [if_pos c8] at H
            have c8b0 : decide (0 ≤ (ji7)) = true := decide_eq_true c8
            clear c8
            by_cases c9 : (ji7) < (t153.length : Int)
            · rw [if_pos c9] at H
              have c9b0 : decide ((ji7) < (t153.length : Int)) = true := decide_eq_true c9
              clear c9
              obtain ⟨bq10, hbq10⟩ : ∃ b_ : Bool, b_ = (rdOf false t153 (ji7)) := ⟨_, rfl⟩
              replace H : (if bq10 = true then (if x7_1 ≥ 0 then (if (wrap64 (x9_1 - x7_1)) > x8_1 then (parcloseref27_Gap.l0 k1 t153 x9_1 (wrap64 (x9_1 - x7_1)) (wrap64 (x9_1 + 1))) else (parcloseref27_Gap.l0 k1 t153 x9_1 x8_1 (wrap64 (x9_1 + 1)))) else (parcloseref27_Gap.l0 k1 t153 x9_1 x8_1 (wrap64 (x9_1 + 1)))) else (parcloseref27_Gap.l0 k1 t153 x7_1 x8_1 (wrap64 (x9_1 + 1)))) = some r := by rw [← hbq10] at H; exact H
              have Nbq10 := Aside0.mk hbq10
              clear hbq10
              by_cases c11 : bq10 = true
              · subst c11
                have H1 : (if x7_1 ≥ 0 then (if (wrap64 (x9_1 - x7_1)) > x8_1 then (parcloseref27_Gap.l0 k1 t153 x9_1 (wrap64 (x9_1 - x7_1)) (wrap64 (x9_1 + 1))) else (parcloseref27_Gap.l0 k1 t153 x9_1 x8_1 (wrap64 (x9_1 + 1)))) else (parcloseref27_Gap.l0 k1 t153 x9_1 x8_1 (wrap64 (x9_1 + 1)))) = some r := by rw [if_pos rfl] at H; exact H
                clear H
                have H := H1
                clear H1
                by_cases c12 : x7_1 ≥ 0
                · rw [if_pos c12] at H
                  have c12b0 : decide (0 ≤ x7_1) = true := decide_eq_true c12
                  clear c12
                  by_cases c13 : (wrap64 (x9_1 - x7_1)) > x8_1
                  · rw [if_pos c13] at H
                    have c13b0 : decide (x8_1 < (wrap64 (x9_1 - x7_1))) = true := decide_eq_true c13
                    clear c13
                    have H' := Aside0.mk H
                    clear H
                    obtain ⟨Ao14, co14, eo14⟩ := Kd.R_slice HO_5.out
                    subst eo14
                    have p157 : 0 ≤ ((ji7) : Int) := of_decide_eq_true (by first | (with_reducible assumption) | assumption)
                    have q157 : (ji7) < (t153.length : Int) := of_decide_eq_true (by first | (with_reducible assumption) | assumption)
                    obtain ⟨ad157, e157, hx157_0⟩ := Kd.at_bool (Kd.R_reads' HO_5.out).2.2 (ji7) p157 q157
                    (try rw [← Nbq10.out] at hx157_0)
                    cases e157
                    replace p157 := eq_true p157
                    replace q157 := eq_true q157
                    go_wp2
                    go_roundg k1
                    case measure => have := HK1.out; omega
                    case rel => exact ⟨(x9_1), (wrap64 (x9_1 - x7_1)), (wrap64 (x9_1 + 1)), (by first | rfl | (simp; done) | (simp [*]; done)), (by first | rfl | (simp; done) | (simp [*]; done)), (by first | rfl | (simp; done) | (simp [*]; done)), H', ⟨by have := HK1.out; omega⟩, ⟨by (with_reducible repeat (first | apply Kd.R_alloc | apply Kd.R_drewN | apply Kd.R_drew)); exact HO_5.out⟩, ⟨by repeat (first | (with_reducible first | exact HB.out | apply below_alloc | apply pw_below_drewN | apply below_drew1) | exact HB.out)⟩⟩
                  · rw [if_neg c13] at H
                    have c13b0 : decide (x8_1 < (wrap64 (x9_1 - x7_1))) = false := decide_eq_false c13
                    clear c13
                    have H' := Aside0.mk H
                    clear H
                    obtain ⟨Ao15, co15, eo15⟩ := Kd.R_slice HO_5.out
                    subst eo15
                    have p157 : 0 ≤ ((ji7) : Int) := of_decide_eq_true (by first | (with_reducible assumption) | assumption)
                    have q157 : (ji7) < (t153.length : Int) := of_decide_eq_true (by first | (with_reducible assumption) | assumption)
                    obtain ⟨ad157, e157, hx157_0⟩ := Kd.at_bool (Kd.R_reads' HO_5.out).2.2 (ji7) p157 q157
                    (try rw [← Nbq10.out] at hx157_0)
                    cases e157
                    replace p157 := eq_true p157
                    replace q157 := eq_true q157
                    go_wp2
                    go_roundg k1
                    case measure => have := HK1.out; omega
                    case rel => exact ⟨(x9_1), (x8_1), (wrap64 (x9_1 + 1)), (by first | rfl | (simp; done) | (simp [*]; done)), (by first | rfl | (simp; done) | (simp [*]; done)), (by first | rfl | (simp; done) | (simp [*]; done)), H', ⟨by have := HK1.out; omega⟩, ⟨by (with_reducible repeat (first | apply Kd.R_alloc | apply Kd.R_drewN | apply Kd.R_drew)); exact HO_5.out⟩, ⟨by repeat (first | (with_reducible first | exact HB.out | apply below_alloc | apply pw_below_drewN | apply below_drew1) | exact HB.out)⟩⟩
                · rw [if_neg c12] at H
                  have c12b0 : decide (0 ≤ x7_1) = false := decide_eq_false c12
                  clear c12
                  have H' := Aside0.mk H
                  clear H
                  obtain ⟨Ao16, co16, eo16⟩ := Kd.R_slice HO_5.out
                  subst eo16
                  have p157 : 0 ≤ ((ji7) : Int) := of_decide_eq_true (by first | (with_reducible assumption) | assumption)
                  have q157 : (ji7) < (t153.length : Int) := of_decide_eq_true (by first | (with_reducible assumption) | assumption)
                  obtain ⟨ad157, e157, hx157_0⟩ := Kd.at_bool (Kd.R_reads' HO_5.out).2.2 (ji7) p157 q157
                  (try rw [← Nbq10.out] at hx157_0)
                  cases e157
                  replace p157 := eq_true p157
                  replace q157 := eq_true q157
                  go_wp2
                  go_roundg k1
                  case measure => have := HK1.out; omega
                  case rel => exact ⟨(x9_1), (x8_1), (wrap64 (x9_1 + 1)), (by first | rfl | (simp; done) | (simp [*]; done)), (by first | rfl | (simp; done) | (simp [*]; done)), (by first | rfl | (simp; done) | (simp [*]; done)), H', ⟨by have := HK1.out; omega⟩, ⟨by (with_reducible repeat (first | apply Kd.R_alloc | apply Kd.R_drewN | apply Kd.R_drew)); exact HO_5.out⟩, ⟨by repeat (first | (with_reducible first | exact HB.out | apply below_alloc | apply pw_below_drewN | apply below_drew1) | exact HB.out)⟩⟩
              · replace c11 := Bool.eq_false_iff.mpr c11
                subst c11
                have H1 : (parcloseref27_Gap.l0 k1 t153 x7_1 x8_1 (wrap64 (x9_1 + 1))) = some r := by rw [if_neg (show ¬ (false = true) by decide)] at H; exact H
                clear H
                have H := H1
                clear H1
                have H' := Aside0.mk H
                clear H
                obtain ⟨Ao17, co17, eo17⟩ := Kd.R_slice HO_5.out
                subst eo17
                have p157 : 0 ≤ ((ji7) : Int) := of_decide_eq_true (by first | (with_reducible assumption) | assumption)
                have q157 : (ji7) < (t153.length : Int) := of_decide_eq_true (by first | (with_reducible assumption) | assumption)
                obtain ⟨ad157, e157, hx157_0⟩ := Kd.at_bool (Kd.R_reads' HO_5.out).2.2 (ji7) p157 q157
                (try rw [← Nbq10.out] at hx157_0)
                cases e157
                replace p157 := eq_true p157
                replace q157 := eq_true q157
                go_wp2
                go_roundg k1
                case measure => have := HK1.out; omega
                case rel => exact ⟨(x7_1), (x8_1), (wrap64 (x9_1 + 1)), (by first | rfl | (simp; done) | (simp [*]; done)), (by first | rfl | (simp; done) | (simp [*]; done)), (by first | rfl | (simp; done) | (simp [*]; done)), H', ⟨by have := HK1.out; omega⟩, ⟨by (with_reducible repeat (first | apply Kd.R_alloc | apply Kd.R_drewN | apply Kd.R_drew)); exact HO_5.out⟩, ⟨by repeat (first | (with_reducible first | exact HB.out | apply below_alloc | apply pw_below_drewN | apply below_drew1) | exact HB.out)⟩⟩
            · rw [if_neg c9] at H
              exact absurd H (by simp)
          · rw [if_neg c8] at H
            exact absurd H (by simp)
      · rw [if_neg c5] at H
        have c5b0 : decide (x9_1 < (wrap64 (2 * (t153.length : Int)))) = false := decide_eq_false c5
        clear c5
        obtain rfl := Option.some.inj H
        obtain ⟨Ao18, co18, eo18⟩ := Kd.R_slice HO_5.out
        subst eo18
        go_wp2
        go_ret
        exact ⟨by first | rfl | (simp [errW_none, errW_some] <;> rfl) | (simp [*, errW_none, errW_some] <;> rfl), by repeat (first | (with_reducible first | exact HB.out | apply below_alloc | apply pw_below_drewN | apply below_drew1) | exact HB.out)⟩

end Go.Proofs.Ytjjljeepiehpaaa.PFairBounds
