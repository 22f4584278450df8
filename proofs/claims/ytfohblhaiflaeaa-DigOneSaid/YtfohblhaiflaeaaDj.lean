/- parcloselaw20.DigOne: it answers true. -/
import Derived.Test.YtfohblhaiflaeaaDh
import Derived.Test.YtfohblhaiflaeaaDi
import Derived.Deep.QuietTactic
import Derived.BigQuiet
namespace Go.Proofs.Ytfohblhaiflaeaa
open Go.RowKit

theorem add_bv (x y : BitVec 64) : IntKind.u64.wrap ((x.toNat : Int) + (y.toNat : Int)) = ((x + y).toNat : Int) := by
  have hx := x.isLt
  have hy := y.isLt
  rw [BitVec.toNat_add, IntKind.wrap_u64]
  omega

set_option maxRecDepth 100000 in
set_option maxHeartbeats 4000000 in
theorem digone_any (a : Option Addr) (l c : Nat) (bs : List UInt8) (w : World) (hI0 : Byt w.heap.size w (.slice a l c) bs) :
    Calls Try.prog 7 #[.slice a l c] w fun e w' => e = .returned (.bool true) ∧ Below w.heap.size w w' := by
  have hI := hI0.take 134
  obtain ⟨tb, htb⟩ : ∃ tb, tb = bs.take 134 := ⟨_, rfl⟩
  have hm : tb.length ≤ 134 := by rw [htb, List.length_take]; omega
  have hone := one_block tb hm
  have hbs := byteN_small tb hm
  have hsix := byteN_six tb hm
  have hstep := fun k hk => add_step (byteN tb) (byteN_lt tb) k hk
  obtain ⟨f, hf⟩ : ∃ f, f = byteN tb := ⟨_, rfl⟩
  rw [← hf] at hone hbs hsix hstep
  have hf256 : ∀ i, f i < 256 := by rw [hf]; exact byteN_lt tb
  rw [← htb] at hI
  have HONE := veil hone
  have HBS := veil hbs
  have HSIX := veil hsix
  have HSTEP := veil hstep
  have HF := veil hf256
  obtain rfl := hI0.len
  have hmi : (tb.length : Int) ≤ 134 := by omega
  have hor : (134 < bs.length ∧ tb.length = 134) ∨ (bs.length ≤ 134 ∧ tb.length = bs.length) := by rw [htb, List.length_take]; omega
  clear hone hbs hsix hstep hf256 hf htb hI0
  rcases hor with ⟨h134, hlen⟩ | ⟨h134, hlen⟩
  · have hcap : (134 : Int) ≤ (c : Int) := by
      obtain ⟨_, _, _, hc, _⟩ := hI.at (by omega)
      omega
    have h134i : (134 : Int) < (bs.length : Int) := by omega
    go_enter Try.func7, Try.ntmps7
    go_wp2_with (first
      | ((with_reducible refine bld23z (o := ⟨some 13, _, _, _, _, _⟩) ?_ ?_ ?_); rfl; rfl; simp only [Act.put, List.setIfInBounds_toArray, List.set_cons_zero, List.set_cons_succ])
      | ((with_reducible refine st25 (o := ⟨none, .store _ (.tmp 3) _, _, _, _, _⟩) ?_ (.tmp 3) (.tmp 13) ?_ w.heap.size ?_ (zeros 25) (zeros 25) (zeros_len 25) (zeros_len 25) ?_ ?_ ?_); rfl; rfl; rfl; rfl; exact heap_a1_0 _ _; simp only [Act.put]))
    rw [← hlen]
    clear hlen
    have hS0 : Blk ((w.alloc (.cells (vals (zeros 25)) 23)).setRow w.heap.size (vals (zeros 25))) w.heap.size 23 (vals (zeros 25)) := Blk.setRow_same (old := vals (zeros 25)) (heap_a1_0 _ _) _
    have hB0 : Below w.heap.size w ((w.alloc (.cells (vals (zeros 25)) 23)).setRow w.heap.size (vals (zeros 25))) := Below.setRow_ ((Below.refl _ _).alloc (Nat.le_refl _) _) (Nat.le_refl _) _
    go_loopw [4] (fun iv wr => ∃ k : Nat, k ≤ tb.length ∧ iv = .int .i64 k ∧ Blk wr w.heap.size 23 (vals (blkF (zeros 25) f k)) ∧ Below w.heap.size w wr) (fun iv _ => tb.length - (intOf iv).toNat)
    case atStart => exact ⟨0, Nat.zero_le _, rfl, hS0, hB0⟩
    case round =>
      obtain ⟨k, hk, rfl, hb, hB⟩ := hrel
      clear hS0 hB0
      by_cases hlt : k < tb.length
      · obtain ⟨B, off, rfl, hcp, hBw, hcs⟩ := hI.at (by omega)
        obtain ⟨X, hX⟩ : ∃ X, X = blkF (zeros 25) f k := ⟨_, rfl⟩
        have hXl : X.length = 25 := by rw [hX, blkF_len, zeros_len]
        rw [← hX] at hb
        have hci : wr.cell? ⟨B, off + k, none⟩ = some (B8 (tb.getD k 0)) := (hB.cell (p := ⟨B, off + k, none⟩) hBw).trans (hcs k hlt)
        obtain ⟨x, hx⟩ : ∃ x, x = tb.getD k 0 := ⟨_, rfl⟩
        rw [← hx] at hci
        have hfk : f k = x.toNat := by rw [HBS.out k hlt, hx]
        obtain ⟨d, hd⟩ : ∃ d, d = k / 8 := ⟨_, rfl⟩
        obtain ⟨e, he⟩ : ∃ e, e = k % 8 := ⟨_, rfl⟩
        have hd1 : (k : Int) / 8 = (d : Int) := by omega
        have he1 : (k : Int) % 8 = (e : Int) := by omega
        have hd25 : d < 25 := by omega
        have hd25i : (d : Int) < 25 := by omega
        have he8 : e < 8 := by omega
        have hxb := B8_bd x
        have hst := HSTEP.out k (by omega)
        rw [← hX, ← hd, ← he, hfk] at hst
        have hcd : wr.cell? ⟨w.heap.size, d, none⟩ = some (U (lane X d)) := by rw [hb.cell, vals_get _ _ (by omega)]
        have hup := up_num x.toNat e (by omega) he8
        obtain ⟨y, hy⟩ : ∃ y, y = up8 x.toNat e := ⟨_, rfl⟩
        rw [← hy] at hup hst
        have hadd := add_bv (lane X d) y
        have hfz := hb.frozen d
        have hwd : IntKind.i64.wrap (d : Int) = (d : Int) := wrap_in (by omega) (by omega)
        have hwk : IntKind.i64.wrap (k : Int) = (k : Int) := wrap_in (by omega) (by omega)
        have hwe : IntKind.i64.wrap (8 * (e : Int)) = 8 * (e : Int) := wrap_in (by omega) (by omega)
        have hkd : (k : Int).tdiv 8 = (d : Int) := by rw [Int.tdiv_eq_ediv_of_nonneg (by omega), hd1]
        have hke : (k : Int).tmod 8 = (e : Int) := by rw [Int.tmod_eq_emod_of_nonneg (by omega), he1]
        have hw1 := u64_nat x.toNat (by omega)
        have hw2 : IntKind.u64.wrap (8 * (e : Int)) = 8 * (e : Int) := by have := u64_nat (8 * e) (by omega); rwa [Int.natCast_mul] at this
        have hw3 : (8 * (e : Int)).toNat = 8 * e := by omega
        have hw4 : min (8 * e) 64 = 8 * e := by omega
        have hkl : decide ((k : Int) < (tb.length : Int)) = true := by simp; omega
        have hkl2 : (k : Int) < (tb.length : Int) := by omega
        have HST := veil hst
        have HX := veil hX
        have hadd2 : (((lane X d).toNat : Int) + (y.toNat : Int)) % 18446744073709551616 = ((lane X d + y).toNat : Int) := by rw [← IntKind.wrap_u64]; exact hadd
        have hset : Blk ((wr.setCell ⟨w.heap.size, d, none⟩ (U (lane X d + y))).drew) w.heap.size 23 (vals (blkF (zeros 25) f (k + 1))) := by
          rw [← HST.out, ← vals_set]
          exact hb.set_ d _
        have hB2 : Below w.heap.size w ((wr.setCell ⟨w.heap.size, d, none⟩ (U (lane X d + y))).drew) := (hB.setCell (p := ⟨w.heap.size, d, none⟩) (Nat.le_refl _) _).drew
        have HA := veil hadd2
        have HSET := veil hset
        have HB2 := veil hB2
        clear hst hX hx hd he hy hcs hfk hadd2 hadd hset hB2
        go_wp2_with fail
        refine wp_region_tail 16 (by kernel_rfl) (by kernel_rfl) ?_
        simp only [List.take_succ_cons, List.take_zero, List.drop_succ_cons, List.drop_zero]
        repeat (apply st_val; rfl; (go_simp; exact rfl); simp only [Act.put, List.setIfInBounds_toArray, List.set_cons_zero, List.set_cons_succ])
        (try rw [HA.out])
        refine wpStill_nil ?_
        go_wp2_with fail
        go_roundw
        case rel => exact ⟨k + 1, by omega, by go_num, HSET.out, HB2.out⟩
        case measure => simp [intOf]; omega
      · have hkn : k = tb.length := by omega
        obtain ⟨n, hn⟩ : ∃ n, n = tb.length := ⟨_, rfl⟩
        rw [← hn] at hkn
        subst hkn
        rw [← hn] at hm hmi hI hlt hk ⊢
        have hone := HONE.out
        have hst := HSTEP.out k (by omega)
        have hsix := HSIX.out
        rw [← hn] at hone hsix
        rw [hsix] at hst
        obtain ⟨X, hX⟩ : ∃ X, X = blkF (zeros 25) f k := ⟨_, rfl⟩
        have hXl : X.length = 25 := by rw [hX, blkF_len, zeros_len]
        rw [← hX] at hb hst
        obtain ⟨d, hd⟩ : ∃ d, d = k / 8 := ⟨_, rfl⟩
        obtain ⟨e, he⟩ : ∃ e, e = k % 8 := ⟨_, rfl⟩
        rw [← hd, ← he] at hst
        have hd1 : (k : Int) / 8 = (d : Int) := by omega
        have he1 : (k : Int) % 8 = (e : Int) := by omega
        have hd25 : d < 25 := by omega
        have hd25i : (d : Int) < 25 := by omega
        have he8 : e < 8 := by omega
        have hcd : wr.cell? ⟨w.heap.size, d, none⟩ = some (U (lane X d)) := by rw [hb.cell, vals_get _ _ (by omega)]
        have hup := up_num 6 e (by omega) he8
        obtain ⟨y, hy⟩ : ∃ y, y = up8 6 e := ⟨_, rfl⟩
        rw [← hy] at hup hst
        have hadd := add_bv (lane X d) y
        have hadd2 : (((lane X d).toNat : Int) + (y.toNat : Int)) % 18446744073709551616 = ((lane X d + y).toNat : Int) := by rw [← IntKind.wrap_u64]; exact hadd
        have hfz := hb.frozen d
        obtain ⟨Y, hY⟩ : ∃ Y, Y = blkF (zeros 25) f (k + 1) := ⟨_, rfl⟩
        rw [← hY] at hst hone
        have hYl : Y.length = 25 := by rw [hY, blkF_len, zeros_len]
        have hset : Blk (wr.setCell ⟨w.heap.size, d, none⟩ (U (lane X d + y))) w.heap.size 23 (vals Y) := by
          rw [← hst, ← vals_set]
          exact hb.set_ d _
        have hB2 := hB.setCell (p := ⟨w.heap.size, d, none⟩) (Nat.le_refl _) (U (lane X d + y))
        have hkl : decide ((k : Int) < (k : Int)) = false := by simp
        have hup6 : IntKind.u64.wrap (6 * 2 ^ (8 * e)) = (y.toNat : Int) := hup
        have hkl : decide ((k : Int) < (k : Int)) = false := by simp
        have HONE2 := veil hone
        have HYL := veil hYl
        have HA := veil hadd
        have HUP := veil hup6
        have HN := veil hn
        have hx16 := xor_bv (lane Y 16) 9223372036854775808#64
        have h16 : ((9223372036854775808#64 : BitVec 64).toNat : Int) = 9223372036854775808 := by decide
        rw [h16] at hx16
        have HX16 := veil hx16
        clear hst hX hd he hy hadd hadd2 hup hup6 hY hYl hone hsix hlt hk hn hXl hx16 h16 hB hb
        go_upto_region 9 with fail
        simp only [HUP.out, HA.out]
        obtain ⟨W1, hW1⟩ : ∃ W1, W1 = wr.setCell ⟨w.heap.size, d, none⟩ (U (lane X d + y)) := ⟨_, rfl⟩
        rw [← hW1] at hset hB2 ⊢
        have hc16 : W1.cell? ⟨w.heap.size, 16, none⟩ = some (U (lane Y 16)) := by rw [hset.cell, vals_get _ _ (by rw [HYL.out]; omega)]
        have hf16 := hset.frozen 16
        clear hW1 hcd hfz
        go_upto_region 10 with fail
        rw [HX16.out]
        obtain ⟨Z, hZ⟩ : ∃ Z, Z = Y.set 16 (lane Y 16 ^^^ 9223372036854775808#64) := ⟨_, rfl⟩
        have hZl : Z.length = 25 := by rw [hZ, List.length_set]; exact HYL.out
        have hone := HONE2.out
        rw [← hZ] at hone
        have hsetZ : Blk (W1.setCell ⟨w.heap.size, 16, none⟩ (U (lane Y 16 ^^^ 9223372036854775808#64))) w.heap.size 23 (vals Z) := by
          rw [hZ, ← vals_set]
          exact hset.set_ 16 _
        have hB3 := hB2.setCell (p := ⟨w.heap.size, 16, none⟩) (Nat.le_refl _) (U (lane Y 16 ^^^ 9223372036854775808#64))
        obtain ⟨W2, hW2⟩ : ∃ W2, W2 = W1.setCell ⟨w.heap.size, 16, none⟩ (U (lane Y 16 ^^^ 9223372036854775808#64)) := ⟨_, rfl⟩
        rw [← hW2] at hsetZ hB3 ⊢
        have HZL := veil hZl
        have HONE3 := veil hone
        clear hZ hZl hone hW2 hset hB2 hc16 hf16 HONE2 HX16
        go_wp2_with ((with_reducible refine ld25 (o := ⟨some 53, _, _, _, _, _⟩) ?_ (.tmp 3) ?_ w.heap.size ?_ Z HZL.out hsetZ ?_); rfl; rfl; rfl; simp only [Act.put, List.setIfInBounds_toArray, List.set_cons_zero, List.set_cons_succ])
        with_reducible refine (permute_any Z HZL.out _).mono ?_
        rintro e3 w3 ⟨rfl, hb3⟩
        have hB4 := hB3.trans (hb3.mono hB3.size)
        have HPL := veil (permF_len Z)
        clear hb3 hB3 hsetZ
        obtain ⟨M, hM⟩ : ∃ M, M = w3.heap.size := ⟨_, rfl⟩
        have hMN : w.heap.size ≤ M := by rw [hM]; exact hB4.size
        go_upto_region 11 with ((with_reducible refine st25 (o := ⟨none, .store _ (.tmp 5) _, _, _, _, _⟩) ?_ (.tmp 5) (.tmp 54) ?_ w3.heap.size ?_ (permF Z) (zeros 25) HPL.out (zeros_len 25) ?_ ?_ ?_); rfl; rfl; rfl; rfl; exact heap_a1_0 _ _; simp only [Act.put])
        have hp4 : Blk ((w3.alloc (.cells (vals (zeros 25)) 23)).setRow w3.heap.size (vals (permF Z))) w3.heap.size 23 (vals (permF Z)) := Blk.setRow_same (old := vals (zeros 25)) (heap_a1_0 _ _) _
        have hB5 : Below w.heap.size w ((w3.alloc (.cells (vals (zeros 25)) 23)).setRow w3.heap.size (vals (permF Z))) := Below.setRow_ (hB4.alloc hB4.size _) (by omega) _
        change Code.wp _ _ _ _ ((w3.alloc (.cells (vals (zeros 25)) 23)).setRow w3.heap.size (vals (permF Z)))
        obtain ⟨w4, hw4⟩ : ∃ w4, w4 = (w3.alloc (.cells (vals (zeros 25)) 23)).setRow w3.heap.size (vals (permF Z)) := ⟨_, rfl⟩
        rw [← hw4, ← hM] at hp4
        rw [← hw4] at hB5 ⊢
        rw [← hM]
        have hof := of_any a k c tb w4 ((hI.below hB5).mono hB5.size) (by have := HN.out; omega)
        have HOF := veil hof
        clear hw4 hM hof hB4
        go_wp2_with fail
        with_reducible refine HOF.out.mono ?_
        rintro e5 w5 ⟨rfl, hb5⟩
        have hp5 : Blk w5 M 23 (vals (permF Z)) := hp4.below hb5 hp4.lt
        have hB6 := hB5.trans (hb5.mono hB5.size)
        clear hb5 hp4 hB5 HOF
        obtain ⟨D, hD⟩ : ∃ D : ByteArray, D = ⟨(digF tb).toArray⟩ := ⟨_, rfl⟩
        have hDs : D.size = 32 := by rw [hD]; exact digF_len tb
        have hDg : ∀ j (h : j < D.size), ((D[j]'h).toNat : Int) = ((outB (permF Z) j).toNat : Int) := by
          intro j h
          have hj : j < 32 := by omega
          have e1 : (digF tb)[j]? = some (outB (permF Z) j) := by rw [HONE3.out]; unfold outTo; rw [List.getElem?_map, List.getElem?_range hj]; rfl
          subst hD
          have h2 : j < (digF tb).length := by rw [digF_len]; exact hj
          have e2 : (digF tb)[j] = outB (permF Z) j := by rw [List.getElem?_eq_getElem h2] at e1; exact Option.some.inj e1
          rw [← e2]
          rfl
        rw [← hD]
        have HDG := veil hDg
        clear hD hDg HONE3 HONE HBS HSIX HSTEP HF
        go_wp2_with fail
        go_loopw [7] (fun iv wr => ∃ j : Nat, j ≤ 32 ∧ iv = .int .i64 j ∧ Blk wr M 23 (vals (permF Z)) ∧ Below w.heap.size w wr) (fun iv _ => 32 - (intOf iv).toNat)
        case atStart => exact ⟨0, by omega, rfl, hp5, hB6⟩
        case round =>
          obtain ⟨j, hj, rfl, hb, hB⟩ := hrel
          by_cases hlt : j < 32
          · have hdg := HDG.out j (by omega)
            obtain ⟨dd, hdd⟩ : ∃ dd, dd = j / 8 := ⟨_, rfl⟩
            obtain ⟨ee, hee⟩ : ∃ ee, ee = j % 8 := ⟨_, rfl⟩
            have hval := outB_num (permF Z) dd ee (by omega)
            rw [show 8 * dd + ee = j by omega, ← hdg] at hval
            have hd1 : (j : Int) / 8 = (dd : Int) := by omega
            have he1 : (j : Int) % 8 = (ee : Int) := by omega
            have hd25i : (dd : Int) < 25 := by omega
            have he8i : (ee : Int) < 8 := by omega
            have hcd : wr.cell? ⟨M, dd, none⟩ = some (U (lane (permF Z) dd)) := by rw [hb.cell, vals_get _ _ (by rw [HPL.out]; omega)]
            have hjl : decide ((j : Int) < 32) = true := by simp; omega
            have hj32 : (j : Int) < 32 := by omega
            have hjD : (j : Int) < (D.size : Int) := by omega
            have hjd : (j : Int).tdiv 8 = (dd : Int) := by rw [Int.tdiv_eq_ediv_of_nonneg (by omega), hd1]
            have hje : (j : Int).tmod 8 = (ee : Int) := by rw [Int.tmod_eq_emod_of_nonneg (by omega), he1]
            have hwd : IntKind.i64.wrap (dd : Int) = (dd : Int) := wrap_in (by omega) (by omega)
            have hwj : IntKind.i64.wrap (j : Int) = (j : Int) := wrap_in (by omega) (by omega)
            have hwe : IntKind.i64.wrap (8 * (ee : Int)) = 8 * (ee : Int) := wrap_in (by omega) (by omega)
            have hw2 : IntKind.u64.wrap (8 * (ee : Int)) = 8 * (ee : Int) := by have := u64_nat (8 * ee) (by omega); rwa [Int.natCast_mul] at this
            clear hdd hee hdg
            go_wp2_with fail
            go_quiet (fail)
            have hB2 : Below w.heap.size w (wr.drewN nq) := hB.trans ⟨rfl, rfl, rfl, Nat.le_refl _, fun _ _ => rfl⟩
            have hb2 := hb.drewN nq
            go_wp2_with fail
            go_roundw
            case rel => exact ⟨j + 1, by omega, by go_num, hb2, hB2⟩
            case measure => simp [intOf]; omega
          · have hj32 : j = 32 := by omega
            subst hj32
            go_wp2_with fail
            with_reducible refine (awake20 wr).mono ?_
            rintro e6 w6 ⟨rfl, hb6⟩
            have hB7 := hB.trans (hb6.mono hB.size)
            clear hb6
            go_wp2
            go_ret
            exact ⟨rfl, hB7⟩
  · have h134i : (bs.length : Int) ≤ 134 := by omega
    rw [← hlen]
    rw [← hlen] at h134 h134i
    clear hlen
    go_enter Try.func7, Try.ntmps7
    go_wp2_with (first
      | ((with_reducible refine bld23z (o := ⟨some 13, _, _, _, _, _⟩) ?_ ?_ ?_); rfl; rfl; simp only [Act.put, List.setIfInBounds_toArray, List.set_cons_zero, List.set_cons_succ])
      | ((with_reducible refine st25 (o := ⟨none, .store _ (.tmp 3) _, _, _, _, _⟩) ?_ (.tmp 3) (.tmp 13) ?_ w.heap.size ?_ (zeros 25) (zeros 25) (zeros_len 25) (zeros_len 25) ?_ ?_ ?_); rfl; rfl; rfl; rfl; exact heap_a1_0 _ _; simp only [Act.put]))
    have hS0 : Blk ((w.alloc (.cells (vals (zeros 25)) 23)).setRow w.heap.size (vals (zeros 25))) w.heap.size 23 (vals (zeros 25)) := Blk.setRow_same (old := vals (zeros 25)) (heap_a1_0 _ _) _
    have hB0 : Below w.heap.size w ((w.alloc (.cells (vals (zeros 25)) 23)).setRow w.heap.size (vals (zeros 25))) := Below.setRow_ ((Below.refl _ _).alloc (Nat.le_refl _) _) (Nat.le_refl _) _
    go_loopw [4] (fun iv wr => ∃ k : Nat, k ≤ tb.length ∧ iv = .int .i64 k ∧ Blk wr w.heap.size 23 (vals (blkF (zeros 25) f k)) ∧ Below w.heap.size w wr) (fun iv _ => tb.length - (intOf iv).toNat)
    case atStart => exact ⟨0, Nat.zero_le _, rfl, hS0, hB0⟩
    case round =>
      obtain ⟨k, hk, rfl, hb, hB⟩ := hrel
      clear hS0 hB0
      by_cases hlt : k < tb.length
      · obtain ⟨B, off, rfl, hcp, hBw, hcs⟩ := hI.at (by omega)
        obtain ⟨X, hX⟩ : ∃ X, X = blkF (zeros 25) f k := ⟨_, rfl⟩
        have hXl : X.length = 25 := by rw [hX, blkF_len, zeros_len]
        rw [← hX] at hb
        have hci : wr.cell? ⟨B, off + k, none⟩ = some (B8 (tb.getD k 0)) := (hB.cell (p := ⟨B, off + k, none⟩) hBw).trans (hcs k hlt)
        obtain ⟨x, hx⟩ : ∃ x, x = tb.getD k 0 := ⟨_, rfl⟩
        rw [← hx] at hci
        have hfk : f k = x.toNat := by rw [HBS.out k hlt, hx]
        obtain ⟨d, hd⟩ : ∃ d, d = k / 8 := ⟨_, rfl⟩
        obtain ⟨e, he⟩ : ∃ e, e = k % 8 := ⟨_, rfl⟩
        have hd1 : (k : Int) / 8 = (d : Int) := by omega
        have he1 : (k : Int) % 8 = (e : Int) := by omega
        have hd25 : d < 25 := by omega
        have hd25i : (d : Int) < 25 := by omega
        have he8 : e < 8 := by omega
        have hxb := B8_bd x
        have hst := HSTEP.out k (by omega)
        rw [← hX, ← hd, ← he, hfk] at hst
        have hcd : wr.cell? ⟨w.heap.size, d, none⟩ = some (U (lane X d)) := by rw [hb.cell, vals_get _ _ (by omega)]
        have hup := up_num x.toNat e (by omega) he8
        obtain ⟨y, hy⟩ : ∃ y, y = up8 x.toNat e := ⟨_, rfl⟩
        rw [← hy] at hup hst
        have hadd := add_bv (lane X d) y
        have hfz := hb.frozen d
        have hwd : IntKind.i64.wrap (d : Int) = (d : Int) := wrap_in (by omega) (by omega)
        have hwk : IntKind.i64.wrap (k : Int) = (k : Int) := wrap_in (by omega) (by omega)
        have hwe : IntKind.i64.wrap (8 * (e : Int)) = 8 * (e : Int) := wrap_in (by omega) (by omega)
        have hkd : (k : Int).tdiv 8 = (d : Int) := by rw [Int.tdiv_eq_ediv_of_nonneg (by omega), hd1]
        have hke : (k : Int).tmod 8 = (e : Int) := by rw [Int.tmod_eq_emod_of_nonneg (by omega), he1]
        have hw1 := u64_nat x.toNat (by omega)
        have hw2 : IntKind.u64.wrap (8 * (e : Int)) = 8 * (e : Int) := by have := u64_nat (8 * e) (by omega); rwa [Int.natCast_mul] at this
        have hw3 : (8 * (e : Int)).toNat = 8 * e := by omega
        have hw4 : min (8 * e) 64 = 8 * e := by omega
        have hkl : decide ((k : Int) < (tb.length : Int)) = true := by simp; omega
        have hkl2 : (k : Int) < (tb.length : Int) := by omega
        have HST := veil hst
        have HX := veil hX
        have hadd2 : (((lane X d).toNat : Int) + (y.toNat : Int)) % 18446744073709551616 = ((lane X d + y).toNat : Int) := by rw [← IntKind.wrap_u64]; exact hadd
        have hset : Blk ((wr.setCell ⟨w.heap.size, d, none⟩ (U (lane X d + y))).drew) w.heap.size 23 (vals (blkF (zeros 25) f (k + 1))) := by
          rw [← HST.out, ← vals_set]
          exact hb.set_ d _
        have hB2 : Below w.heap.size w ((wr.setCell ⟨w.heap.size, d, none⟩ (U (lane X d + y))).drew) := (hB.setCell (p := ⟨w.heap.size, d, none⟩) (Nat.le_refl _) _).drew
        have HA := veil hadd2
        have HSET := veil hset
        have HB2 := veil hB2
        clear hst hX hx hd he hy hcs hfk hadd2 hadd hset hB2
        go_wp2_with fail
        refine wp_region_tail 16 (by kernel_rfl) (by kernel_rfl) ?_
        simp only [List.take_succ_cons, List.take_zero, List.drop_succ_cons, List.drop_zero]
        repeat (apply st_val; rfl; (go_simp; exact rfl); simp only [Act.put, List.setIfInBounds_toArray, List.set_cons_zero, List.set_cons_succ])
        (try rw [HA.out])
        refine wpStill_nil ?_
        go_wp2_with fail
        go_roundw
        case rel => exact ⟨k + 1, by omega, by go_num, HSET.out, HB2.out⟩
        case measure => simp [intOf]; omega
      · have hkn : k = tb.length := by omega
        obtain ⟨n, hn⟩ : ∃ n, n = tb.length := ⟨_, rfl⟩
        rw [← hn] at hkn
        subst hkn
        rw [← hn] at hm hmi hI hlt hk ⊢
        have hone := HONE.out
        have hst := HSTEP.out k (by omega)
        have hsix := HSIX.out
        rw [← hn] at hone hsix
        rw [hsix] at hst
        obtain ⟨X, hX⟩ : ∃ X, X = blkF (zeros 25) f k := ⟨_, rfl⟩
        have hXl : X.length = 25 := by rw [hX, blkF_len, zeros_len]
        rw [← hX] at hb hst
        obtain ⟨d, hd⟩ : ∃ d, d = k / 8 := ⟨_, rfl⟩
        obtain ⟨e, he⟩ : ∃ e, e = k % 8 := ⟨_, rfl⟩
        rw [← hd, ← he] at hst
        have hd1 : (k : Int) / 8 = (d : Int) := by omega
        have he1 : (k : Int) % 8 = (e : Int) := by omega
        have hd25 : d < 25 := by omega
        have hd25i : (d : Int) < 25 := by omega
        have he8 : e < 8 := by omega
        have hcd : wr.cell? ⟨w.heap.size, d, none⟩ = some (U (lane X d)) := by rw [hb.cell, vals_get _ _ (by omega)]
        have hup := up_num 6 e (by omega) he8
        obtain ⟨y, hy⟩ : ∃ y, y = up8 6 e := ⟨_, rfl⟩
        rw [← hy] at hup hst
        have hadd := add_bv (lane X d) y
        have hadd2 : (((lane X d).toNat : Int) + (y.toNat : Int)) % 18446744073709551616 = ((lane X d + y).toNat : Int) := by rw [← IntKind.wrap_u64]; exact hadd
        have hfz := hb.frozen d
        obtain ⟨Y, hY⟩ : ∃ Y, Y = blkF (zeros 25) f (k + 1) := ⟨_, rfl⟩
        rw [← hY] at hst hone
        have hYl : Y.length = 25 := by rw [hY, blkF_len, zeros_len]
        have hset : Blk (wr.setCell ⟨w.heap.size, d, none⟩ (U (lane X d + y))) w.heap.size 23 (vals Y) := by
          rw [← hst, ← vals_set]
          exact hb.set_ d _
        have hB2 := hB.setCell (p := ⟨w.heap.size, d, none⟩) (Nat.le_refl _) (U (lane X d + y))
        have hkl : decide ((k : Int) < (k : Int)) = false := by simp
        have hup6 : IntKind.u64.wrap (6 * 2 ^ (8 * e)) = (y.toNat : Int) := hup
        have hkl : decide ((k : Int) < (k : Int)) = false := by simp
        have HONE2 := veil hone
        have HYL := veil hYl
        have HA := veil hadd
        have HUP := veil hup6
        have HN := veil hn
        have hx16 := xor_bv (lane Y 16) 9223372036854775808#64
        have h16 : ((9223372036854775808#64 : BitVec 64).toNat : Int) = 9223372036854775808 := by decide
        rw [h16] at hx16
        have HX16 := veil hx16
        clear hst hX hd he hy hadd hadd2 hup hup6 hY hYl hone hsix hlt hk hn hXl hx16 h16 hB hb
        go_upto_region 9 with fail
        simp only [HUP.out, HA.out]
        obtain ⟨W1, hW1⟩ : ∃ W1, W1 = wr.setCell ⟨w.heap.size, d, none⟩ (U (lane X d + y)) := ⟨_, rfl⟩
        rw [← hW1] at hset hB2 ⊢
        have hc16 : W1.cell? ⟨w.heap.size, 16, none⟩ = some (U (lane Y 16)) := by rw [hset.cell, vals_get _ _ (by rw [HYL.out]; omega)]
        have hf16 := hset.frozen 16
        clear hW1 hcd hfz
        go_upto_region 10 with fail
        rw [HX16.out]
        obtain ⟨Z, hZ⟩ : ∃ Z, Z = Y.set 16 (lane Y 16 ^^^ 9223372036854775808#64) := ⟨_, rfl⟩
        have hZl : Z.length = 25 := by rw [hZ, List.length_set]; exact HYL.out
        have hone := HONE2.out
        rw [← hZ] at hone
        have hsetZ : Blk (W1.setCell ⟨w.heap.size, 16, none⟩ (U (lane Y 16 ^^^ 9223372036854775808#64))) w.heap.size 23 (vals Z) := by
          rw [hZ, ← vals_set]
          exact hset.set_ 16 _
        have hB3 := hB2.setCell (p := ⟨w.heap.size, 16, none⟩) (Nat.le_refl _) (U (lane Y 16 ^^^ 9223372036854775808#64))
        obtain ⟨W2, hW2⟩ : ∃ W2, W2 = W1.setCell ⟨w.heap.size, 16, none⟩ (U (lane Y 16 ^^^ 9223372036854775808#64)) := ⟨_, rfl⟩
        rw [← hW2] at hsetZ hB3 ⊢
        have HZL := veil hZl
        have HONE3 := veil hone
        clear hZ hZl hone hW2 hset hB2 hc16 hf16 HONE2 HX16
        go_wp2_with ((with_reducible refine ld25 (o := ⟨some 53, _, _, _, _, _⟩) ?_ (.tmp 3) ?_ w.heap.size ?_ Z HZL.out hsetZ ?_); rfl; rfl; rfl; simp only [Act.put, List.setIfInBounds_toArray, List.set_cons_zero, List.set_cons_succ])
        with_reducible refine (permute_any Z HZL.out _).mono ?_
        rintro e3 w3 ⟨rfl, hb3⟩
        have hB4 := hB3.trans (hb3.mono hB3.size)
        have HPL := veil (permF_len Z)
        clear hb3 hB3 hsetZ
        obtain ⟨M, hM⟩ : ∃ M, M = w3.heap.size := ⟨_, rfl⟩
        have hMN : w.heap.size ≤ M := by rw [hM]; exact hB4.size
        go_upto_region 11 with ((with_reducible refine st25 (o := ⟨none, .store _ (.tmp 5) _, _, _, _, _⟩) ?_ (.tmp 5) (.tmp 54) ?_ w3.heap.size ?_ (permF Z) (zeros 25) HPL.out (zeros_len 25) ?_ ?_ ?_); rfl; rfl; rfl; rfl; exact heap_a1_0 _ _; simp only [Act.put])
        have hp4 : Blk ((w3.alloc (.cells (vals (zeros 25)) 23)).setRow w3.heap.size (vals (permF Z))) w3.heap.size 23 (vals (permF Z)) := Blk.setRow_same (old := vals (zeros 25)) (heap_a1_0 _ _) _
        have hB5 : Below w.heap.size w ((w3.alloc (.cells (vals (zeros 25)) 23)).setRow w3.heap.size (vals (permF Z))) := Below.setRow_ (hB4.alloc hB4.size _) (by omega) _
        change Code.wp _ _ _ _ ((w3.alloc (.cells (vals (zeros 25)) 23)).setRow w3.heap.size (vals (permF Z)))
        obtain ⟨w4, hw4⟩ : ∃ w4, w4 = (w3.alloc (.cells (vals (zeros 25)) 23)).setRow w3.heap.size (vals (permF Z)) := ⟨_, rfl⟩
        rw [← hw4, ← hM] at hp4
        rw [← hw4] at hB5 ⊢
        rw [← hM]
        have hof := of_any a k c tb w4 ((hI.below hB5).mono hB5.size) (by have := HN.out; omega)
        have HOF := veil hof
        clear hw4 hM hof hB4
        go_wp2_with fail
        with_reducible refine HOF.out.mono ?_
        rintro e5 w5 ⟨rfl, hb5⟩
        have hp5 : Blk w5 M 23 (vals (permF Z)) := hp4.below hb5 hp4.lt
        have hB6 := hB5.trans (hb5.mono hB5.size)
        clear hb5 hp4 hB5 HOF
        obtain ⟨D, hD⟩ : ∃ D : ByteArray, D = ⟨(digF tb).toArray⟩ := ⟨_, rfl⟩
        have hDs : D.size = 32 := by rw [hD]; exact digF_len tb
        have hDg : ∀ j (h : j < D.size), ((D[j]'h).toNat : Int) = ((outB (permF Z) j).toNat : Int) := by
          intro j h
          have hj : j < 32 := by omega
          have e1 : (digF tb)[j]? = some (outB (permF Z) j) := by rw [HONE3.out]; unfold outTo; rw [List.getElem?_map, List.getElem?_range hj]; rfl
          subst hD
          have h2 : j < (digF tb).length := by rw [digF_len]; exact hj
          have e2 : (digF tb)[j] = outB (permF Z) j := by rw [List.getElem?_eq_getElem h2] at e1; exact Option.some.inj e1
          rw [← e2]
          rfl
        rw [← hD]
        have HDG := veil hDg
        clear hD hDg HONE3 HONE HBS HSIX HSTEP HF
        go_wp2_with fail
        go_loopw [7] (fun iv wr => ∃ j : Nat, j ≤ 32 ∧ iv = .int .i64 j ∧ Blk wr M 23 (vals (permF Z)) ∧ Below w.heap.size w wr) (fun iv _ => 32 - (intOf iv).toNat)
        case atStart => exact ⟨0, by omega, rfl, hp5, hB6⟩
        case round =>
          obtain ⟨j, hj, rfl, hb, hB⟩ := hrel
          by_cases hlt : j < 32
          · have hdg := HDG.out j (by omega)
            obtain ⟨dd, hdd⟩ : ∃ dd, dd = j / 8 := ⟨_, rfl⟩
            obtain ⟨ee, hee⟩ : ∃ ee, ee = j % 8 := ⟨_, rfl⟩
            have hval := outB_num (permF Z) dd ee (by omega)
            rw [show 8 * dd + ee = j by omega, ← hdg] at hval
            have hd1 : (j : Int) / 8 = (dd : Int) := by omega
            have he1 : (j : Int) % 8 = (ee : Int) := by omega
            have hd25i : (dd : Int) < 25 := by omega
            have he8i : (ee : Int) < 8 := by omega
            have hcd : wr.cell? ⟨M, dd, none⟩ = some (U (lane (permF Z) dd)) := by rw [hb.cell, vals_get _ _ (by rw [HPL.out]; omega)]
            have hjl : decide ((j : Int) < 32) = true := by simp; omega
            have hj32 : (j : Int) < 32 := by omega
            have hjD : (j : Int) < (D.size : Int) := by omega
            have hjd : (j : Int).tdiv 8 = (dd : Int) := by rw [Int.tdiv_eq_ediv_of_nonneg (by omega), hd1]
            have hje : (j : Int).tmod 8 = (ee : Int) := by rw [Int.tmod_eq_emod_of_nonneg (by omega), he1]
            have hwd : IntKind.i64.wrap (dd : Int) = (dd : Int) := wrap_in (by omega) (by omega)
            have hwj : IntKind.i64.wrap (j : Int) = (j : Int) := wrap_in (by omega) (by omega)
            have hwe : IntKind.i64.wrap (8 * (ee : Int)) = 8 * (ee : Int) := wrap_in (by omega) (by omega)
            have hw2 : IntKind.u64.wrap (8 * (ee : Int)) = 8 * (ee : Int) := by have := u64_nat (8 * ee) (by omega); rwa [Int.natCast_mul] at this
            clear hdd hee hdg
            go_wp2_with fail
            go_quiet (fail)
            have hB2 : Below w.heap.size w (wr.drewN nq) := hB.trans ⟨rfl, rfl, rfl, Nat.le_refl _, fun _ _ => rfl⟩
            have hb2 := hb.drewN nq
            go_wp2_with fail
            go_roundw
            case rel => exact ⟨j + 1, by omega, by go_num, hb2, hB2⟩
            case measure => simp [intOf]; omega
          · have hj32 : j = 32 := by omega
            subst hj32
            go_wp2_with fail
            with_reducible refine (awake20 wr).mono ?_
            rintro e6 w6 ⟨rfl, hb6⟩
            have hB7 := hB.trans (hb6.mono hB.size)
            clear hb6
            go_wp2
            go_ret
            exact ⟨rfl, hB7⟩

end Go.Proofs.Ytfohblhaiflaeaa
