/- parcloseref20.Of: what it comes to: the same digest. -/
import Derived.Test.YtfohblhaiflaeaaDe
import Derived.Test.YtfohblhaiflaeaaKm
import Derived.StillTailTactics
namespace Go.Proofs.Ytfohblhaiflaeaa
open Go.RowKit

theorem u64_nat (n : Nat) (h : n < 18446744073709551616) : IntKind.u64.wrap (n : Int) = (n : Int) := by
  have h2 := wrap_bv (BitVec.ofNat 64 n)
  rwa [BitVec.toNat_ofNat, Nat.mod_eq_of_lt (by simpa using h)] at h2
theorem up_num (b m : Nat) (hb : b < 256) (hm : m < 8) : IntKind.u64.wrap ((b : Int) * 2 ^ (8 * m)) = ((up8 b m).toNat : Int) := by
  have h := shl_num' (BitVec.ofNat 64 b) (8 * m) (by omega)
  rw [BitVec.toNat_ofNat, Nat.mod_eq_of_lt (by omega)] at h
  exact h
theorem blk_step (s : List (BitVec 64)) (f : Nat → Nat) (k : Nat) : blkF s f (k + 1) = (blkF s f k).set (k / 8) (lane (blkF s f k) (k / 8) ^^^ up8 (f k) (k % 8)) := rfl

def outZ (S : List (BitVec 64)) (i : Nat) : List UInt8 := outTo S i ++ List.replicate (32 - i) 0
theorem outZ_len (S : List (BitVec 64)) (i : Nat) (h : i ≤ 32) : (outZ S i).length = 32 := by unfold outZ; rw [List.length_append, outTo_len, List.length_replicate]; omega
theorem outZ_set (S : List (BitVec 64)) (i : Nat) (h : i < 32) : (outZ S i).set i (outB S i) = outZ S (i + 1) := by
  unfold outZ
  rw [outTo_succ, List.set_append_right _ _ (by rw [outTo_len]; exact Nat.le_refl _), outTo_len, Nat.sub_self]
  rw [show 32 - i = (32 - (i + 1)) + 1 from by omega, List.replicate_succ, List.set_cons_zero]
  simp

set_option maxRecDepth 100000 in
set_option maxHeartbeats 2000000 in
theorem refof_any (a : Option Addr) (l c : Nat) (bs : List UInt8) (n₀ : Nat) (w : World) (hI : Byt n₀ w (.slice a l c) bs) (hn₀ : n₀ ≤ w.heap.size) (hm : bs.length ≤ 1000) :
    Calls Try.prog 21 #[.slice a l c] w fun e W' => e = .returned (.string ⟨(digF bs).toArray⟩) ∧ Below w.heap.size w W' := by
  obtain rfl := hI.len
  have hq : allOf bs.length = 136 * (bs.length / 136 + 1) := by unfold allOf; omega
  obtain ⟨q, hqq⟩ : ∃ q, q = bs.length / 136 + 1 := ⟨_, rfl⟩
  rw [← hqq] at hq
  have hall : ((bs.length : Int) / 136 + 1) * 136 = ((136 * q : Nat) : Int) := by omega
  have hq40 : q ≤ 40 := by omega
  have HQ := veil hqq
  have HALL := veil hq
  have hl1 : (bs.length : Int) ≤ 1000 := by omega
  have hat := fun w' (hI' : Byt n₀ w' (.slice a bs.length c) bs) n hn => refat_any a bs.length c bs n₀ w' hI' n hn hm
  rw [hq] at hat
  have HAT := veil hat
  clear hat hq hqq
  obtain ⟨L, hL⟩ : ∃ L, L = 136 * q := ⟨_, rfl⟩
  rw [← hL] at hall HAT
  have HL := veil hL
  have hL6 : L ≤ 6000 := by omega
  clear hL
  go_enter Try.func21, Try.ntmps21
  go_wp2_with (first
    | ((with_reducible refine bld23z (o := ⟨some 14, _, _, _, _, _⟩) ?_ ?_ ?_); rfl; rfl; simp only [Act.put, List.setIfInBounds_toArray, List.set_cons_zero, List.set_cons_succ])
    | ((with_reducible refine st25 (o := ⟨none, .store _ (.tmp 4) _, _, _, _, _⟩) ?_ (.tmp 4) (.tmp 14) ?_ w.heap.size ?_ (zeros 25) (zeros 25) (zeros_len 25) (zeros_len 25) ?_ ?_ ?_); rfl; rfl; rfl; rfl; exact heap_a1_0 _ _; simp only [Act.put]))
  have hS0 : Blk ((w.alloc (.cells (vals (zeros 25)) 23)).setRow w.heap.size (vals (zeros 25))) w.heap.size 23 (vals (zeros 25)) := Blk.setRow_same (old := vals (zeros 25)) (heap_a1_0 _ _) _
  have hB0 : Below w.heap.size w ((w.alloc (.cells (vals (zeros 25)) 23)).setRow w.heap.size (vals (zeros 25))) := Below.setRow_ ((Below.refl _ _).alloc (Nat.le_refl _) _) (Nat.le_refl _) _
  go_loopw [5] (fun nv wr => ∃ cc k : Nat, nv = .int .i64 ((136 * cc + k : Nat) : Int) ∧ 136 * cc + k ≤ L ∧ k < 136 ∧ Blk wr w.heap.size 23 (vals (blkF (absC bs cc) (fun k => byteN bs (136 * cc + k)) k)) ∧ Below w.heap.size w wr) (fun nv _ => L - (intOf nv).toNat)
  case atStart => exact ⟨0, 0, rfl, Nat.zero_le _, by omega, hS0, hB0⟩
  case round =>
    obtain ⟨cc, k, rfl, hnL, hk, hb, hB⟩ := hrel
    obtain ⟨f, hf⟩ : ∃ f, f = fun k => byteN bs (136 * cc + k) := ⟨_, rfl⟩
    rw [← hf] at hb
    have HF := veil hf
    clear hf hS0 hB0
    obtain ⟨n, hn⟩ : ∃ n, n = 136 * cc + k := ⟨_, rfl⟩
    rw [← hn] at hnL ⊢
    by_cases hlt : n < L
    · obtain ⟨X, hX⟩ : ∃ X, X = blkF (absC bs cc) f k := ⟨_, rfl⟩
      have hXl : X.length = 25 := by rw [hX, blkF_len, absC_len]
      rw [← hX] at hb
      have hnm : (n : Int) % 136 = (k : Int) := by omega
      have hfk : byteN bs n = f k := by rw [HF.out, hn]
      have hfb : f k < 256 := by rw [← hfk]; exact byteN_lt _ _
      obtain ⟨d, hd⟩ : ∃ d, d = k / 8 := ⟨_, rfl⟩
      obtain ⟨e, he⟩ : ∃ e, e = k % 8 := ⟨_, rfl⟩
      have hd1 : (k : Int) / 8 = (d : Int) := by omega
      have he1 : (k : Int) % 8 = (e : Int) := by omega
      have hd25 : d < 25 := by omega
      have hd25i : (d : Int) < 25 := by omega
      have he8 : e < 8 := by omega
      have hstep := blk_step (absC bs cc) f k
      rw [← hX, ← hd, ← he] at hstep
      have hcd : wr.cell? ⟨w.heap.size, d, none⟩ = some (U (lane X d)) := by rw [hb.cell, vals_get _ _ (by omega)]
      have hup := up_num (f k) e hfb he8
      have hat := HAT.out wr.drew (((hI.below ((Below.refl n₀ w))).below (hB.mono hn₀))) n hlt
      rw [hfk] at hat
      obtain ⟨y, hy⟩ : ∃ y, y = up8 (f k) e := ⟨_, rfl⟩
      rw [← hy] at hup hstep
      have hxor := xor_bv (lane X d) y
      have hfz := hb.frozen d
      have hn0 : (n : Int) ≤ 6000 := by omega
      have hk0 : (k : Int) < 136 := by omega
      have hwd : IntKind.i64.wrap (d : Int) = (d : Int) := wrap_in (by omega) (by omega)
      have hwe : IntKind.i64.wrap (8 * (e : Int)) = 8 * (e : Int) := wrap_in (by omega) (by omega)
      have hkd : (k : Int).tdiv 8 = (d : Int) := by rw [Int.tdiv_eq_ediv_of_nonneg (by omega), hd1]
      have hke : (k : Int).tmod 8 = (e : Int) := by rw [Int.tmod_eq_emod_of_nonneg (by omega), he1]
      have hf256 : ((f k : Nat) : Int) < 256 := by omega
      have hnL' : decide ((n : Int) < (L : Int)) = true := by simp; omega
      have hw1 := u64_nat (f k) (by omega)
      have hw2 : IntKind.u64.wrap (8 * (e : Int)) = 8 * (e : Int) := by have := u64_nat (8 * e) (by omega); rwa [Int.natCast_mul] at this
      have hw3 : (8 * (e : Int)).toNat = 8 * e := by omega
      have hw4 : min (8 * e) 64 = 8 * e := by omega
      have HAT2 := veil hat
      have HST := veil hstep
      have HFK := veil hfk
      have HN := veil hn
      have HD := veil hd
      have HE := veil he
      have HX := veil hX
      have HXL := veil hXl
      have HY := veil hy
      clear hat hstep hfk hn hd he hX hXl hy
      go_wp2_with fail
      refine wp_region_tail 16 (by kernel_rfl) (by kernel_rfl) ?_
      simp only [List.take_succ_cons, List.take_zero, List.drop_succ_cons, List.drop_zero]
      repeat (apply st_val; rfl; (go_simp; exact rfl); simp only [Act.put, List.setIfInBounds_toArray, List.set_cons_zero, List.set_cons_succ])
      refine st_call (.int .u8 (f k : Nat)) 44 #[.slice a bs.length c, .int .i64 n, .int .i64 L] rfl ?_ HAT2.out ?_
      · go_simp
      simp only [Act.put, List.setIfInBounds_toArray, List.set_cons_zero, List.set_cons_succ]
      repeat (apply st_val; rfl; (go_simp; exact rfl); simp only [Act.put, List.setIfInBounds_toArray, List.set_cons_zero, List.set_cons_succ])
      try simp only [hw1, hw2, hw3, hw4, hup, hxor]
      obtain ⟨W1, hW1⟩ : ∃ W1, W1 = (wr.setCell ⟨w.heap.size, d, none⟩ (.int .u64 (((lane X d).toNat ^^^ y.toNat : Nat) : Int))).drew := ⟨_, rfl⟩
      have hset : Blk W1 w.heap.size 23 (vals (blkF (absC bs cc) f (k + 1))) := by
        have e2 : (((lane X d).toNat ^^^ y.toNat : Nat) : Int) = ((lane X d ^^^ y).toNat : Int) := by rw [BitVec.toNat_xor]
        rw [hW1, e2, HST.out, ← vals_set]
        exact hb.set_ d _
      have hB2 : Below w.heap.size w W1 := by rw [hW1]; exact (hB.setCell (p := ⟨w.heap.size, d, none⟩) (Nat.le_refl _) _).drew
      have HW1 := veil hW1
      clear hup hw1 hw2 hw3 hw4 hwe hwd hkd hke hd1 he1 hd25i hd25 hf256 hxor hB hW1
      refine wpStill_nil ?_
      by_cases hk135 : k = 135
      · have hb135 : ((n : Int) % 136 == 135) = true := by rw [hnm, hk135]; rfl
        go_upto_region 8 with fail
        rw [← HW1.out]
        obtain ⟨X2, hX2⟩ : ∃ X2, X2 = blkF (absC bs cc) f (k + 1) := ⟨_, rfl⟩
        rw [← hX2] at hset
        have hX2l : X2.length = 25 := by rw [hX2, blkF_len, absC_len]
        have hperm : refPermF X2 = absC bs (cc + 1) := by rw [perm_same _ hX2l, hX2, hk135, HF.out, absC_succ]
        have HRL := veil (show (refPermF X2).length = 25 by rw [perm_same _ hX2l]; exact permF_len _)
        have HPM := veil hperm
        have HX2 := veil hX2l
        have HK := veil hk135
        clear hX2 hX2l hperm hk135 hcd hfz hb
        go_wp2_with ((with_reducible refine ld25 (o := ⟨some 40, _, _, _, _, _⟩) ?_ (.tmp 4) ?_ w.heap.size ?_ X2 HX2.out hset ?_); rfl; rfl; rfl; simp only [Act.put, List.setIfInBounds_toArray, List.set_cons_zero, List.set_cons_succ])
        with_reducible refine (refPermute_any X2 HX2.out _).mono ?_
        rintro e4 w4 ⟨rfl, hb4⟩
        have hb5 : Blk w4 w.heap.size 23 (vals X2) := hset.below hb4 hset.lt
        have hB5 := hB2.trans (hb4.mono hB2.size)
        clear hb4 hset hB2
        go_wp2_with ((with_reducible refine st25 (o := ⟨none, .store _ (.tmp 4) _, _, _, _, _⟩) ?_ (.tmp 4) (.tmp 41) ?_ w.heap.size ?_ (refPermF X2) X2 HRL.out HX2.out ?_ hb5 ?_); rfl; rfl; rfl; rfl; simp only [Act.put])
        have hb6 := hb5.setRow_same (vals (refPermF X2))
        rw [HPM.out] at hb6 ⊢
        have hB6 := Below.setRow_ hB5 (Nat.le_refl _) (vals (absC bs (cc + 1)))
        go_roundw
        case rel => exact ⟨cc + 1, 0, by have := HN.out; have := HK.out; go_num, by have := HN.out; have := HK.out; have := HL.out; omega, by omega, hb6, hB6⟩
        case measure => simp [intOf]; omega
      · have hb135 : ((n : Int) % 136 == 135) = false := by rw [hnm]; simp; omega
        have hb135' : ((k : Int) == 135) = false := by simp; omega
        go_upto_region 8 with fail
        rw [← HW1.out]
        have HK := veil hk135
        clear hk135 hcd hfz hb
        go_wp2_with fail
        rw [HF.out] at hset
        go_roundw
        case rel => exact ⟨cc, k + 1, by have := HN.out; go_num, by have := HN.out; omega, by have := HK.out; omega, hset, hB2⟩
        case measure => simp [intOf]; omega
    · have hcc : cc = q ∧ k = 0 := by have := HL.out; omega
      obtain ⟨rfl, rfl⟩ := hcc
      obtain ⟨S, hS⟩ : ∃ S, S = absC bs cc := ⟨_, rfl⟩
      rw [blkF_zero, ← hS] at hb
      have hSl : S.length = 25 := by rw [hS]; exact absC_len _ _
      have hdig : digF bs = outTo S 32 := by rw [digF_eq, ← HQ.out, ← hS]
      have HD := veil hdig
      have HSL := veil hSl
      have hnl : n = L := by omega
      have hd : decide ((n : Int) < (L : Int)) = false := by simp; omega
      have hd' : decide (n < L) = false := by simp; omega
      clear hS hSl hdig hn hnL hlt hnl
      have hmk : ∀ w, (Instr.makeSlice 30 (.int .i64 32) (.int .i64 32)).run Try.prog w = .ok (.slice (some ⟨w.heap.size, 0, none⟩) 32 32) (w.alloc (.cells ((List.replicate 32 (0 : UInt8)).map B8).toArray 5)) := fun _ => by kernel_rfl
      have ho0 : OwnB (wr.alloc (.cells ((List.replicate 32 (0 : UInt8)).map B8).toArray 5)) (w.heap.size + 1) (.slice (some ⟨wr.heap.size, 0, none⟩) (List.replicate 32 (0 : UInt8)).length 32) (List.replicate 32 0) :=
        ⟨by simp, .inr ⟨wr.heap.size, 32, _, by simp, hb.lt, heap_alloc_new wr _, by simp, by unfold maxLen; omega, by simp, by simp⟩⟩
      rw [List.length_replicate] at ho0
      have hB1 := hB.alloc hB.size (.cells ((List.replicate 32 (0 : UInt8)).map B8).toArray 5)
      have hb1 := hb.alloc (.cells ((List.replicate 32 (0 : UInt8)).map B8).toArray 5)
      obtain ⟨g, hg⟩ : ∃ g, g = wr.heap.size := ⟨_, rfl⟩
      have hgb : w.heap.size < g := by rw [hg]; exact hb.lt
      rw [← hg] at ho0
      have HG := veil hg
      have HO := veil ho0
      have HB := veil hb1
      clear hb hB hg ho0 hb1
      go_wp2_with fail
      rw [← HG.out]
      go_loopw [8] (fun iv wx => ∃ i : Nat, i ≤ 32 ∧ iv = .int .i64 i ∧ OwnB wx (w.heap.size + 1) (.slice (some ⟨g, 0, none⟩) 32 32) (outZ S i) ∧ Blk wx w.heap.size 23 (vals S) ∧ Below w.heap.size w wx) (fun iv _ => 32 - (intOf iv).toNat)
      case atStart => exact ⟨0, by omega, rfl, by unfold outZ; rw [outTo_zero]; exact HO.out, HB.out, hB1⟩
      case round =>
        obtain ⟨i, hi, rfl, ho, hb, hB⟩ := hrel
        have hzl := outZ_len S i hi
        by_cases hlt : i < 32
        · have hset := outZ_set S i hlt
          obtain ⟨d, hdd⟩ : ∃ d, d = i / 8 := ⟨_, rfl⟩
          obtain ⟨e, hee⟩ : ∃ e, e = i % 8 := ⟨_, rfl⟩
          have hval := outB_num S d e (by omega)
          rw [show 8 * d + e = i by omega] at hval
          have hd1 : (i : Int) / 8 = (d : Int) := by omega
          have he1 : (i : Int) % 8 = (e : Int) := by omega
          have hd25 : (d : Int) < 25 := by omega
          have he8 : e < 8 := by omega
          have he8i : (e : Int) < 8 := by omega
          have hcd : wr.cell? ⟨w.heap.size, d, none⟩ = some (U (lane S d)) := by rw [hb.cell, vals_get _ _ (by rw [HSL.out]; omega)]
          have hil : decide ((i : Int) < 32) = true := by simp; omega
          have hi0 : (i : Int) < 32 := by omega
          obtain ⟨Z, hZ⟩ : ∃ Z, Z = outZ S i := ⟨_, rfl⟩
          rw [← hZ] at ho hset hzl
          have ho' : OwnB wr (w.heap.size + 1) (.slice (some ⟨g, 0, none⟩) Z.length 32) Z := by rw [hzl]; exact ho
          have hst := ho'.stored i (outB S i)
          rw [hset, hzl] at hst
          unfold B8 at hst
          rw [← hval] at hst
          have hci := ho'.cellAt i (by omega)
          have hfi := ho'.frozenAt i
          have hne : g ≠ w.heap.size := by omega
          have hb2 := hb.far (p := ⟨g, i, none⟩) (show w.heap.size ≠ g by omega) (.int .u8 (((lane S d).toNat : Int) / 2 ^ (8 * e) % 256))
          have hB2 := hB.setCell (p := ⟨g, i, none⟩) (show w.heap.size ≤ g by omega) (.int .u8 (((lane S d).toNat : Int) / 2 ^ (8 * e) % 256))
          have HST := veil hst
          have HB2 := veil hb2
          clear hst ho ho' hset hZ hzl hb hB hb2 hval hdd hee
          go_wp2_with fail
          go_roundw
          case rel => exact ⟨i + 1, by omega, by go_num, HST.out, HB2.out, hB2⟩
          case measure => simp [intOf]; omega
        · have hi32 : i = 32 := by omega
          subst hi32
          have hcv : (convert 30 9 (.slice (some ⟨g, 0, none⟩) 32 32)).run Try.prog wr = .ok (.string ⟨(digF bs).toArray⟩) wr := by
            have h1 : outZ S 32 = outTo S 32 := by unfold outZ; simp
            rw [h1, ← HD.out] at ho
            exact ho.str (by rw [digF_len]; omega)
          clear ho hzl hlt hi
          go_wp2
          go_ret
          exact ⟨rfl, hB⟩

end Go.Proofs.Ytfohblhaiflaeaa
