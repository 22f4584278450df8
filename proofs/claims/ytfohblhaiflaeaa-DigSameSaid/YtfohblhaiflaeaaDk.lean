/- parcloselaw20.DigSame: it answers true. -/
import Derived.Test.YtfohblhaiflaeaaDh
import Derived.Laws.BytesArg
import Derived.OwnWalk
namespace Go.Proofs.Ytfohblhaiflaeaa
open Go.RowKit

/-- 'string(b)' -/
theorem Byt.str {n₀ : Nat} {w : World} {a : Option Addr} {l c : Nat} {bs : List UInt8} (h : Byt n₀ w (.slice a l c) bs) : (convert 30 9 (.slice a l c)).run Try.prog w = .ok (.string ⟨bs.toArray⟩) w := by
  obtain rfl := h.len
  cases a with
  | none =>
    have hbs : bs = [] := by
      rcases h with ⟨_, _, e, rfl⟩ | ⟨b, off, c', e, _⟩
      · rfl
      · injection e with e1; cases e1
    subst hbs
    exact run_convert_bytes_nil w 30 5 und30 und5 _ _ 9 und9
  | some ad =>
    refine run_convert_bytes_back w 30 9 5 ad c bs und30 und5 und9 (fun j hj => ?_)
    obtain ⟨b, off, e, _, _, hs⟩ := h.at (by omega)
    injection e with e
    subst e
    rw [show (⟨b, off, none⟩ : Addr).add j = ⟨b, off + j, none⟩ from by unfold Addr.add; split <;> simp_all, hs j hj, List.getD_eq_getElem?_getD, List.getElem?_eq_getElem hj]; rfl
/-- the block of a row of bytes, with the room behind it -/
theorem OwnB.room {w : World} {base g L c : Nat} {bs : List UInt8} (h : OwnB w base (.slice (some ⟨g, 0, none⟩) L c) bs) :
    ∃ cur, Blk w g 5 cur ∧ cur.size = c ∧ base ≤ g ∧ ∀ j, j < bs.length → cur[j]? = some (B8 (bs.getD j 0)) := by
  obtain ⟨cur, h1, h2, _, h4⟩ := h.row
  refine ⟨cur, h1, ?_, h2, h4⟩
  obtain ⟨_, ⟨e, _⟩ | ⟨g', cap, cur', e, _, hg, _, _, hsz, _⟩⟩ := h
  · cases e
  · injection e with e1 e2 e3
    injection e1 with e1
    injection e1 with e1
    subst e1 e2 e3
    unfold Blk at h1
    rw [hg] at h1
    injection h1 with h1
    injection h1 with h1
    rw [← h1, hsz, Nat.mul_one]

set_option maxRecDepth 100000 in
set_option maxHeartbeats 4000000 in
theorem digsame_any (a : Option Addr) (l c : Nat) (bs : List UInt8) (hnil : a = none → c = 0) (m : Int) (w : World) (hI : Byt w.heap.size w (.slice a l c) bs) :
    Calls Try.prog 8 #[.slice a l c, .int .u8 m] w fun e w' => e = .returned (.bool true) ∧ Below w.heap.size w w' := by
  have ht : (bs.take 700).length ≤ 700 := by rw [List.length_take]; omega
  have hsh := short_any a l c bs _ w hI
  have htk := hI.take 700
  obtain ⟨tb, htb⟩ : ∃ tb, tb = bs.take 700 := ⟨_, rfl⟩
  rw [← htb] at ht hsh htk
  obtain ⟨n, hn⟩ : ∃ n, n = tb.length := ⟨_, rfl⟩
  rw [← hn] at hsh htk ht
  have hni : (n : Int) ≤ 700 := by omega
  have HSH := veil hsh
  have HN := veil hn
  have HNIL := veil hnil
  clear hsh hn hnil htb hI
  obtain ⟨i0, hi, hz0, hz1, hz2⟩ := info_parts info5
  go_enter Try.func8, Try.ntmps8
  go_wp2_with fail
  with_reducible refine HSH.out.mono ?_
  rintro e w' ⟨rfl, rfl⟩
  have hcells : Veil (∀ ad, a = some ad → ∀ j u, (tb.map B8)[j]? = some u → w.cell? (ad.add j) = some u) := veil fun ad had j u hu => by
    obtain ⟨hj, rfl⟩ := map_B8_get hu
    subst had
    obtain ⟨b, off, e, _, _, hs⟩ := htk.at (by omega)
    injection e with e
    subst e
    rw [show (⟨b, off, none⟩ : Addr).add j = ⟨b, off + j, none⟩ from by unfold Addr.add; split <;> simp_all]
    exact hs j hj
  have hlt : Veil (∀ ad, a = some ad → ∀ j u, (tb.map B8)[j]? = some u → (ad.add j).block < w.heap.size) := veil fun ad had j u hu => by
    have := hcells.out ad had j u hu
    exact World.block_lt_of_cell? w _ this
  have HN0 : Veil (a = none → n = 0) := veil fun ha => by
    subst ha
    rcases htk with ⟨_, _, e, _⟩ | ⟨b, off, c', e, _⟩
    · injection e
    · injection e with e1; cases e1
  go_upto_region 3 with (first
    | ((with_reducible refine wpList_make_own w (o := ⟨some 16, _, _, _, _, _⟩) ?_ (.const (.int .i64 0)) (.tmp 15) 30 ?_ w.heap.size 5 i0 (.int .u8 0) 1 und30 hi hz0 hz1 .i64 .i64 ((n : Int) + 300) (n + 300) ?_ ?_ ?_ ?_ ?_ ?_ ?_); rfl; rfl; rfl; rfl; (simp); (rw [hz2]; omega); (unfold maxLen; omega); (exact Nat.le_refl _); rintro W1 hown1 hgr1; simp only [Act.put, List.setIfInBounds_toArray, List.set_cons_zero, List.set_cons_succ])
    | ((with_reducible refine wpList_append_fits_any _ (o := ⟨some 18, _, _, _, _, _⟩) ?_ (.tmp 16) (.tmp 17) 30 ?_ w.heap.size 5 i0 1 und30 hi hz1 w.heap.size 0 (n + 300) [] ?_ hown1 a n c (tb.map B8) ?_ ?_ ?_ ?_ ?_ ?_ ?_); rfl; rfl; rfl; rfl; (simp [HN.out]); (intro hn0; exact ⟨HN0.out hn0, HNIL.out hn0⟩); (intro ad had j u hu; rw [World.cell?_of_block (hgr1.block _ (hlt.out ad had j u hu) (by simp))]; exact hcells.out ad had j u hu); (exact oneB8 tb); omega; rintro W2 hown2 hgr2; simp only [Act.put, List.setIfInBounds_toArray, List.set_cons_zero, List.set_cons_succ]))
  simp only [Nat.zero_add, List.nil_append] at hown2 ⊢
  have hB2 : Below w.heap.size w W2 := ((Below.refl _ w).grown hgr1 (Nat.le_refl _) (fun k e => by cases e)).grown hgr2 hgr1.size (fun k e => by cases e; exact Nat.le_refl _)
  have hO2 : OwnB W2 w.heap.size (.slice (some ⟨w.heap.size, 0, none⟩) n (n + 300)) tb := by
    unfold OwnB
    rw [← HN.out]
    exact hown2
  obtain ⟨cur, hg2, hcs2, _, hct2⟩ := hO2.room
  rw [← HN.out] at hct2
  have HCT2 := veil hct2
  clear hown1 hown2 hgr1 hgr2 hO2 hct2 hcells hlt
  obtain ⟨g, hgg⟩ : ∃ g, g = w.heap.size := ⟨_, rfl⟩
  rw [← hgg] at hg2 ⊢
  have HG := veil hgg
  clear hgg
  go_wp2_with fail
  go_loopw [8] (fun iv wr => ∃ (i : Nat) (cu : Array Value), n ≤ i ∧ i ≤ n + 300 ∧ iv = .int .i64 i ∧ Blk wr g 5 cu ∧ cu.size = n + 300 ∧ Veil (∀ j, j < n → cu[j]? = some (B8 (tb.getD j 0))) ∧ Veil (∀ j, n ≤ j → j < i → cu[j]? = some (.int .u8 m)) ∧ Below w.heap.size w wr) (fun iv _ => n + 300 - (intOf iv).toNat)
  case atStart => exact ⟨n, cur, Nat.le_refl _, by omega, rfl, hg2, hcs2, HCT2, veil (fun j h1 h2 => by omega), hB2⟩
  case round =>
    obtain ⟨i, cu, hi1, hi2, rfl, hb, hsz, HT, HM, hB⟩ := hrel
    by_cases hlt : i < n + 300
    · have hil : decide ((i : Int) < (n : Int) + 300) = true := by simp; omega
      have hil2 : (i : Int) < (n : Int) + 300 := by omega
      obtain ⟨v, hv⟩ : ∃ v, cu[i]? = some v := ⟨_, Array.getElem?_eq_getElem (by omega)⟩
      have hcv : wr.cell? ⟨g, i, none⟩ = some v := (hb.cell i).trans hv
      have hfz := hb.frozen i
      have hset := hb.set_ i (.int .u8 m)
      have hB3 := hB.setCell (p := ⟨g, i, none⟩) (show w.heap.size ≤ g from Nat.le_of_eq HG.out.symm) (.int .u8 m)
      have hT3 : Veil (∀ j, j < n → (cu.setIfInBounds i (.int .u8 m))[j]? = some (B8 (tb.getD j 0))) := veil fun j hj => by
        rw [Array.getElem?_setIfInBounds_ne (by omega)]; exact HT.out j hj
      have hM3 : Veil (∀ j, n ≤ j → j < i + 1 → (cu.setIfInBounds i (.int .u8 m))[j]? = some (.int .u8 m)) := veil fun j h1 h2 => by
        by_cases hji : j = i
        · subst hji; rw [Array.getElem?_setIfInBounds_self]; simp; omega
        · rw [Array.getElem?_setIfInBounds_ne (by omega)]; exact HM.out j h1 (by omega)
      have hsz3 : (cu.setIfInBounds i (.int .u8 m)).size = n + 300 := by simpa using hsz
      have HSET := veil hset
      have HSZ := veil hsz3
      clear hv hset hsz3 hb hsz
      go_wp2_with fail
      go_roundw
      case rel => exact ⟨i + 1, _, by omega, by omega, by go_num, HSET.out, HSZ.out, hT3, hM3, hB3⟩
      case measure => simp [intOf]; omega
    · have hin : i = n + 300 := by omega
      have hil : decide ((i : Int) < (n : Int) + 300) = false := by simp; omega
      have hM2 : Veil (∀ j, n ≤ j → j < n + 300 → cu[j]? = some (.int .u8 m)) := veil fun j h1 h2 => HM.out j h1 (by omega)
      have hgw : g < wr.heap.size := hb.lt
      have hy : Byt wr.heap.size wr (.slice (some ⟨g, 0, none⟩) n (n + 300)) tb := .inr ⟨g, 0, n + 300, by rw [HN.out], by rw [← HN.out]; omega, hgw, fun j hj => by
        rw [Nat.zero_add, hb.cell, HT.out j (by rw [HN.out]; exact hj)]⟩
      have hof := of_any _ n (n + 300) tb wr hy (by rw [← HN.out]; omega)
      obtain ⟨D, hD⟩ : ∃ D : ByteArray, D = ⟨(digF tb).toArray⟩ := ⟨_, rfl⟩
      have hDs : D.size = 32 := by rw [hD]; exact digF_len tb
      rw [← hD] at hof
      have HOF := veil hof
      have HD := veil hD
      have HY := veil hy
      have hil' : decide (i < n + 300) = false := by simp; omega
      clear hof hD hy hlt HM hi1 hi2
      go_wp2_with fail
      with_reducible refine HOF.out.mono ?_
      rintro e w5 ⟨rfl, hb5⟩
      have hg5 : Blk w5 g 5 cu := hb.below hb5 hgw
      have hB5 := hB.trans (hb5.mono hB.size)
      have HY5 := veil (HY.out.below hb5)
      have hgs := hb5.size
      clear hb5 hB hb HOF
      go_wp2_with fail
      go_loopw [10] (fun iv wx => ∃ k : Nat, n ≤ k ∧ k ≤ n + 300 ∧ iv = .int .i64 k ∧ wx = w5) (fun iv _ => n + 300 - (intOf iv).toNat)
      case atStart => exact ⟨n, Nat.le_refl _, by omega, rfl, rfl⟩
      case round =>
        obtain ⟨k, hk1, hk2, rfl, rfl⟩ := hrel
        by_cases hlk : k < n + 300
        · have hcm : wr.cell? ⟨g, k, none⟩ = some (.int .u8 m) := (hg5.cell k).trans (hM2.out k hk1 hlk)
          have hkl : decide ((k : Int) < (n : Int) + 300) = true := by simp; omega
          have hkl2 : (k : Int) < (n : Int) + 300 := by omega
          go_wp2_with fail
          go_roundw
          case rel => exact ⟨k + 1, by omega, by omega, by go_num, trivial⟩
          case measure => simp [intOf]; omega
        · have hkl : decide ((k : Int) < (n : Int) + 300) = false := by simp; omega
          have hkl' : decide (k < n + 300) = false := by simp; omega
          have hkk : k = n + 300 := by omega
          clear hlk hk1 hk2
          go_wp2_with fail
          with_reducible refine (awake20 _).mono ?_
          rintro e w6 ⟨rfl, hb6⟩
          have hB6 := hB5.trans (hb6.mono hB5.size)
          have hI6 := (htk.below hB6).mono hB6.size
          have hY6 := (HY5.out.below (hb6.mono hgs))
          have hcv1 := hY6.str
          have hcv2 := hI6.str
          have hof := of_any a n c tb w6 hI6 (by rw [← HN.out]; omega)
          rw [← HD.out] at hof
          have HOF := veil hof
          clear hof hb6 hB5 hI6 hY6
          go_wp2_with fail
          with_reducible refine HOF.out.mono ?_
          rintro e w7 ⟨rfl, hb7⟩
          have hB7 := hB6.trans (hb7.mono hB6.size)
          clear hb7 hB6 HOF
          go_wp2
          go_ret
          exact ⟨rfl, hB7⟩

end Go.Proofs.Ytfohblhaiflaeaa
