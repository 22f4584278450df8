/- parcloselaw20.DigOf: it answers true. -/
import Derived.Test.YtfohblhaiflaeaaDg
namespace Go.Proofs.Ytfohblhaiflaeaa
open Go.RowKit

set_option maxRecDepth 100000 in
set_option maxHeartbeats 2000000 in
theorem digof_any (a : Option Addr) (l c : Nat) (bs : List UInt8) (w : World) (hI : Byt w.heap.size w (.slice a l c) bs) :
    Calls Try.prog 6 #[.slice a l c] w fun e w' => e = .returned (.bool true) ∧ Below w.heap.size w w' := by
  have ht : (bs.take 700).length ≤ 1000 := by rw [List.length_take]; omega
  have hsh := fun n₀ w' hI' => short_any a l c bs n₀ w' hI'
  have htk := fun n₀ w' (hI' : Byt n₀ w' (.slice a l c) bs) => hI'.take 700
  obtain ⟨tb, htb⟩ : ∃ tb, tb = bs.take 700 := ⟨_, rfl⟩
  rw [← htb] at ht hsh htk
  have HT := veil ht
  have HS := veil hsh
  have HTK := veil htk
  clear ht hsh htb htk
  go_enter Try.func6, Try.ntmps6
  go_wp2_with fail
  with_reducible refine (awake20 w).mono ?_
  rintro e w1 ⟨rfl, hb1⟩
  have hI1 := (hI.below hb1).mono hb1.size
  have hB1 := hb1
  clear hb1 hI
  go_wp2_with fail
  with_reducible refine (HS.out _ w1 hI1).mono ?_
  rintro e w' ⟨rfl, rfl⟩
  have ho := of_any a _ c tb w1 (HTK.out _ w1 hI1) HT.out
  have HO := veil ho
  clear ho
  go_wp2_with fail
  with_reducible refine HO.out.mono ?_
  rintro e w2 ⟨rfl, hb2⟩
  have hI2 := (hI1.below hb2).mono hb2.size
  have hB2 := hB1.trans (hb2.mono hB1.size)
  clear hb2 hI1 hB1 HO
  go_wp2_with fail
  with_reducible refine (HS.out _ w2 hI2).mono ?_
  rintro e w' ⟨rfl, rfl⟩
  have ho := refof_any a _ c tb _ w2 (HTK.out _ w2 hI2) (Nat.le_refl _) HT.out
  have HO := veil ho
  clear ho
  go_wp2_with fail
  with_reducible refine HO.out.mono ?_
  rintro e w3 ⟨rfl, hb3⟩
  have hB3 := hB2.trans (hb3.mono hB2.size)
  clear hb3 hI2 hB2 HO
  go_wp2
  go_ret
  exact ⟨rfl, hB3⟩

end Go.Proofs.Ytfohblhaiflaeaa
