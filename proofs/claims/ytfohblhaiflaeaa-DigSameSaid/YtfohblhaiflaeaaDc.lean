/- slices.Clone at bytes, dig.padded: what they come to. -/
import Derived.Test.YtfohblhaiflaeaaDb
import Derived.Test.YtfohblhaiflaeaaWZeros
import Derived.Deep.DeepCutAuto
namespace Go.Proofs.Ytfohblhaiflaeaa
open Go.RowKit

theorem und30 : Try.prog.underlying 30 = some (.slice 5) := by kernel_rfl
theorem und5 : Try.prog.underlying 5 = some (.int .u8) := by kernel_rfl
theorem und9 : Try.prog.underlying 9 = some .string := by kernel_rfl
theorem info5 : (Try.prog.info? 5).map (fun i => (i.zero, i.size, i.bytes)) = some (some (.int .u8 0), 1, 1) := by kernel_rfl

/-- a row of bytes of the call's own -/
def OwnB (w : World) (base : Nat) (v : Value) (bs : List UInt8) : Prop := w.ownsRow base 5 1 v bs.length (bs.map B8)
theorem OwnB.nil (w : World) (base : Nat) : OwnB w base (.slice none 0 0) [] := World.ownsRow_nil _ _ _ _
theorem OwnB.byt {w : World} {base : Nat} {v : Value} {bs : List UInt8} (h : OwnB w base v bs) {n₀ : Nat} (hn : w.heap.size ≤ n₀) : Byt n₀ w v bs := by
  have hlt := h.lt
  have hcells := fun g hg => World.ownsRow.cells (g := g) h hg
  obtain ⟨hl, ⟨rfl, h0⟩ | ⟨g, cap, cur, rfl, hb, hg, hnc, hcm, hsz, htk⟩⟩ := h
  · exact .inl ⟨none, 0, rfl, List.eq_nil_of_length_eq_zero h0⟩
  · refine .inr ⟨g, 0, cap, rfl, hnc, ?_, fun j hj => ?_⟩
    · have := (hlt g rfl).2; omega
    · have := hcells g rfl j (B8 (bs.getD j 0)) (by rw [List.getElem?_map, List.getD_eq_getElem?_getD, List.getElem?_eq_getElem hj]; rfl)
      rwa [show (⟨g, 0, none⟩ : Addr).add j = ⟨g, 0 + j, none⟩ from by unfold Addr.add; split <;> simp_all] at this
theorem OwnB.slice {w : World} {base : Nat} {v : Value} {bs : List UInt8} (h : OwnB w base v bs) : ∃ a c, v = .slice a bs.length c ∧ bs.length ≤ c := by
  obtain ⟨_, ⟨rfl, h0⟩ | ⟨g, cap, cur, rfl, _, _, hc, _⟩⟩ := h
  · exact ⟨none, 0, by rw [h0], by omega⟩
  · exact ⟨_, _, rfl, hc⟩
theorem OwnB.form {w : World} {base : Nat} {v : Value} {bs : List UInt8} (h : OwnB w base v bs) (h0 : 0 < bs.length) : ∃ g c, v = .slice (some ⟨g, 0, none⟩) bs.length c ∧ bs.length ≤ c ∧ base ≤ g ∧ g < w.heap.size := by
  have hlt := h.lt
  obtain ⟨_, ⟨rfl, h1⟩ | ⟨g, cap, cur, rfl, hb, _, hc, _⟩⟩ := h
  · omega
  · exact ⟨g, _, rfl, hc, hb, (hlt g rfl).2⟩
theorem oneB8 (bs : List UInt8) : ∀ u ∈ bs.map B8, u.oneCell' = true := by
  intro u hu
  obtain ⟨b, _, rfl⟩ := List.mem_map.1 hu
  rfl
theorem map_B8_get {bs : List UInt8} {j : Nat} {u : Value} (h : (bs.map B8)[j]? = some u) : j < bs.length ∧ u = B8 (bs.getD j 0) := by
  rw [List.getElem?_map] at h
  rcases Nat.lt_or_ge j bs.length with hj | hj
  · rw [List.getElem?_eq_getElem hj] at h
    refine ⟨hj, ?_⟩
    rw [List.getD_eq_getElem?_getD, List.getElem?_eq_getElem hj]
    simpa using h.symm
  · rw [List.getElem?_eq_none hj] at h; cases h

/-- append of bytes to a row of the call's own -/
theorem app_own {ops : Array Oper} {rest : List Oper} {o : Oper} {a : Act} {w : World} {Q : Exit → Act → World → Prop} (hgd : o.guard = none) (s x : Operand)
    (ho : o.op = .call { callee := .builtin .append, args := #[s, x], argTypes := #[30, 30] }) (base : Nat) (v : Value) (bs : List UInt8) (hs : a.eval s = v) (hown : OwnB w base v bs)
    (ad : Addr) (c : Nat) (new : List UInt8) (hx : a.eval x = .slice (some ad) new.length c) (hnew : ∀ j, j < new.length → w.cell? (ad.add j) = some (B8 (new.getD j 0))) (hl : bs.length + new.length ≤ 140737488355328) (hbase : base ≤ w.heap.size)
    (h : ∀ v' w', OwnB w' base v' (bs ++ new) → w.grownBy w' v.ownBlock → wpList Try.prog ops Q rest (a.put o.dst v') w') : wpList Try.prog ops Q (o :: rest) a w := by
  obtain ⟨i0, hi, hz0, hz1, hz2⟩ := info_parts info5
  refine wpList_append_own w hgd s x 30 ho base 5 i0 (.int .u8 0) 1 1 und30 hi hz0 hz1 hz2 rfl (by decide) v bs.length (bs.map B8) hs hown ad new.length c (new.map B8) hx (by simp) (fun j u hj => ?_) (oneB8 new) (by unfold maxLen; omega) (by omega) hbase (fun v' w' h1 h2 _ => h v' w' ?_ h2)
  · obtain ⟨hj', rfl⟩ := map_B8_get hj
    exact hnew j hj'
  · unfold OwnB
    rw [List.length_append, List.map_append]; exact h1

set_option maxRecDepth 100000 in
set_option maxHeartbeats 1000000 in
theorem clone_any (a : Option Addr) (l c : Nat) (bs : List UInt8) (n₀ : Nat) (w : World) (hI : Byt n₀ w (.slice a l c) bs) (hn : n₀ ≤ w.heap.size) (hreach : bs.length ≤ 140737488351232) :
    Calls Try.prog 56 #[.slice a l c] w fun e w' => ∃ v, e = .returned v ∧ OwnB w' w.heap.size v bs ∧ Below w.heap.size w w' := by
  obtain rfl := hI.len
  have HR := veil hreach
  clear hreach
  cases a with
  | none =>
    have hbs : bs = [] := by
      rcases hI with ⟨_, _, e, rfl⟩ | ⟨b, off, c', e, _⟩
      · rfl
      · injection e with e1; cases e1
    subst hbs
    have hnil := OwnB.nil w w.heap.size
    have hq := fun w : World => Lib.run_eql_slice_nil (P := Try.prog) w 30 5 none 0 c 0 0 und30
    go_enter Try.func56, Try.ntmps56
    go_wp2
    go_ret
    exact ⟨_, rfl, hnil, Below.refl _ _⟩
  | some ad =>
    have hown : OwnB (w.alloc (.cells #[] 5)) w.heap.size (.slice (some ⟨w.heap.size, 0, none⟩) 0 0) [] := World.ownsRow_made w #[] 0 (Nat.le_refl _) (by unfold maxLen; omega) rfl
    have hnew : Veil (∀ j, j < bs.length → (w.alloc (.cells #[] 5)).cell? (ad.add j) = some (B8 (bs.getD j 0))) := veil fun j hj => by
      obtain ⟨b, off, e, _, hb, hcs⟩ := hI.at (by omega)
      injection e with e
      subst e
      have hp : (⟨b, off, none⟩ : Addr).add j = ⟨b, off + j, none⟩ := by unfold Addr.add; split <;> simp_all
      rw [hp]
      exact ((Below.refl w.heap.size w).alloc (Nat.le_refl _) _).cell (p := ⟨b, off + j, none⟩) (show b < _ by omega) ▸ hcs j hj
    have hB := (Below.refl w.heap.size w).alloc (Nat.le_refl _) (.cells #[] 5)
    have HO := veil hown
    clear hI hown
    have hq := fun w : World => Lib.run_eql_slice_nil (P := Try.prog) w 30 5 (some ad) bs.length c 0 0 und30
    go_enter Try.func56, Try.ntmps56
    go_wp2_with ((with_reducible refine app_own (o := ⟨some 7, _, _, _, _, _⟩) ?_ (.tmp 5) (.tmp 6) ?_ w.heap.size _ [] ?_ HO.out ad c bs ?_ hnew.out ?_ ?_ ?_); rfl; rfl; rfl; rfl; (have := HR.out; simp; omega); (simp); rintro v' w1 h1 h2; simp only [Act.put, List.setIfInBounds_toArray, List.set_cons_zero, List.set_cons_succ])
    have hB1 : Below w.heap.size w w1 := hB.grown h2 hB.size (fun k e => by cases e; exact Nat.le_refl _)
    rw [List.nil_append] at h1
    go_ret
    exact ⟨_, rfl, h1, hB1⟩

/-- what is put behind the bytes -/
def zerosB (bs : List UInt8) : Nat := allOf bs.length - (bs.length + 1)
theorem zerosB_eq (bs : List UInt8) : (136 - ((bs.length : Int) + 1) % 136) % 136 = (zerosB bs : Int) := by unfold zerosB allOf; omega
theorem zerosB_neg (bs : List UInt8) : -(((bs.length : Int) + 1) % 136) % 136 = (zerosB bs : Int) := by unfold zerosB allOf; omega
theorem zerosB_add (bs : List UInt8) : bs.length + 1 + zerosB bs = allOf bs.length := by unfold zerosB allOf; omega
theorem und3 : Try.prog.underlying 3 = some (.int .i64) := by kernel_rfl
theorem zeroCells_u8 (m : Nat) : (Builtin.zeroCells (Value.int .u8 0).cells m).toList = (List.replicate m (0 : UInt8)).map B8 := by
  have h : Builtin.zeroCells (Value.int .u8 0).cells m = madeCells #[.int .u8 0] m := by unfold Builtin.zeroCells madeCells; simp [Value.cells]
  rw [h, toList_madeCells_one, List.map_replicate]; rfl

/-- append of zeros to a row of the call's own -/
theorem app_zeros {ops : Array Oper} {rest : List Oper} {o : Oper} {a : Act} {w : World} {Q : Exit → Act → World → Prop} (hgd : o.guard = none) (s x : Operand)
    (ho : o.op = .call { callee := .builtin .append, args := #[s, x], argTypes := #[30, 3] }) (base : Nat) (v : Value) (bs : List UInt8) (hs : a.eval s = v) (hown : OwnB w base v bs)
    (m : Nat) (hxm : ∃ mi, a.eval x = .int .i64 mi ∧ mi = (m : Int)) (hl : bs.length + m ≤ 140737488355328) (hbase : base ≤ w.heap.size)
    (h : ∀ v' w', OwnB w' base v' (bs ++ List.replicate m 0) → w.grownBy w' v.ownBlock → wpList Try.prog ops Q rest (a.put o.dst v') w') : wpList Try.prog ops Q (o :: rest) a w := by
  obtain ⟨mi, hx, hmi⟩ := hxm
  subst hmi
  obtain ⟨i0, hi, hz0, hz1, hz2⟩ := info_parts info5
  obtain ⟨v', w', hr, h1, h2, _⟩ := Go.Proofs.YtfohblhaiflaeaaW.PrintWords.run_append_zeros w base 30 3 o.type 5 i0 (.int .u8 0) 1 1 und30 und3 hi hz0 hz1 hz2 rfl (by decide) (by decide) v bs.length (bs.map B8) hown .i64 m
    (by rw [zeroCells_u8]; exact oneB8 _) (by omega) hbase
  refine wpList_plain hgd fun K hK => ?_
  unfold Oper.wp execOp
  simp only [ho, resolve, invoke, builtin, Sem.run_bind, Sem.run_pure, Result.andThen_ok, List.map_toArray, List.map_cons, List.map_nil, hs, hx, hr]
  refine hK _ _ (h v' w' ?_ h2)
  unfold OwnB
  rw [List.length_append, List.length_replicate, List.map_append, ← zeroCells_u8]
  exact h1

theorem OwnB.alloc {w : World} {base : Nat} {v : Value} {bs : List UInt8} (h : OwnB w base v bs) (o : Obj) : OwnB (w.alloc o) base v bs := World.ownsRow.alloc h o
theorem or128 (x : UInt8) (h : x = 0 ∨ x = 6) : bits .or .u8 (x.toNat : Int) 128 = ((UInt8.ofNat (x.toNat + 128)).toNat : Int) := by
  rcases h with rfl | rfl <;> decide
theorem last_pad (bs : List UInt8) : ((bs ++ [6]) ++ List.replicate (zerosB bs) 0).getD (allOf bs.length - 1) 0 = 0 ∨ ((bs ++ [6]) ++ List.replicate (zerosB bs) 0).getD (allOf bs.length - 1) 0 = 6 := by
  have hlt := allOf_lt bs.length
  rw [List.getD_eq_getElem?_getD]
  by_cases he : allOf bs.length - 1 = bs.length
  · right
    rw [he, List.getElem?_append_left (by simp), List.getElem?_append_right (by omega)]; simp
  · left
    rw [List.getElem?_append_right (by simp; omega), List.getElem?_replicate]
    split <;> rfl
theorem OwnB.cellAt {w : World} {base g cap : Nat} {bs : List UInt8} (h : OwnB w base (.slice (some ⟨g, 0, none⟩) bs.length cap) bs) (j : Nat) (hj : j < bs.length) : w.cell? ⟨g, j, none⟩ = some (B8 (bs.getD j 0)) := by
  rw [World.ownsRow.cellAt h j (by omega), List.getElem?_map, List.getD_eq_getElem?_getD, List.getElem?_eq_getElem hj]; rfl
theorem OwnB.frozenAt {w : World} {base g cap : Nat} {bs : List UInt8} (h : OwnB w base (.slice (some ⟨g, 0, none⟩) bs.length cap) bs) (j : Nat) : w.frozen? ⟨g, j, none⟩ = false := World.ownsRow.frozenAt h j
theorem OwnB.stored {w : World} {base g cap : Nat} {bs : List UInt8} (h : OwnB w base (.slice (some ⟨g, 0, none⟩) bs.length cap) bs) (j : Nat) (b : UInt8) :
    OwnB (w.setCell ⟨g, j, none⟩ (B8 b)) base (.slice (some ⟨g, 0, none⟩) bs.length cap) (bs.set j b) := by
  have := World.ownsRow.stored h j (B8 b)
  unfold OwnB
  rw [List.length_set, List.map_set]
  exact this.1

set_option maxRecDepth 100000 in
set_option maxHeartbeats 2000000 in
theorem padded_any (a : Option Addr) (l c : Nat) (bs : List UInt8) (n₀ : Nat) (w : World) (hI : Byt n₀ w (.slice a l c) bs) (hn : n₀ ≤ w.heap.size) (hm : bs.length ≤ 100000) :
    Calls Try.prog 42 #[.slice a l c] w fun e w' => ∃ g c', e = .returned (.slice (some ⟨g, 0, none⟩) (allOf bs.length) c') ∧ OwnB w' w.heap.size (.slice (some ⟨g, 0, none⟩) (allOf bs.length) c') (padL bs) ∧ Below w.heap.size w w' := by
  have hclone := clone_any a l c bs n₀ w hI hn (by omega)
  have hz := zerosB_neg bs
  have hz1 := zerosB_eq bs
  have hlast := last_pad bs
  have hmade := padL_made bs
  have hza := zerosB_add bs
  have hle := allOf_le bs.length
  obtain ⟨z, hzz⟩ : ∃ z, z = zerosB bs := ⟨_, rfl⟩
  rw [show allOf bs.length - (bs.length + 1) = zerosB bs from rfl] at hmade
  rw [← hzz] at hz hz1 hza hlast hmade
  obtain ⟨all, hall⟩ : ∃ all, all = allOf bs.length := ⟨_, rfl⟩
  rw [← hall] at hza hle hlast hmade ⊢
  have HALL := veil hall
  have HZZ := veil hzz
  have HM := veil hmade
  obtain ⟨x, hx⟩ : ∃ x, x = ((bs ++ [(6 : UInt8)]) ++ List.replicate z 0).getD (all - 1) 0 := ⟨_, rfl⟩
  rw [← hx] at hlast
  have HX := veil hx
  have HOR := veil (or128 x hlast)
  have hlz : ((bs ++ [(6 : UInt8)]) ++ List.replicate z 0).length = all := by simp; omega
  have HLZ := veil hlz
  have HZ := veil hz
  have HZ1 := veil hz1
  clear hmade hx hlast hlz hz hz1 hall hzz
  have hml := veil hm
  clear hI hm
  go_enter Try.func42, Try.ntmps42
  go_wp2_with fail
  with_reducible refine hclone.mono ?_
  rintro e w1 ⟨v1, rfl, h1, hb1⟩
  clear hclone
  have hs1 := hb1.size
  have h1a := h1.alloc (.cells #[.int .u8 6] 5)
  have hc6 : ∀ j, j < [(6 : UInt8)].length → (w1.alloc (.cells #[.int .u8 6] 5)).cell? ((⟨w1.heap.size, 0, none⟩ : Addr).add j) = some (B8 ([(6 : UInt8)].getD j 0)) := by
    intro j hj
    have : j = 0 := by simpa using hj
    subst this
    exact (cell_of_row _ _ 0 #[.int .u8 6] 5 (0, 0) (heap_alloc_new w1 _))
  have HC6 := veil hc6
  have HO := veil h1a
  have hB1 := hb1.alloc hs1 (.cells #[.int .u8 6] 5)
  clear h1 h1a hc6 hb1
  go_upto_region 2 with ((with_reducible refine app_own (o := ⟨some 7, _, _, _, _, _⟩) ?_ (.tmp 5) (.tmp 6) ?_ w.heap.size _ bs ?_ HO.out ⟨w1.heap.size, 0, none⟩ 1 [6] ?_ HC6.out ?_ ?_ ?_); rfl; rfl; rfl; rfl; (have := hml.out; simp; omega); (simp; omega); rintro v2 w2 h2 hg2; simp only [Act.put, List.setIfInBounds_toArray, List.set_cons_zero, List.set_cons_succ]; (obtain ⟨g2, c2, rfl, _, _, _⟩ := h2.form (by simp)); (have hlen2 : (bs ++ [(6 : UInt8)]).length = bs.length + 1 := by simp); rw [hlen2]; clear hlen2)
  have hB2 : Below w.heap.size w w2 := hB1.grown hg2 (by simp; omega) (fun k hk => (HO.out.lt k hk).1)
  have hs2 := hB2.size
  have hml' := hml.out
  have H2 := veil h2
  have hlen : (bs ++ [(6 : UInt8)]).length = bs.length + 1 := by simp
  rw [hlen] at H2
  clear h2 hg2 HO HC6 hB1 hlen
  have hb136 : 0 ≤ 136 - ((bs.length : Int) + 1) % 136 := by omega
  go_upto_region 3 with ((with_reducible refine app_zeros (o := ⟨some 14, _, _, _, _, _⟩) ?_ (.tmp 8) (.tmp 13) ?_ w.heap.size _ (bs ++ [6]) ?_ H2.out z ?_ ?_ ?_ ?_); rfl; rfl; rfl; (first | exact ⟨_, rfl, HZ.out⟩ | exact ⟨_, rfl, HZ1.out⟩); (simp; omega); omega; rintro v3 w3 h3 hg3; simp only [Act.put, List.setIfInBounds_toArray, List.set_cons_zero, List.set_cons_succ]; (obtain ⟨g3, c3, rfl, _, _, _⟩ := h3.form (by rw [HLZ.out]; omega)); rw [HLZ.out])
  have hB3 : Below w.heap.size w w3 := hB2.grown hg3 hB2.size (fun k hk => by cases hk; show w.heap.size ≤ g2; omega)
  have hcx := h3.cellAt (all - 1) (by rw [HLZ.out]; omega)
  rw [← HX.out] at hcx
  have hfx := h3.frozenAt (all - 1)
  have hst := h3.stored (all - 1) (UInt8.ofNat (x.toNat + 128))
  rw [← HX.out] at HM
  rw [HLZ.out] at hst
  rw [← HM.out] at hst
  have HST := veil hst
  have hB4 := hB3.setCell (p := ⟨g3, all - 1, none⟩) (by show w.heap.size ≤ g3; omega) (B8 (UInt8.ofNat (x.toNat + 128)))
  have hor := HOR.out
  clear hst h3 hg3 H2 hB2 hs2 hb136
  go_wp2
  go_ret
  exact ⟨g3, c3, rfl, HST.out, hB4⟩

end Go.Proofs.Ytfohblhaiflaeaa
