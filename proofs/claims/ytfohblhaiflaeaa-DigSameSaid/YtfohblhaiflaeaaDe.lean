/- dig.Of: what it comes to: the digest. -/
import Derived.Test.YtfohblhaiflaeaaDd
namespace Go.Proofs.Ytfohblhaiflaeaa
open Go.RowKit Go.Shelf
attribute [local go_sem] Oper.semAt_some

theorem Blk.own {W W' : World} {row : Option Nat} {g : Nat} {t : TypeId} {cs : Array Value} (h : Blk W g t cs) (hg : W.grownBy W' row) (hr : ∀ r, row = some r → ∃ o : Obj, W.heap[r]? = some o ∧ o.isCells = false) : Blk W' g t cs :=
  h.grown hg (fun e => by
    obtain ⟨o, ho, hc⟩ := hr g e.symm
    unfold Blk at h
    rw [h] at ho
    injection ho with ho
    subst ho
    simp [Obj.isCells] at hc)


section
variable {F : Fence} {n : Nat}
theorem ld25_in {ops : Array Oper} {rest : List Oper} {o : Oper} {a : Act} {w : World} {Q : Exit → Act → World → Prop} (hgd : o.guard = none) (x : Operand) (ho : o.op = .load 23 x)
    (g : Nat) (hx : a.eval x = .pointer (some ⟨g, 0, none⟩)) (s : List (BitVec 64)) (hs : s.length = 25) (hg : Blk w g 23 (vals s))
    (h : wpListIn F n Try.prog ops Q rest (a.put o.dst (.agg (vals s))) w) : wpListIn F n Try.prog ops Q (o :: rest) a w := by
  refine wpListIn_plain hgd fun K' hK' => ?_
  unfold Oper.wpIn
  refine ⟨by simp [Oper.about, ho], ?_⟩
  rw [Oper.semAt_plain F _ _ (by rw [ho]; intro c hc'; cases hc')]
  simp only [execOp, ho, hx, Instr.loadAt, Instr.sureAddr, Sem.run_bind, Sem.run_pure, Result.andThen_ok, run_loadVar_row w g 23 23 (vals s) (0, 0) (.array 25 22) hg und23 rfl (size23 s hs), Oper.uponIn]
  exact hK' _ _ h
theorem st25_in {ops : Array Oper} {rest : List Oper} {o : Oper} {a : Act} {w : World} {Q : Exit → Act → World → Prop} (hgd : o.guard = none) (x y : Operand) (ho : o.op = .store 23 x y)
    (g : Nat) (hx : a.eval x = .pointer (some ⟨g, 0, none⟩)) (s old : List (BitVec 64)) (hs : s.length = 25) (hold : old.length = 25) (hy : a.eval y = .agg (vals s)) (hg : Blk w g 23 (vals old))
    (h : wpListIn F n Try.prog ops Q rest (a.put o.dst undef) (w.setRow g (vals s))) : wpListIn F n Try.prog ops Q (o :: rest) a w := by
  refine wpListIn_plain hgd fun K' hK' => ?_
  unfold Oper.wpIn
  refine ⟨by simp [Oper.about, ho], ?_⟩
  rw [Oper.semAt_plain F _ _ (by rw [ho]; intro c hc'; cases hc')]
  simp only [execOp, ho, hx, hy, Instr.storeAt, Instr.sureAddr, Sem.run_bind, Sem.run_pure, Result.andThen_ok, run_storeVar_row w g 23 23 (vals old) (vals s) hg (size23 s hs) (by rw [vals_size, vals_size, hs, hold]) (vals_one s), Oper.uponIn]
  exact hK' _ _ h
end
section
variable {P : Program} {ops : Array Oper} {w : World} {Q : Act → Prop} {a : Act} {o : Oper} {rest : List Oper}
theorem st_val (v : Value) (hw : Region.wanted o (yielded ops a.tmps) = true) (hv : (execOp a.eval o).run P w = .ok (.value v) w) (h : wpStill P ops w Q rest (a.put o.dst v)) : wpStill P ops w Q (o :: rest) a := by
  unfold wpStill
  rw [if_pos hw]
  unfold Oper.still
  rw [hv]
  exact ⟨rfl, h⟩
theorem st_call (v : Value) (f : FuncId) (args : Array Value) (hw : Region.wanted o (yielded ops a.tmps) = true) (hv : (execOp a.eval o).run P w = .ok (.enter f args) w)
    (hc : Calls P f args w fun e w' => e = .returned v ∧ w = w') (h : wpStill P ops w Q rest (a.put o.dst v)) : wpStill P ops w Q (o :: rest) a := by
  unfold wpStill
  rw [if_pos hw]
  unfold Oper.still
  rw [hv]
  exact ⟨rfl, v, still_of hc, h⟩
end

theorem OwnB.row {w : World} {base g L c : Nat} {bs : List UInt8} (h : OwnB w base (.slice (some ⟨g, 0, none⟩) L c) bs) :
    ∃ cur, Blk w g 5 cur ∧ base ≤ g ∧ L ≤ c ∧ ∀ j, j < bs.length → cur[j]? = some (B8 (bs.getD j 0)) := by
  have hb := h.byt (Nat.le_refl _)
  obtain ⟨hl, ⟨e, _⟩ | ⟨g', cap, cur, e, hb', hg, hnc, hcm, hsz, htk⟩⟩ := h
  · cases e
  · injection e with e1 e2 e3
    injection e1 with e1
    injection e1 with e1
    subst e1 e2 e3
    refine ⟨cur, hg, hb', hnc, fun j hj => ?_⟩
    have h2 : cur.toList[j]? = some (B8 (bs.getD j 0)) := by
      have h3 : (cur.toList.take (bs.length * 1))[j]? = (bs.map B8)[j]? := by rw [htk]
      rw [List.getElem?_take_of_lt (by omega), List.getElem?_map, List.getElem?_eq_getElem hj] at h3
      rw [h3, List.getD_eq_getElem?_getD, List.getElem?_eq_getElem hj]; rfl
    simpa using h2
/-- the state behind some blocks -/
def absL (bs : List UInt8) (l : List Nat) : List (BitVec 64) := l.foldl (fun s c => permF (blkF s (fun k => byteN bs (136 * c + k)) 136)) (zeros 25)
theorem absL_nil (bs : List UInt8) : absL bs [] = zeros 25 := rfl
theorem absL_snoc (bs : List UInt8) (l : List Nat) (c : Nat) : absL bs (l ++ [c]) = permF (blkF (absL bs l) (fun k => byteN bs (136 * c + k)) 136) := by simp [absL]
theorem absL_range (bs : List UInt8) : ∀ q, absL bs (List.range q) = absC bs q
  | 0 => rfl
  | q + 1 => by rw [List.range_succ, absL_snoc, absL_range bs q, absC_succ]
theorem absL_len (bs : List UInt8) (l : List Nat) : (absL bs l).length = 25 := by
  rcases List.eq_nil_or_concat l with rfl | ⟨l', c, rfl⟩
  · simp [absL_nil, zeros]
  · rw [List.concat_eq_append, absL_snoc, permF_len]
attribute [irreducible] absL

theorem Kp.of_below {n₀ n₁ : Nat} {A B : World} (h : Below A.heap.size A B) (hn : n₀ ≤ A.heap.size) : Kp n₀ n₁ A B :=
  ⟨h.mono hn, fun k c t f _ hc => by rw [h.block k (Array.getElem?_eq_some_iff.1 hc).1]; exact hc⟩
theorem Kp.setRow {n₀ n₁ : Nat} {A W : World} (h : Kp n₀ n₁ A W) {g : Nat} (h0 : n₀ ≤ g) (h1 : g < n₁) (cs : Array Value) : Kp n₀ n₁ A (W.setRow g cs) :=
  ⟨Below.setRow_ h.1 h0 cs, fun k c t f hk hc => by rw [setRow_other W g k cs (by omega)]; exact h.2 k c t f hk hc⟩
theorem keeps_below {A B : World} (h : Below A.heap.size A B) : KeepsOthers A B :=
  ⟨h.size, fun k o ho _ => by rw [h.block k (Array.getElem?_eq_some_iff.1 ho).1]; exact ho⟩
theorem keeps_setRow {W : World} {g : Nat} {t : TypeId} {old : Array Value} (h : Blk W g t old) (cs : Array Value) : KeepsOthers W (W.setRow g cs) :=
  ⟨by simp, fun k o ho hc => by
    by_cases hk : k = g
    · subst hk
      unfold Blk at h
      rw [h] at ho
      injection ho with ho
      subst ho
      simp [Obj.isCells] at hc
    · rw [setRow_other W g k cs hk]; exact ho⟩
theorem numTo_congr {f h : Nat → Nat} : ∀ k, (∀ i, i < k → f i = h i) → numTo f k = numTo h k
  | 0, _ => by rw [numTo_zero, numTo_zero]
  | k + 1, hh => by rw [numTo_succ, numTo_succ, numTo_congr k (fun i hi => hh i (by omega)), hh k (by omega)]
/-- eight of the padded bytes -/
def eight (bs : List UInt8) (o : Nat) : List UInt8 := (List.range 8).map fun k => (padL bs).getD (o + k) 0
theorem eight_len (bs : List UInt8) (o : Nat) : (eight bs o).length = 8 := by simp [eight]
theorem eight_get (bs : List UInt8) (o k : Nat) (h : k < 8) : (eight bs o).getD k 0 = (padL bs).getD (o + k) 0 := by
  unfold eight
  rw [List.getD_eq_getElem?_getD, List.getElem?_map, List.getElem?_range h]; rfl
theorem eight_num (bs : List UInt8) (x j : Nat) (f : Nat → Nat) (hf : f = fun k => byteN bs (136 * x + k)) (hlt : 136 * x + 8 * j + 8 ≤ allOf bs.length) :
    numTo (bN (eight bs (136 * x + 8 * j))) 8 = numTo (fun k => f (8 * j + k)) 8 := by
  refine numTo_congr 8 fun k hk => ?_
  unfold bN
  rw [eight_get bs _ k hk, padL_get bs _ (by omega), hf]
  show byteN bs (136 * x + 8 * j + k) = byteN bs (136 * x + (8 * j + k))
  rw [Nat.add_assoc]

theorem OwnB.apart {w : World} {base : Nat} {v : Value} {bs : List UInt8} (h : OwnB w base v bs) {D : Nat} {o : Obj} (hd : w.heap[D]? = some o) (ho : o.isCells = false) : some D ≠ v.ownBlock := by
  obtain ⟨_, ⟨rfl, _⟩ | ⟨g, cap, cur, rfl, _, hg, _⟩⟩ := h
  · simp [Value.ownBlock]
  · intro e
    have : D = g := by injection e
    subst this
    rw [hg] at hd
    injection hd with hd
    subst hd
    simp [Obj.isCells] at ho
theorem OwnB.str {w : World} {base : Nat} {v : Value} {bs : List UInt8} (h : OwnB w base v bs) (h0 : 0 < bs.length) : (convert 30 9 v).run Try.prog w = .ok (.string ⟨bs.toArray⟩) w := by
  obtain ⟨_, _, _, e⟩ | ⟨b, off, cap, e, hc, hb, hs⟩ := h.byt (Nat.le_refl _)
  · rw [e] at h0; simp at h0
  · subst e
    refine run_convert_bytes_back w 30 9 5 _ _ bs und30 und5 und9 (fun j hj => ?_)
    rw [show (⟨b, off, none⟩ : Addr).add j = ⟨b, off + j, none⟩ from by unfold Addr.add; split <;> simp_all, hs j hj, List.getD_eq_getElem?_getD, List.getElem?_eq_getElem hj]; rfl
theorem outB_num (S : List (BitVec 64)) (i k : Nat) (hk : k < 8) : ((lane S i).toNat : Int) / 2 ^ (8 * k) % 256 = ((outB S (8 * i + k)).toNat : Int) := by
  unfold outB
  rw [show (8 * i + k) / 8 = i from by omega, show (8 * i + k) % 8 = k from by omega, shr_num']
  have h : ((lane S i >>> (8 * k)).toNat % 256) < 256 := Nat.mod_lt _ (by omega)
  rw [UInt8.toNat_ofNat', Nat.mod_eq_of_lt (by omega)]
  omega

set_option maxRecDepth 100000 in
set_option maxHeartbeats 2000000 in
theorem of_in (n : Nat) (hn : 3 ≤ n) (a : Option Addr) (l c : Nat) (bs : List UInt8) (w : World) (hI : Byt w.heap.size w (.slice a l c) bs) (hm : bs.length ≤ 1000) :
    CallsIn Fence.wide n Try.prog 19 #[.slice a l c] w fun e W' => e = .returned (.string ⟨(digF bs).toArray⟩) ∧ Below w.heap.size w W' := by
  have h1 : 1 ≤ n := by omega
  have hq : allOf bs.length = 136 * (bs.length / 136 + 1) := by unfold allOf; omega
  obtain ⟨q, hqq⟩ : ∃ q, q = bs.length / 136 + 1 := ⟨_, rfl⟩
  rw [← hqq] at hq
  have hq40 : q ≤ 40 := by omega
  have HQ := veil hqq
  have HALL := veil hq
  have hpad := fun w' (hI' : Byt w.heap.size w' (.slice a l c) bs) (hn' : w.heap.size ≤ w'.heap.size) => padded_any a l c bs w.heap.size w' hI' hn' (by omega)
  have hpad2 := hpad _ (hI.below ((Below.refl _ w).alloc (Nat.le_refl _) (.cells (vals (zeros 25)) 23))) (by simp)
  rw [hq] at hpad2
  have HP := veil hpad2
  clear hpad hpad2 hq hqq
  refine callsIn_of_wp_marks Try.func19 rfl trivial ?_ rfl
  simp only [Try.ntmps19, List.size_toArray, List.length_cons, List.length_nil, Nat.reduceAdd, Nat.reduceSub, Array.replicate_succ, Array.replicate_zero, List.push_toArray, List.append_toArray, List.nil_append, List.cons_append]
  gi_wp2_with fail
  refine ⟨trivial, ?_⟩
  refine (callsIn_wide.2 HP.out).mono ?_
  rintro e w1 ⟨g, cp, rfl, ho1, hb1⟩
  obtain ⟨cur, r1, hgb, hLc, hcur⟩ := ho1.row
  have hs1 := hb1.size
  simp only [World.size_alloc] at hs1 hgb
  have b1 : Blk w1 w.heap.size 23 (vals (zeros 25)) := (Blk.new w 23 (vals (zeros 25))).below hb1 (by simp)
  have hB1 : Below w.heap.size w w1 := ((Below.refl _ w).alloc (Nat.le_refl _) _).trans (hb1.mono (by simp))
  have hpl := padL_len bs
  rw [HALL.out] at hpl
  rw [hpl] at hcur
  have HCUR := veil hcur
  clear ho1 hb1 HP hcur hpl
  gi_wp2_with fail
  refine ⟨trivial, ?_⟩
  refine (chunk_in Fence.wide (n - 1) trivial rfl _ _ _ _).mono ?_
  rintro e w2 ⟨rfl, hw2⟩
  obtain ⟨M, hM⟩ : ∃ M, M = w1.heap.size := ⟨_, rfl⟩
  rw [← hM] at hs1 ⊢
  have hMM := hM
  have b2 : Blk w2 w.heap.size 23 (vals (zeros 25)) := by rw [hw2]; exact (b1.alloc _).alloc _
  have r2 : Blk w2 g 5 cur := by rw [hw2]; exact (r1.alloc _).alloc _
  have bs2 : Blk w2 M 30 #[.slice (some ⟨g, 0, none⟩) (136 * q) cp] := by rw [hw2, hM]; exact heap_a2_0 _ _ _
  have bn2 : Blk w2 (M + 1) 3 #[.int .i64 136] := by rw [hw2, hM]; exact heap_a2_1 _ _ _
  have hB2 : Below w.heap.size w w2 := by rw [hw2]; exact (hB1.alloc (by omega) _).alloc (by simp; omega) _
  have hS2 : w2.heap.size = M + 2 := by rw [hw2, hM]; simp
  clear hw2 hM hMM b1 r1 hB1 hI
  gi_wp2_with fail
  refine wpIn_rangeFunc_ownF rfl h1 (gf := 55) (lb := #[.pointer (some ⟨M, 0, none⟩), .pointer (some ⟨M + 1, 0, none⟩)]) rfl trivial (enters_of Try.func55 (by kernel_rfl) rfl)
    (chunk_stops Fence.wide (n - 1) trivial rfl (by omega) M (M + 1) w.heap.size (w.heap.size + 1) g cp q hLc hq40 (by omega) (by omega) _ bs2 bn2) Kp.trans
    (fun W l o o' hl ho hc _ => Kp.book (by omega) W l o o' (by omega) ho hc) (Below.refl _ _) (fun _ => rfl)
    (fun pre W => (Blk W w.heap.size 23 (vals (absL bs (pre.map (·.1)))) ∧ Blk W g 5 cur) ∧ Below w.heap.size w W)
    (fun _ _ _ => False)
    (OwnFrom.and (Own.from (fun s A B row hs hg hr => ⟨Blk.own hs.1 hg hr, Blk.own hs.2 hg hr⟩) _) (ownFrom_below (by omega) (by omega)))
    (fun _ _ _ _ _ hs _ _ => hs)
    ⟨⟨by rw [List.map_nil, absL_nil]; exact b2, r2⟩, hB2⟩
    (fun x => { tmps := #[.slice a l c, undef, .string { data := #[] }, .pointer (some ⟨w.heap.size, 0, none⟩), .slice (some ⟨g, 136 * x.1, none⟩) 136 136, undef, undef, undef, undef, .slice a l c, .slice (some ⟨g, 0, none⟩) (136 * q) cp, .func (.func 55) #[] #[.pointer (some ⟨M, 0, none⟩), .pointer (some ⟨M + 1, 0, none⟩)], .slice (some ⟨g, 136 * x.1, none⟩) 136 136, undef, undef, undef, undef, undef, undef, undef, undef, undef, undef, undef, undef, undef, undef, undef, undef, undef, undef, undef, undef, undef, undef, undef, undef, undef, undef, undef, undef, undef, undef, undef, undef, undef, undef, undef, undef, undef, undef, undef, undef], defers := [] }) ?assign ?body ?done ?stop
  case assign =>
    intro l x W K hK
    gi_wp2
    exact hK
  case body =>
    rintro l pre x W ⟨⟨hs, hr⟩, hB⟩ _
    obtain ⟨s0, hs0⟩ : ∃ s0, s0 = absL bs (pre.map (·.1)) := ⟨_, rfl⟩
    have hl0 : s0.length = 25 := by rw [hs0]; exact absL_len _ _
    rw [← hs0] at hs
    have HS0 := veil hs0
    have HL0 := veil hl0
    clear hs0 hl0
    obtain ⟨f, hf⟩ : ∃ f, f = fun k => byteN bs (136 * x.1 + k) := ⟨_, rfl⟩
    have HF := veil hf
    have hxq := x.2
    obtain ⟨xi, hxi⟩ : ∃ xi, xi = 136 * x.1 := ⟨_, rfl⟩
    rw [← hxi]
    have HXI := veil hxi
    clear hxi hf
    gi_wp2_with fail
    gi_loopw [5] (fun iv wr => ∃ j : Nat, j ≤ 17 ∧ iv = .int .i64 ((8 * j : Nat) : Int) ∧ Blk wr w.heap.size 23 (vals (blkF s0 f (8 * j))) ∧ Kp w.heap.size (w.heap.size + 1) W wr ∧ KeepsOthers W wr) (fun iv _ => 136 - (intOf iv).toNat)
    case atStart => exact ⟨0, by omega, rfl, hs, Kp.refl _ _ _, KeepsOthers.refl _⟩
    case round =>
      obtain ⟨j, hj, rfl, hb, hk, ho⟩ := hrel
      by_cases hlt : j < 17
      · obtain ⟨i, hi⟩ : ∃ i, i = 8 * j := ⟨_, rfl⟩
        obtain ⟨X, hX⟩ : ∃ X, X = blkF s0 f (8 * j) := ⟨_, rfl⟩
        rw [← hX] at hb
        rw [← hi]
        have hi136 : i + 8 ≤ 136 := by omega
        have hii : (i : Int) + 8 ≤ 136 := by omega
        have hil : decide ((i : Int) < 136) = true := by simp; omega
        have hdiv : (i : Int) / 8 = (j : Int) := by omega
        have hj25 : (j : Int) < 25 := by omega
        have hwr : IntKind.i64.wrap ((i : Int) + 8) = (i : Int) + 8 := wrap_in (by omega) (by omega)
        have hwd : IntKind.i64.wrap ((i : Int).tdiv 8) = (j : Int) := by rw [Int.tdiv_eq_ediv_of_nonneg (by omega), hdiv]; exact wrap_in (by omega) (by omega)
        have hwj : IntKind.i64.wrap (j : Int) = (j : Int) := wrap_in (by omega) (by omega)
        have htd : (i : Int).tdiv 8 = (j : Int) := by rw [Int.tdiv_eq_ediv_of_nonneg (by omega), hdiv]
        have hc22 : wr.cell? ⟨w.heap.size, j, none⟩ = some (U (lane X j)) := by rw [hb.cell, vals_get _ _ (by rw [hX, blkF_len, HL0.out]; omega)]
        have hf22 := hb.frozen j
        have h8a : (0 : Int) ≤ (i : Int) + 8 := by omega
        have h8b : ((i : Int) + 8).toNat = i + 8 := by omega
        have h8d : ¬ 136 = i := by omega
        have hgr := hk.blk hgb hr
        have hxb : xi + i + 8 ≤ 136 * q := by have := HXI.out; omega
        have hnum := number_any (some ⟨g, xi + i, none⟩) 8 (136 - i) (eight bs (xi + i)) (w.heap.size + 1 + g) wr.drew
          (.inr ⟨g, xi + i, 136 - i, by rw [eight_len], by rw [eight_len]; omega, by omega, fun k hk => by
            rw [eight_len] at hk
            rw [eight_get _ _ _ hk]
            exact (hgr.cell (xi + i + k)).trans (HCUR.out _ (by omega))⟩) (by rw [eight_len]; exact Nat.le_refl _)
        obtain ⟨y, hy⟩ : ∃ y, y = numTo (fun k => f (8 * j + k)) 8 := ⟨_, rfl⟩
        rw [eight_len, HXI.out, hi, eight_num bs x.1 j f HF.out (by rw [HALL.out]; have := HXI.out; omega), ← hy, ← hi, ← HXI.out] at hnum
        have HY := veil hy
        have hxor := xor_bv (lane X j) y
        have HN := veil hnum
        clear hy hgr
        have HI := veil hi
        have HX := veil hX
        clear hi hX hnum
        gi_wp2_with fail
        refine wpIn_region_tail 12 (by kernel_rfl) (by kernel_rfl) (by kernel_rfl) ?_
        simp only [List.take_succ_cons, List.take_zero, List.drop_succ_cons, List.drop_zero]
        repeat (apply st_val; rfl; (go_simp; exact rfl); simp only [Act.put, List.setIfInBounds_toArray, List.set_cons_zero, List.set_cons_succ])
        refine st_call (U y) 43 #[.slice (some ⟨g, xi + i, none⟩) 8 (136 - i)] rfl ?_ HN.out ?_
        · go_simp
        simp only [Act.put, List.setIfInBounds_toArray, List.set_cons_zero, List.set_cons_succ]
        repeat (apply st_val; rfl; (go_simp; exact rfl); simp only [Act.put, List.setIfInBounds_toArray, List.set_cons_zero, List.set_cons_succ])
        refine wpStill_nil ?_
        gi_wp2_with fail
        have hset : Blk ((wr.setCell ⟨w.heap.size, j, none⟩ (.int .u64 (((lane X j).toNat ^^^ y.toNat : Nat) : Int))).drew) w.heap.size 23 (vals (blkF s0 f (8 * (j + 1)))) := by
          have e : (((lane X j).toNat ^^^ y.toNat : Nat) : Int) = ((lane X j ^^^ y).toNat : Int) := by rw [BitVec.toNat_xor]
          rw [e, blk_word s0 f (fun k => by rw [HF.out]; exact byteN_lt _ _) j (by rw [HL0.out]; omega), ← HX.out, ← HY.out, ← vals_set]
          exact hb.set_ j _
        have hk2 := (hk.setCell (p := ⟨w.heap.size, j, none⟩) (Nat.le_refl _) (by show w.heap.size < _; omega) (.int .u64 (((lane X j).toNat ^^^ y.toNat : Nat) : Int))).drew
        have ho2 := (ho.trans (KeepsOthers.setCell wr ⟨w.heap.size, j, none⟩ (.int .u64 (((lane X j).toNat ^^^ y.toNat : Nat) : Int)))).trans (KeepsOthers.drew _)
        go_roundw
        case rel => exact ⟨j + 1, by omega, by rw [HI.out]; go_num, hset, hk2, ho2⟩
        case measure => simp [intOf]; omega
      · have hj17 : j = 17 := by omega
        subst hj17
        obtain ⟨X, hX⟩ : ∃ X, X = blkF s0 f 136 := ⟨_, rfl⟩
        have hXl : X.length = 25 := by rw [hX, blkF_len]; exact HL0.out
        have hperm : permF X = absL bs ((pre ++ [x]).map (·.1)) := by rw [List.map_append, List.map_cons, List.map_nil, absL_snoc, ← HS0.out, ← HF.out, hX]
        change Blk wr w.heap.size 23 (vals (blkF s0 f 136)) at hb
        rw [← hX] at hb
        have HX := veil hX
        have HXL := veil hXl
        have HPM := veil hperm
        have hr' := hk.blk hgb hr
        have hB' : Below w.heap.size w wr := hB.trans hk.1
        clear hX hXl hperm hs hr hB
        gi_wp2_with ((with_reducible refine ld25_in (o := ⟨some 31, _, _, _, _, _⟩) ?_ (.tmp 3) ?_ w.heap.size ?_ X HXL.out hb ?_); rfl; rfl; rfl; simp only [Act.put, List.setIfInBounds_toArray, List.set_cons_zero, List.set_cons_succ])
        refine ⟨trivial, fun h => (by cases h), ?_⟩
        refine (CallsIn.inRound l (callsIn_wide.2 (permute_any X HXL.out wr))).mono ?_
        rintro e w4 ⟨rfl, hb4⟩
        have hb5 : Blk w4 w.heap.size 23 (vals X) := hb.below hb4 hb.lt
        have hr5 : Blk w4 g 5 cur := hr'.below hb4 hr'.lt
        have hB5 := hB'.trans (hb4.mono hB'.size)
        have hk5 := hk.trans (Kp.of_below (n₁ := w.heap.size + 1) hb4 hB'.size)
        have ho5 := ho.trans (keeps_below hb4)
        clear hb4 hB' hk ho hb hr'
        gi_wp2_with ((with_reducible refine st25_in (o := ⟨none, .store _ (.tmp 3) _, _, _, _, _⟩) ?_ (.tmp 3) (.tmp 32) ?_ w.heap.size ?_ (permF X) X (permF_len _) HXL.out ?_ hb5 ?_); rfl; rfl; rfl; rfl; simp only [Act.put])
        refine ⟨ho5.trans (keeps_setRow hb5 _), hk5.setRow (Nat.le_refl _) (by omega) _, ⟨?_, hr5.setRow_far _ (by omega)⟩, Below.setRow_ hB5 (Nat.le_refl _) _⟩
        rw [← HPM.out]
        exact hb5.setRow_same _
  case done =>
    rintro D ys W hD hys ⟨⟨hs, hr⟩, hB⟩ hK
    obtain ⟨S, hS⟩ : ∃ S, S = absC bs q := ⟨_, rfl⟩
    rw [hys, absL_range, ← hS] at hs
    have hSl : S.length = 25 := by rw [hS]; exact absC_len _ _
    have hdig : digF bs = outTo S 32 := by rw [digF_eq, ← HQ.out, ← hS]
    have HD := veil hdig
    have HSL := veil hSl
    have HKD := veil hK
    clear hS hSl hdig hys hr hK b2 r2 bs2 bn2 hB2
    gi_wp2_with fail
    refine wpIn_wide.2 ?_
    go_loopw [6, 33] (fun v iv wr => ∃ i : Nat, i ≤ 4 ∧ iv = .int .i64 i ∧ OwnB wr (w.heap.size + 1) v (outTo S (8 * i)) ∧ Blk wr w.heap.size 23 (vals S) ∧ wr.heap[D]? = some (.deferred (some [])) ∧ Below w.heap.size w wr) (fun _ iv _ => 4 - (intOf iv).toNat)
    case atStart => exact ⟨0, by omega, rfl, by rw [Nat.mul_zero, outTo_zero]; exact OwnB.nil _ _, hs, HKD.out, hB⟩
    case round =>
      obtain ⟨i, hi, rfl, how, hb, hd, hBr⟩ := hrel
      by_cases hlt : i < 4
      · obtain ⟨wo, hwo⟩ : ∃ wo : World, wo = wr := ⟨_, rfl⟩
        subst hwo
        have HD1 := veil hd
        clear hd
        go_wp2_with fail
        go_loopw [6, 36] (fun v kv wx => ∃ k : Nat, k ≤ 8 ∧ kv = .int .i64 k ∧ OwnB wx (w.heap.size + 1) v (outTo S (8 * i + k)) ∧ Blk wx w.heap.size 23 (vals S) ∧ wx.heap[D]? = some (.deferred (some [])) ∧ Below w.heap.size w wx) (fun _ kv _ => 8 - (intOf kv).toNat)
        case atStart => exact ⟨0, by omega, rfl, how, hb, HD1.out, hBr⟩
        case round =>
          obtain ⟨k, hk, rfl, how2, hb2, hd2, hB2⟩ := hrel
          by_cases hlk : k < 8
          · have hci : wr.cell? ⟨w.heap.size, i, none⟩ = some (U (lane S i)) := by rw [hb2.cell, vals_get _ _ (by rw [HSL.out]; omega)]
            have hval := outB_num S i k hlk
            have HOS := veil (outTo_succ S (8 * i + k))
            have hom := outTo_len S (8 * i + k)
            obtain ⟨b, hbb⟩ : ∃ b, b = outB S (8 * i + k) := ⟨_, rfl⟩
            obtain ⟨out, hout⟩ : ∃ out, out = outTo S (8 * i + k) := ⟨_, rfl⟩
            rw [← hbb] at hval HOS
            rw [← hout] at how2 hom HOS
            have how3 := how2.alloc (.cells #[.int .u8 (((lane S i).toNat : Int) / 2 ^ (8 * k) % 256)] 5)
            have hb3 := hb2.alloc (.cells #[.int .u8 (((lane S i).toNat : Int) / 2 ^ (8 * k) % 256)] 5)
            have hB3 := hB2.alloc hB2.size (.cells #[.int .u8 (((lane S i).toNat : Int) / 2 ^ (8 * k) % 256)] 5)
            have hd3 : (wr.alloc (.cells #[.int .u8 (((lane S i).toNat : Int) / 2 ^ (8 * k) % 256)] 5)).heap[D]? = some (.deferred (some [])) := by
              rw [Below.heap_alloc _ _ _ (Array.getElem?_eq_some_iff.1 hd2).1]; exact hd2
            have hnew : ∀ j, j < [b].length → (wr.alloc (.cells #[.int .u8 (((lane S i).toNat : Int) / 2 ^ (8 * k) % 256)] 5)).cell? ((⟨wr.heap.size, 0, none⟩ : Addr).add j) = some (B8 ([b].getD j 0)) := by
              intro j hj
              have : j = 0 := by simpa using hj
              subst this
              have := cell_of_row _ wr.heap.size 0 #[.int .u8 (((lane S i).toNat : Int) / 2 ^ (8 * k) % 256)] 5 (0, 0) (heap_alloc_new wr _)
              rw [hval] at this ⊢
              exact this
            have HO := veil how3
            have HB3 := veil hb3
            have HD3 := veil hd3
            have HN := veil hnew
            have hsz : w.heap.size + 1 ≤ wr.heap.size := by have := hb2.lt; omega
            have HOM := veil hom
            clear how2 how3 hb2 hb3 hd2 hd3 hnew hval hbb hout hB2 hom
            go_wp2_with ((with_reducible refine app_own (o := ⟨some 48, _, _, _, _, _⟩) ?_ (.tmp 39) (.tmp 47) ?_ (w.heap.size + 1) _ out ?_ HO.out ⟨wr.heap.size, 0, none⟩ 1 [b] ?_ HN.out ?_ ?_ ?_); rfl; rfl; rfl; rfl; (have := HOM.out; simp; omega); (simp; omega); rintro v' w' h' hg'; simp only [Act.put, List.setIfInBounds_toArray, List.set_cons_zero, List.set_cons_succ])
            have hb4 : Blk w' w.heap.size 23 (vals S) := HB3.out.grown hg' (fun e => by have := (HO.out.lt _ e.symm).1; omega)
            have hd4 : w'.heap[D]? = some (.deferred (some [])) := by
              rw [hg'.block D (Array.getElem?_eq_some_iff.1 HD3.out).1 (HO.out.apart HD3.out rfl)]; exact HD3.out
            have hB4 : Below w.heap.size w w' := hB3.grown hg' hB3.size (fun k e => by have := (HO.out.lt _ e).1; omega)
            go_roundw
            case rel => exact ⟨k + 1, by omega, by go_num, by rw [show 8 * i + (k + 1) = 8 * i + k + 1 from rfl, HOS.out]; exact h', hb4, hd4, hB4⟩
            case measure => simp [intOf]; omega
          · have hk8 : k = 8 := by omega
            subst hk8
            have HD2 := veil hd2
            clear hd2 hlk hk
            go_wp2_with fail
            go_roundw
            case rel => exact ⟨i + 1, by omega, by go_num, by rw [show 8 * (i + 1) = 8 * i + 8 from rfl]; exact how2, hb2, HD2.out, hB2⟩
            case measure => simp [intOf]; omega
      · have hi4 : i = 4 := by omega
        subst hi4
        change OwnB wr (w.heap.size + 1) _ (outTo S 32) at how
        have hcv := how.str (by rw [outTo_len]; omega)
        rw [← HD.out] at hcv
        have HDD := veil hd
        clear hd hlt hi how
        go_wp2_with fail
        gi_wp2
        refine ⟨by simp, .inl ⟨_, _, rfl, run_takeDeferred HDD.out, ?_⟩⟩
        exact ⟨_, results_tmp rfl _ _ _, rfl, hBr.trans (belowK_b (w := w) (Nat.le_refl _) wr D _ _ (by omega) HDD.out rfl rfl)⟩
  case stop =>
    rintro D c pre W _ _ h _
    exact h.elim

/-- dig.Of -/
theorem of_any (a : Option Addr) (l c : Nat) (bs : List UInt8) (w : World) (hI : Byt w.heap.size w (.slice a l c) bs) (hm : bs.length ≤ 1000) :
    Calls Try.prog 19 #[.slice a l c] w fun e W' => e = .returned (.string ⟨(digF bs).toArray⟩) ∧ Below w.heap.size w W' :=
  (callsIn_wide (n := 3)).1 (of_in 3 (by omega) a l c bs w hI hm)

end Go.Proofs.Ytfohblhaiflaeaa
