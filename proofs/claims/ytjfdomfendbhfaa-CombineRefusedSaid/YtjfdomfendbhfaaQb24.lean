/- Part 24 of the proof: PDfa. -/
import Derived.Test.YtjfdomfendbhfaaQb23
set_option linter.unusedVariables false
set_option linter.unusedSimpArgs false
namespace Go.Proofs.Ytjfdomfendbhfaa
open Go.RowKit
def xE (bs : List ByteArray) (letters : Int) : DfaV := if patW bs letters = 0 then minD (patD letters.toNat (bs.map zK)) letters.toNat else zeroD
def nthL (bs : List ByteArray) (i : Nat) : List Nat := zK (bs.getD i ⟨#[]⟩)
def rT (bs : List ByteArray) : List (List Nat) := ((bs.map zK).drop 1).dropLast
theorem pL (bs : List ByteArray) : (rT bs).length = bs.length - 1 - 1 := by simp [rT]
theorem midsL_get {bs : List ByteArray} {i : Nat} (h : i < bs.length - 1 - 1) : (rT bs).getD i [] = nthL bs (1 + i) := by
 rw [zI (by rw [pL]; exact h), nthL, zI (show 1 + i < bs.length by omega)]
 simp [rT, Nat.add_comm]
theorem rows_one {k : Nat} {bs : List ByteArray} (h : bs.length = 1) : xT k (bs.map zK) = [List.replicate k 0] ++ rB k (nthL bs 0) (nthL bs 0).length ++ [List.replicate k 0] := by
 match bs, h with
 | [b], _ => rfl
theorem rows_more {k : Nat} {bs : List ByteArray} (h : 2 ≤ bs.length) : xT k (bs.map zK) = [List.replicate k 0] ++ rB k (nthL bs 0) (nthL bs 0).length ++ midN k (1 + (nthL bs 0).length) (rT bs) ++ sufN k (1 + (nthL bs 0).length + yM (rT bs)) (nthL bs (bs.length - 1)) := by
 match bs, h with
 | b :: c :: rest, _ =>
  have e : ((c :: rest).map zK).getLastD [] = nthL (b :: c :: rest) ((b :: c :: rest).length - 1) := by
   rw [List.getLastD_eq_getLast?, List.getLast?_eq_getElem?, nthL]
   simp only [List.length_map, List.length_cons, List.getElem?_map]
   rw [show rest.length + 1 + 1 - 1 = rest.length + 1 by omega, show rest.length + 1 - 1 = rest.length by omega]
   have h2 : rest.length < (c :: rest).length := by simp
   rw [List.getElem?_eq_getElem h2, zI (show rest.length + 1 < (b :: c :: rest).length by simp)]
   rfl
  show [List.replicate k 0] ++ rB k (zK b) (zK b).length ++ midN k (1 + (zK b).length) ((c :: rest).map zK).dropLast ++ sufN k (1 + (zK b).length + yM ((c :: rest).map zK).dropLast) (((c :: rest).map zK).getLastD []) = _
  rw [e]; rfl
theorem mids_sum {bs : List ByteArray} (i : Nat) : yM ((rT bs).take i) + (nthL bs 0).length ≤ sZ bs := by
 rw [tG]
 have h1 := rU (rT bs) i
 match bs with
 | [] => simp [rT, yM, nthL, zK] at h1 ⊢
 | b :: rest =>
  have h2 : yM (rT (b :: rest)) ≤ yM (rest.map zK) := by
   show yM (rest.map zK).dropLast ≤ _
   rw [List.dropLast_eq_take]; exact rU _ _
  rw [List.map_cons, uZ]
  show _ + (zK b).length ≤ _
  omega
theorem BB.mat {W0 W : World} {bb k : Nat} {t : List (List Nat)} {gs : List Nat} {sn : Option Addr} {cn : Nat} (h : BB W0 W bb k t gs sn cn) (hk : k ≤ maxLen) : Mat W.heap.size W (.slice sn t.length cn) (t.map zl) := by
 refine Mat.of_rows (B := W.heap.size) h.own ⟨by rw [List.length_map, List.length_map, h.len], fun i h1 h2 => ?_⟩ (Nat.le_refl _)
 have hi : i < t.length := by simpa using h2
 have hg : i < gs.length := by rw [h.len]; exact hi
 obtain ⟨ha, hl⟩ := h.row i hi
 have := (RowX.of_arr (X := fun _ => True) ha (by rw [yF]; exact hl) hk trivial).1
 rw [zI hg, zI hi] at this
 simp only [List.getElem_map]
 have e : ints (zl t[i]) = nats t[i] := by simp [ints, zl, nats]
 rw [e]
 exact this
structure NewD (wo W : World) (T F k RL : Nat) (sn : Option Addr) (cn : Nat) : Prop where
 box : W.heap[T]? = some (.cells #[.int .i64 (k : Int), .int .i64 1, .slice (some ⟨F, 0, none⟩) RL RL, .slice sn RL cn] 42 (0, 0))
 arr : Arr W F 4 (bls (List.replicate RL false))
 grown : wo.grownBy W none
 lo : wo.heap.size ≤ T ∧ wo.heap.size ≤ F
theorem newD1 (wo : World) (k RL : Nat) (sn : Option Addr) (cn : Nat) : NewD wo (((wo.alloc (.cells (madeCells #[.bool false] RL) 4)).alloc (.cells #[.int .i64 (k : Int), .int .i64 1, .slice (some ⟨wo.heap.size, 0, none⟩) RL RL, .slice sn RL cn] 42)).drew) (wo.heap.size + 1) wo.heap.size k RL sn cn := by
 have a1 := Arr.new wo 4 (madeCells #[.bool false] RL)
 rw [made_bool] at a1
 exact ⟨pZ wo _ _, (a1.kept (World.grownBy_alloc _ (.cells #[.int .i64 (k : Int), .int .i64 1, .slice (some ⟨wo.heap.size, 0, none⟩) RL RL, .slice sn RL cn] 42) none) (by simp)).of_heap rfl, zA (vG (World.grownBy_alloc wo _ none) _) (zP _ none) (by simp), by omega⟩
theorem newD2 (wo : World) (k RL : Nat) (sn : Option Addr) (cn : Nat) : NewD wo (((wo.alloc (.cells #[.int .i64 (k : Int), .int .i64 1, .slice (some ⟨wo.heap.size + 1, 0, none⟩) RL RL, .slice sn RL cn] 42)).alloc (.cells (madeCells #[.bool false] RL) 4)).drew) wo.heap.size (wo.heap.size + 1) k RL sn cn := by
 have a1 := Arr.new (wo.alloc (.cells #[.int .i64 (k : Int), .int .i64 1, .slice (some ⟨wo.heap.size + 1, 0, none⟩) RL RL, .slice sn RL cn] 42)) 4 (madeCells #[.bool false] RL)
 rw [made_bool, zJ] at a1
 exact ⟨oE wo _ _, a1.of_heap rfl, zA (vG (World.grownBy_alloc wo _ none) _) (zP _ none) (by simp), by omega⟩
theorem mA {W0 W : World} {bb k F RL : Nat} {bs : List ByteArray} {gs : List Nat} {sn : Option Addr} {cn : Nat} (h : BB W0 W bb k (xT k (bs.map zK)) gs sn cn) (hk : k ≤ 6) (hR : RL = (xT k (bs.map zK)).length) (h0 : 0 < RL) (ha : Arr W F 4 (bls ((List.replicate RL false).set (RL - 1) true))) (hRm : RL ≤ maxLen) :
  sC W.heap.size W (.agg #[.int .i64 (k : Int), .int .i64 1, .slice (some ⟨F, 0, none⟩) RL RL, .slice sn RL cn]) (patD k (bs.map zK)) := by
 have hm := h.mat (by unfold maxLen; omega)
 rw [pat_map, ← hR] at hm
 have hl : (uP k (bs.map zK)).length = RL := by rw [← pat_map, List.length_map, hR]
 have hf : (List.replicate RL false).set (RL - 1) true = (patD k (bs.map zK)).final := by
  show _ = List.replicate ((uP k (bs.map zK)).length - 1) false ++ [true]
  rw [hl]
  obtain ⟨r, rfl⟩ : ∃ r, RL = r + 1 := ⟨RL - 1, by omega⟩
  rw [List.replicate_succ', List.set_append_right _ _ (by simp)]
  simp
 refine ⟨_, _, rfl, ?_, hm⟩
 rw [← hf]
 have := (RowX.of_arr (X := fun _ => True) ha (by rw [xQ, List.length_set, List.length_replicate]) hRm trivial).1
 exact this.row
theorem mU {k : Nat} {bs : List ByteArray} (hk1 : 1 ≤ k) (hk6 : k ≤ 6) (h0 : 0 < bs.length) (ht : sZ bs ≤ 64) : VD (patD k (bs.map zK)) (xT k (bs.map zK)).length k := by
 match bs, h0 with
 | b :: rest, _ =>
  rw [tG, List.map_cons, uZ] at ht
  rw [List.map_cons, pI]
  exact pat_vd hk1 hk6 ht
set_option maxRecDepth 100000 in
set_option maxHeartbeats 2000000 in
theorem pdfa_anyT (B : Nat) (w : World) (v : Value) (bs : List ByteArray) (letters : Int) (h : Row B w v (txtV bs)) (hB : B ≤ w.heap.size) (hs : ∀ i (hi : i < bs.length), bs[i].size ≤ maxLen) :
  Calls Try.prog 83 #[.agg #[v], .int .i64 letters] w (DfaErrT w (patW bs letters) (xE bs letters)) := by
 have H := Kh h; have HS := Kh hs
 obtain ⟨a, cap, rfl⟩ := h.shape
 rw [yA] at H ⊢
 obtain ⟨hb1, hb2, hgA, hzA⟩ : ((w.alloc (.cells #[.slice a bs.length cap] 28)).alloc (.cells #[.int .i64 0, .int .i64 0, .slice none 0 0, .slice none 0 0] 42)).heap[w.heap.size]? = some (.cells #[.slice a bs.length cap] 28 (0, 0)) ∧ ((w.alloc (.cells #[.slice a bs.length cap] 28)).alloc (.cells #[.int .i64 0, .int .i64 0, .slice none 0 0, .slice none 0 0] 42)).heap[w.heap.size + 1]? = some (.cells #[.int .i64 0, .int .i64 0, .slice none 0 0, .slice none 0 0] 42 (0, 0)) ∧ w.grownBy ((w.alloc (.cells #[.slice a bs.length cap] 28)).alloc (.cells #[.int .i64 0, .int .i64 0, .slice none 0 0, .slice none 0 0] 42)) none ∧ ((w.alloc (.cells #[.slice a bs.length cap] 28)).alloc (.cells #[.int .i64 0, .int .i64 0, .slice none 0 0, .slice none 0 0] 42)).heap.size = w.heap.size + 2 :=
  ⟨oE w _ _, pZ w _ _, vG (World.grownBy_alloc w _ none) _, by rw [zJ, zJ]⟩
 obtain ⟨wA, hWA⟩ : ∃ wA, wA = (w.alloc (.cells #[.slice a bs.length cap] 28)).alloc (.cells #[.int .i64 0, .int .i64 0, .slice none 0 0, .slice none 0 0] 42) := ⟨_, rfl⟩
 rw [← hWA] at hb1 hb2 hgA hzA
 obtain ⟨P, hP⟩ : ∃ P, P = w.heap.size := ⟨_, rfl⟩
 obtain ⟨Q, hQ⟩ : ∃ Q, Q = w.heap.size + 1 := ⟨_, rfl⟩
 have HPE := Kh hP; have HQE : Hid (Q = P + 1) := Kh (by omega)
 have hPQ : P < Q := by omega
 have hQw : Q < wA.heap.size := by omega
 have hPw : w.heap.size ≤ P := by omega
 rw [← hQ] at hb2
 rw [← hP] at hb1 hB
 have c0 : wA.cell? ⟨P, 0, none⟩ = some (.slice a bs.length cap) := by simpa using zO hb1 0 (by simp)
 have HB1 := Kh hb1; have HB2 := Kh hb2; have HGA := Kh hgA; have HWA := Kh hWA
 have HVA := Kh (nY B wA _ bs letters (H.out.kept hgA (by simp)) hs)
 rw [show Row B w (.slice a bs.length cap) (txtV bs) = Row B w (.slice a bs.length cap) (txtV bs) from rfl] at H
 clear hb1 hb2 hgA hWA h hs hP hQ hzA
 go_enter Try.func83, Try.ntmps83
 go_upto_region 1 with fail
 rw [← HWA.out, ← HPE.out, ← HQE.out]
 go_wp2_with fail
 refine HVA.out.mono ?_
 rintro e w1 ⟨rfl, hg1⟩
 have hz1 := hg1.size
 have HG1 := Kh (zA HGA.out hg1 (by simp))
 have HB11 := Kh (zB HB1.out hg1 (by simp)); have HB21 := Kh (zB HB2.out hg1 (by simp))
 have q1 := zG HB21.out
 have f0 := zE HB21.out 0
 have f1 := zE HB21.out 1
 have f2 := zE HB21.out 2
 have f3 := zE HB21.out 3
 clear hg1 HVA c0
 by_cases hE : patW bs letters = 0
 case neg =>
  have HD : Hid (xE bs letters = zeroD) := Kh (if_neg hE)
  obtain ⟨E, hEE⟩ : ∃ E, E = patW bs letters := ⟨_, rfl⟩
  rw [← hEE] at hE ⊢
  have e1 : (E != 0) = true := by rw [bne_iff_ne]; exact hE
  obtain ⟨q0, q1, q2, q3⟩ := q1
  have HEE := Kh hEE
  clear hE hEE
  go_wp2
  obtain ⟨hbz, hgz⟩ := vD HB21.out (.int .i64 0) (.int .i64 0) (.slice none 0 0) (.slice none 0 0)
  obtain ⟨wz, hwz⟩ : ∃ wz, wz = (((w1.setCell ⟨Q, 0, none⟩ (.int .i64 0)).setCell ⟨Q, 1, none⟩ (.int .i64 0)).setCell ⟨Q, 2, none⟩ (.slice none 0 0)).setCell ⟨Q, 3, none⟩ (.slice none 0 0) := ⟨_, rfl⟩
  rw [← hwz] at hbz hgz ⊢
  clear hwz
  obtain ⟨r0, r1, r2, r3⟩ := zG hbz
  clear q0 q1 q2 q3 f0 f1 f2 f3
  refine bodyPost_ret (v := .tuple #[.agg #[.int .i64 0, .int .i64 0, .slice none 0 0, .slice none 0 0], .int .i64 E]) (by simp [results, Try.results83, go_sem, r0, r1, r2, r3]) rfl ?_
  exact ⟨_, _, by rw [HEE.out, HD.out]; rfl, by rw [HD.out]; exact DfaT.zero _, zA HG1.out hgz (fun k e => by have h7 : Q = k := Option.some.inj e; omega)⟩
 rw [hE]
 clear q1 f0 f1 f2 f3
 obtain ⟨hk1, hk6, hn0, hn8, htot, hwv, hne⟩ := patOk (wO.1 hE)
 obtain ⟨k, hk⟩ : ∃ k : Nat, letters = (k : Int) := ⟨letters.toNat, by omega⟩
 have HD : Hid (xE bs letters = minD (patD k (bs.map zK)) k) := Kh (by
  rw [xE, if_pos hE, hk, Int.toNat_natCast])
 subst hk
 have hk1 : 1 ≤ k := by omega
 have hk6 : k ≤ 6 := by omega
 obtain ⟨b, off, _, ea, hbB, hbc, hbm, hra⟩ := H.out.some_ (by rw [yA]; exact hn0)
 rw [yA] at ea hbc
 simp only [Value.slice.injEq] at ea
 obtain ⟨rfl, _, rfl⟩ := ea
 have hcm : cap ≤ 9223372036854775807 := by unfold maxLen at hbm; omega
 have HSTR : Hid (∀ W : World, w1.grownBy W none → ∀ i, i < bs.length → W.cell? ⟨b, off + i, none⟩ = some (.string (bs.getD i ⟨#[]⟩))) := Kh (fun W hg i hi => uH ((hra.kept HG1.out (by simp)).kept hg (by simp)) i hi)
 have HWV : Hid (∀ i, i < bs.length → zU (bs.getD i ⟨#[]⟩) (k : Int) = true ∧ (bs.getD i ⟨#[]⟩).size ≤ 64) := Kh (fun i hi => by
  rw [zI hi]; exact ⟨hwv i hi, by have := total_get hi; omega⟩)
 have HNE : Hid (∀ i, i < bs.length → 0 < i → i + 1 < bs.length → 0 < (bs.getD i ⟨#[]⟩).size) := Kh (fun i hi h0 h1 => by rw [zI hi]; exact hne i hi h0 h1)
 have HE := Kh hE
 clear hE hwv hne hra hbm
 have HPC : Hid (∀ W : World, w1.grownBy W none → W.cell? ⟨P, 0, none⟩ = some (.slice (some ⟨b, off, none⟩) bs.length cap)) := Kh (fun W hg => by simpa using zO (zB HB11.out hg (by simp)) 0 (by simp))
 obtain ⟨bb, hbb⟩ : ∃ bb, bb = w1.heap.size := ⟨_, rfl⟩
 obtain ⟨w2, hw2⟩ : ∃ w2, w2 = w1.alloc (.cells #[.int .i64 (k : Int), .slice none 0 0] 162) := ⟨_, rfl⟩
 have hg2 := World.grownBy_alloc w1 (.cells #[.int .i64 (k : Int), .slice none 0 0] 162) none
 have hb2 := heap_alloc_new w1 (.cells #[.int .i64 (k : Int), .slice none 0 0] 162)
 rw [← hw2] at hg2 hb2
 rw [← hbb] at hb2
 have HBB0 : Hid (BB w1 w2 bb k [] [] none 0) := Kh (BB.start hb2 (by omega) hg2)
 have HW2 := Kh hw2; have HBE := Kh hbb
 clear hg2 hb2 hw2 hbb
 have hQb : Q < bb := by have := HBE.out; omega
 go_upto_region 5 with fail
 rw [← HW2.out, ← HBE.out]
 go_wp2_with fail
 refine (qZ w1 w2 bb k [] [] none 0 0 HBB0.out hk1 hk6 (by simp)).mono ?_
 rintro e w3 ⟨g0, sn3, cn3, rfl, hb3⟩
 have p3 := HPC.out _ hb3.grown
 have s3 := HSTR.out _ hb3.grown 0 hn0
 rw [Nat.add_zero] at s3
 obtain ⟨u0, hu0⟩ : ∃ u, u = bs.getD 0 ⟨#[]⟩ := ⟨_, rfl⟩
 rw [← hu0] at s3
 have HU0 := Kh hu0
 have HB3 := Kh hb3
 clear hu0 hb3 HBB0
 go_wp2_with fail
 have hw0 := HWV.out 0 hn0
 rw [← HU0.out] at hw0
 refine (bprefix_any w1 w3 bb k _ _ sn3 cn3 u0 HB3.out (by simp) hk1 hk6 hw0.1 hw0.2).mono ?_
 rintro e w4 ⟨gs4, sn4, cn4, rfl, hb4⟩
 have e4 : [] ++ [List.replicate k 0] ++ rB k (zK u0) u0.size = [List.replicate k 0] ++ rB k (nthL bs 0) (nthL bs 0).length := by
  rw [nthL, ← HU0.out, yP]; rfl
 rw [e4] at hb4
 have p4 := HPC.out _ hb4.grown
 have HB4 := Kh hb4
 have HG4 := Kh hb4.grown
 clear hb4 e4 p3 s3 hw0 HB3
 by_cases h1 : bs.length = 1
 ·have h1' : ((bs.length : Int) - 1 == 0) = true := by simp [h1]
  have H1 := Kh h1
  clear h1
  go_wp2_with fail
  refine (qZ w1 w4 bb k _ gs4 sn4 cn4 0 HB4.out hk1 hk6 (by
   have h9 := (HWV.out 0 hn0).2
   have e9 : ([List.replicate k 0] ++ rB k (nthL bs 0) (nthL bs 0).length).length = 1 + (bs.getD 0 ⟨#[]⟩).size := by simp [rB, nthL, yP]; omega
   omega)).mono ?_
  rintro e w5 ⟨g5, sn5, cn5, rfl, hb5⟩
  have er : [List.replicate k 0] ++ rB k (nthL bs 0) (nthL bs 0).length ++ [List.replicate k 0] = xT k (bs.map zK) := (rows_one H1.out).symm
  rw [er] at hb5
  obtain ⟨gs5, hgs5⟩ : ∃ l, l = gs4 ++ [g5] := ⟨_, rfl⟩
  rw [← hgs5] at hb5
  have HBF := Kh hb5
  clear hb5 er HB4 hgs5
  obtain ⟨c50, c51, c5f⟩ := HBF.out.cells
  have hrl := pJ (k := k) hn0 htot
  obtain ⟨RL, hRL⟩ : ∃ RL, RL = (xT k (bs.map zK)).length := ⟨_, rfl⟩
  rw [← hRL] at c51 hrl
  have HRL := Kh hRL
  have hmk := mk_bool RL (by omega)
  have hbz := zN HBF.out.box
  obtain ⟨wo, rfl⟩ : ∃ wo : World, wo = w5 := ⟨_, rfl⟩
  clear hRL
  go_wp2_with fail
  go_region
  ·obtain ⟨w7, hw7⟩ : ∃ w7, w7 = ((wo.alloc (.cells (madeCells #[.bool false] RL) 4)).alloc (.cells #[.int .i64 (k : Int), .int .i64 1, .slice (some ⟨wo.heap.size, 0, none⟩) RL RL, .slice sn5 RL cn5] 42)).drew := ⟨_, rfl⟩
   have hnd := newD1 wo k RL sn5 cn5
   rw [← hw7] at hnd ⊢
   obtain ⟨T, hT⟩ : ∃ T, T = wo.heap.size + 1 := ⟨_, rfl⟩
   obtain ⟨F, hF⟩ : ∃ F, F = wo.heap.size := ⟨_, rfl⟩
   rw [← hT] at hnd ⊢
   rw [← hF] at hnd ⊢
   have hTF : T ≠ F := by omega
   clear hT hF
   have HND := Kh hnd
   have HW7 := Kh hw7
   clear hnd hw7 c50 c51 c5f hmk
   have HB7 := Kh (HBF.out.grow HND.out.grown)
   obtain ⟨b70, b71, b7f⟩ := HB7.out.cells
   rw [← HRL.out] at b71
   obtain ⟨t70, t71, t72, t73⟩ := zG HND.out.box
   obtain ⟨R1, hR1⟩ : ∃ R1, R1 = RL - 1 := ⟨_, rfl⟩
   have e71 : (RL : Int) - 1 = (R1 : Int) := by omega
   have e72 : IntKind.i64.wrap ((RL : Int) - 1) = (R1 : Int) := by rw [e71]; exact tV (by omega)
   have hR1l : R1 < RL := by omega
   have hR1l' : (R1 : Int) < RL := by omega
   have cF := HND.out.arr.bool R1 (by rw [List.length_replicate]; exact hR1l)
   have fF := HND.out.arr.frozen R1
   have hfl : (bls (List.replicate RL false)).length = RL := by rw [xQ, List.length_replicate]
   have HR1 := Kh hR1
   clear hR1
   go_wp2_with fail
   go_region
   obtain ⟨w8, hw8⟩ : ∃ w8, w8 = (w7.setCell ⟨F, R1, none⟩ (.bool true)).drew := ⟨_, rfl⟩
   have hg8 : w7.grownBy w8 (some F) := by rw [hw8]; exact zA (zD w7 ⟨F, R1, none⟩ _) (zP _ none) (by simp)
   have ha8 : Arr w8 F 4 (bls ((List.replicate RL false).set (RL - 1) true)) := by
    rw [hw8, ← HR1.out]
    exact (HND.out.arr.bool_set R1 (by rw [List.length_replicate]; exact hR1l) true).of_heap rfl
   have hFi : w7.heap.size ≤ w8.heap.size := hg8.size
   obtain ⟨cF8, rF8, hcF8, _⟩ := HND.out.arr
   have hbF : BB w1 w8 bb k (xT k (bs.map zK)) gs5 sn5 cn5 := by
    refine ⟨zB HB7.out.box hg8 ?_, HB7.out.own.kept hg8 (.inr (zS HB7.out.own hcF8 (by decide))), HB7.out.len, fun i hi => ⟨(HB7.out.row i hi).1.kept hg8 ?_, (HB7.out.row i hi).2⟩, HB7.out.nd, HB7.out.lo, HB7.out.glo, zA HB7.out.grown hg8 (fun q e => ?_)⟩
    ·intro e
     have e := Option.some.inj e
     rw [e, HB7.out.box] at hcF8
     simp only [Option.some.injEq, Obj.cells.injEq] at hcF8
     exact absurd hcF8.2.1 (by decide)
    ·intro e
     have e := Option.some.inj e
     obtain ⟨cu, rs, hcu, _⟩ := (HB7.out.row i hi).1
     rw [← e, hcF8] at hcu
     simp only [Option.some.injEq, Obj.cells.injEq] at hcu
     exact absurd hcu.2.1 (by decide)
    ·have e : F = q := Option.some.inj e
     have := HND.out.lo
     have := HBF.out.grown.size
     omega
   have hdok := mA hbF hk6 HRL.out (by omega) ha8 (by unfold maxLen; omega)
   have hvd := mU hk1 hk6 hn0 htot
   rw [← HRL.out] at hvd
   have HMI := Kh (nZ w8.heap.size w8 _ (patD k (bs.map zK)) RL k (Nat.le_refl _) hdok hvd (by omega))
   obtain ⟨t80, t81, t82, t83⟩ := zG (zB HND.out.box hg8 (fun e => hTF (Option.some.inj e).symm))
   have HGW8 : Hid (w1.grownBy w8 none) := Kh hbF.grown
   have HMK : Hid ((minD (patD k (bs.map zK)) k).letters = k ∧ (minD (patD k (bs.map zK)) k).start = 0) := Kh ⟨(lQ hvd).hk, rfl⟩
   rw [← hw8]
   clear hw8 hg8 ha8 hcF8 hbF hdok hvd t70 t71 t72 t73 b70 b71 b7f cF fF HB7 HND HW7
   go_wp2_with fail
   refine HMI.out.mono ?_
   rintro e w9 ⟨v9, rfl, hd9, hg9⟩
   have HDN := Kh hd9
   obtain ⟨o9, hs9, sf9, cf9, sn9, cn9, rfl, ho9, hbt9⟩ := hd9
   obtain ⟨R, hR⟩ : ∃ R, R = minD (patD k (bs.map zK)) k := ⟨_, rfl⟩
   rw [← hR] at hbt9 HDN HMK ⊢
   rw [HMK.out.1, HMK.out.2] at HDN ⊢
   obtain ⟨FL, hFL⟩ : ∃ FL, FL = R.final.length := ⟨_, rfl⟩
   obtain ⟨NL, hNL⟩ : ∃ NL, NL = R.next.length := ⟨_, rfl⟩
   rw [← hFL, ← hNL] at HDN ⊢
   have HR := Kh hR
   have HG9 := Kh (zA HGW8.out hg9 (by simp))
   have hbQ := zB HB21.out HG9.out (by simp)
   have HBQ := Kh hbQ
   obtain ⟨q0, q1, q2, q3⟩ := zG hbQ
   have f0 := zE hbQ 0
   have f1 := zE hbQ 1
   have f2 := zE hbQ 2
   have f3 := zE hbQ 3
   have hQ8 : Q < w8.heap.size := by have := HGW8.out.size; omega
   clear hbt9 hFL hNL hR hg9 hbQ t80 t81 t82 t83 HMI
   go_wp2
   obtain ⟨hbz, hgz⟩ := vD HBQ.out (.int .i64 (k : Int)) (.int .i64 0) (.slice sf9 FL cf9) (.slice sn9 NL cn9)
   obtain ⟨wz, hwz⟩ : ∃ wz, wz = (((w9.setCell ⟨Q, 0, none⟩ (.int .i64 (k : Int))).setCell ⟨Q, 1, none⟩ (.int .i64 0)).setCell ⟨Q, 2, none⟩ (.slice sf9 FL cf9)).setCell ⟨Q, 3, none⟩ (.slice sn9 NL cn9) := ⟨_, rfl⟩
   rw [← hwz] at hbz hgz ⊢
   clear hwz
   obtain ⟨r0, r1, r2, r3⟩ := zG hbz
   clear q0 q1 q2 q3 f0 f1 f2 f3
   refine bodyPost_ret (v := .tuple #[.agg #[.int .i64 (k : Int), .int .i64 0, .slice sf9 FL cf9, .slice sn9 NL cn9], .int .i64 0]) (by simp [results, Try.results83, go_sem, r0, r1, r2, r3]) rfl ?_
   have hdz := HDN.out.far hgz HBQ.out hQ8
   obtain ⟨fv9, nv9, hv9, ht9⟩ := hdz.t
   refine ⟨fv9, nv9, ?_, ?_, zA (zA HG1.out HG9.out (by simp)) hgz (fun q e => by have h7 : Q = q := Option.some.inj e; omega)⟩
   ·rw [HE.out, HD.out, ← HR.out, ← hv9]
   ·rw [HD.out, ← HR.out]; exact ht9
  ·obtain ⟨w7, hw7⟩ : ∃ w7, w7 = ((wo.alloc (.cells #[.int .i64 (k : Int), .int .i64 1, .slice (some ⟨wo.heap.size + 1, 0, none⟩) RL RL, .slice sn5 RL cn5] 42)).alloc (.cells (madeCells #[.bool false] RL) 4)).drew := ⟨_, rfl⟩
   have hnd := newD2 wo k RL sn5 cn5
   rw [← hw7] at hnd ⊢
   obtain ⟨T, hT⟩ : ∃ T, T = wo.heap.size := ⟨_, rfl⟩
   obtain ⟨F, hF⟩ : ∃ F, F = wo.heap.size + 1 := ⟨_, rfl⟩
   rw [← hF] at hnd ⊢
   rw [← hT] at hnd ⊢
   have hTF : T ≠ F := by omega
   clear hT hF
   have HND := Kh hnd
   have HW7 := Kh hw7
   clear hnd hw7 c50 c51 c5f hmk
   have HB7 := Kh (HBF.out.grow HND.out.grown)
   obtain ⟨b70, b71, b7f⟩ := HB7.out.cells
   rw [← HRL.out] at b71
   obtain ⟨t70, t71, t72, t73⟩ := zG HND.out.box
   obtain ⟨R1, hR1⟩ : ∃ R1, R1 = RL - 1 := ⟨_, rfl⟩
   have e71 : (RL : Int) - 1 = (R1 : Int) := by omega
   have e72 : IntKind.i64.wrap ((RL : Int) - 1) = (R1 : Int) := by rw [e71]; exact tV (by omega)
   have hR1l : R1 < RL := by omega
   have hR1l' : (R1 : Int) < RL := by omega
   have cF := HND.out.arr.bool R1 (by rw [List.length_replicate]; exact hR1l)
   have fF := HND.out.arr.frozen R1
   have hfl : (bls (List.replicate RL false)).length = RL := by rw [xQ, List.length_replicate]
   have HR1 := Kh hR1
   clear hR1
   go_wp2_with fail
   go_region
   obtain ⟨w8, hw8⟩ : ∃ w8, w8 = (w7.setCell ⟨F, R1, none⟩ (.bool true)).drew := ⟨_, rfl⟩
   have hg8 : w7.grownBy w8 (some F) := by rw [hw8]; exact zA (zD w7 ⟨F, R1, none⟩ _) (zP _ none) (by simp)
   have ha8 : Arr w8 F 4 (bls ((List.replicate RL false).set (RL - 1) true)) := by
    rw [hw8, ← HR1.out]
    exact (HND.out.arr.bool_set R1 (by rw [List.length_replicate]; exact hR1l) true).of_heap rfl
   have hFi : w7.heap.size ≤ w8.heap.size := hg8.size
   obtain ⟨cF8, rF8, hcF8, _⟩ := HND.out.arr
   have hbF : BB w1 w8 bb k (xT k (bs.map zK)) gs5 sn5 cn5 := by
    refine ⟨zB HB7.out.box hg8 ?_, HB7.out.own.kept hg8 (.inr (zS HB7.out.own hcF8 (by decide))), HB7.out.len, fun i hi => ⟨(HB7.out.row i hi).1.kept hg8 ?_, (HB7.out.row i hi).2⟩, HB7.out.nd, HB7.out.lo, HB7.out.glo, zA HB7.out.grown hg8 (fun q e => ?_)⟩
    ·intro e
     have e := Option.some.inj e
     rw [e, HB7.out.box] at hcF8
     simp only [Option.some.injEq, Obj.cells.injEq] at hcF8
     exact absurd hcF8.2.1 (by decide)
    ·intro e
     have e := Option.some.inj e
     obtain ⟨cu, rs, hcu, _⟩ := (HB7.out.row i hi).1
     rw [← e, hcF8] at hcu
     simp only [Option.some.injEq, Obj.cells.injEq] at hcu
     exact absurd hcu.2.1 (by decide)
    ·have e : F = q := Option.some.inj e
     have := HND.out.lo
     have := HBF.out.grown.size
     omega
   have hdok := mA hbF hk6 HRL.out (by omega) ha8 (by unfold maxLen; omega)
   have hvd := mU hk1 hk6 hn0 htot
   rw [← HRL.out] at hvd
   have HMI := Kh (nZ w8.heap.size w8 _ (patD k (bs.map zK)) RL k (Nat.le_refl _) hdok hvd (by omega))
   obtain ⟨t80, t81, t82, t83⟩ := zG (zB HND.out.box hg8 (fun e => hTF (Option.some.inj e).symm))
   have HGW8 : Hid (w1.grownBy w8 none) := Kh hbF.grown
   have HMK : Hid ((minD (patD k (bs.map zK)) k).letters = k ∧ (minD (patD k (bs.map zK)) k).start = 0) := Kh ⟨(lQ hvd).hk, rfl⟩
   rw [← hw8]
   clear hw8 hg8 ha8 hcF8 hbF hdok hvd t70 t71 t72 t73 b70 b71 b7f cF fF HB7 HND HW7
   go_wp2_with fail
   refine HMI.out.mono ?_
   rintro e w9 ⟨v9, rfl, hd9, hg9⟩
   have HDN := Kh hd9
   obtain ⟨o9, hs9, sf9, cf9, sn9, cn9, rfl, ho9, hbt9⟩ := hd9
   obtain ⟨R, hR⟩ : ∃ R, R = minD (patD k (bs.map zK)) k := ⟨_, rfl⟩
   rw [← hR] at hbt9 HDN HMK ⊢
   rw [HMK.out.1, HMK.out.2] at HDN ⊢
   obtain ⟨FL, hFL⟩ : ∃ FL, FL = R.final.length := ⟨_, rfl⟩
   obtain ⟨NL, hNL⟩ : ∃ NL, NL = R.next.length := ⟨_, rfl⟩
   rw [← hFL, ← hNL] at HDN ⊢
   have HR := Kh hR
   have HG9 := Kh (zA HGW8.out hg9 (by simp))
   have hbQ := zB HB21.out HG9.out (by simp)
   have HBQ := Kh hbQ
   obtain ⟨q0, q1, q2, q3⟩ := zG hbQ
   have f0 := zE hbQ 0
   have f1 := zE hbQ 1
   have f2 := zE hbQ 2
   have f3 := zE hbQ 3
   have hQ8 : Q < w8.heap.size := by have := HGW8.out.size; omega
   clear hbt9 hFL hNL hR hg9 hbQ t80 t81 t82 t83 HMI
   go_wp2
   obtain ⟨hbz, hgz⟩ := vD HBQ.out (.int .i64 (k : Int)) (.int .i64 0) (.slice sf9 FL cf9) (.slice sn9 NL cn9)
   obtain ⟨wz, hwz⟩ : ∃ wz, wz = (((w9.setCell ⟨Q, 0, none⟩ (.int .i64 (k : Int))).setCell ⟨Q, 1, none⟩ (.int .i64 0)).setCell ⟨Q, 2, none⟩ (.slice sf9 FL cf9)).setCell ⟨Q, 3, none⟩ (.slice sn9 NL cn9) := ⟨_, rfl⟩
   rw [← hwz] at hbz hgz ⊢
   clear hwz
   obtain ⟨r0, r1, r2, r3⟩ := zG hbz
   clear q0 q1 q2 q3 f0 f1 f2 f3
   refine bodyPost_ret (v := .tuple #[.agg #[.int .i64 (k : Int), .int .i64 0, .slice sf9 FL cf9, .slice sn9 NL cn9], .int .i64 0]) (by simp [results, Try.results83, go_sem, r0, r1, r2, r3]) rfl ?_
   have hdz := HDN.out.far hgz HBQ.out hQ8
   obtain ⟨fv9, nv9, hv9, ht9⟩ := hdz.t
   refine ⟨fv9, nv9, ?_, ?_, zA (zA HG1.out HG9.out (by simp)) hgz (fun q e => by have h7 : Q = q := Option.some.inj e; omega)⟩
   ·rw [HE.out, HD.out, ← HR.out, ← hv9]
   ·rw [HD.out, ← HR.out]; exact ht9
 ·have h1' : ((bs.length : Int) - 1 == 0) = false := by rw [beq_eq_false_iff_ne]; omega
  have hn2 : 2 ≤ bs.length := by omega
  obtain ⟨m, hm⟩ : ∃ m, m = bs.length - 1 - 1 := ⟨_, rfl⟩
  have HM := Kh hm
  obtain ⟨c1, hc1⟩ : ∃ c, c = 1 + (nthL bs 0).length := ⟨_, rfl⟩
  have HC1 := Kh hc1
  have hc65 : c1 ≤ 65 := by rw [hc1, nthL, yP]; have := (HWV.out 0 hn0).2; omega
  obtain ⟨base, hbase⟩ : ∃ base, base = [List.replicate k 0] ++ rB k (nthL bs 0) (nthL bs 0).length := ⟨_, rfl⟩
  have hbl : base.length = c1 := by rw [hbase, hc1]; simp [rB]; omega
  rw [← hbase] at HB4
  have HBASE := Kh hbase; have HBL := Kh hbl
  clear h1 hm hc1 hbase hbl
  go_wp2_with fail
  go_loopg [10, 43] m (fun gh a10 i wr => ∃ (j : Nat) (gs : List Nat) (sn : Option Addr) (cn : Nat), gh + j = m ∧ i = .int .i64 j ∧ BB w1 wr bb k (base ++ midN k c1 ((rT bs).take j)) gs sn cn)
  case atStart => exact ⟨0, gs4, sn4, cn4, rfl, rfl, by simpa [midN] using HB4.out⟩
  case round =>
   clear HB4 HG4 p4
   obtain ⟨j, gs, sn, cn, hgh, rfl, hbr⟩ := hrel
   have HGH := Kh hgh; have HBR := Kh hbr
   clear hgh
   have hlen : (base ++ midN k c1 ((rT bs).take j)).length ≤ 129 := by
    rw [List.length_append, HBL.out, qP]
    have := mids_sum (bs := bs) j
    have := HC1.out
    omega
   have HLEN := Kh hlen
   clear hlen
   by_cases hj : j < m
   ·have hjn : 1 + j < bs.length := by have := HM.out; omega
    have hj' : (j : Int) < ((bs.length - 1 - 1 : Nat) : Int) := by have := HM.out; omega
    have sj := HSTR.out _ hbr.grown (1 + j) hjn
    rw [← Nat.add_assoc] at sj
    obtain ⟨u, hu⟩ : ∃ u, u = bs.getD (1 + j) ⟨#[]⟩ := ⟨_, rfl⟩
    have hwu := HWV.out (1 + j) hjn
    have hnu := HNE.out (1 + j) hjn (by omega) (by have := HM.out; omega)
    rw [← hu] at sj hwu hnu
    have HU := Kh hu
    have HWU := Kh hwu
    clear hu hbr hwu
    go_wp2_with fail
    refine (bsearch_any w1 wr bb k _ gs sn cn u HBR.out (by have := HLEN.out; omega) hk1 hk6 HWU.out.1 hnu HWU.out.2).mono ?_
    rintro e w6 ⟨gs6, sn6, cn6, rfl, hb6⟩
    have HB6 : Hid (BB w1 w6 bb k (base ++ midN k c1 ((rT bs).take (j + 1))) gs6 sn6 cn6) := Kh (by
     have et : (rT bs).take (j + 1) = (rT bs).take j ++ [zK u] := by
      rw [yH (d := []) (by rw [pL]; have := HM.out; omega), midsL_get (by have := HM.out; omega), nthL, ← HU.out]
     rw [et, midN_snoc, ← List.append_assoc]
     have el : (base ++ midN k c1 ((rT bs).take j)).length = c1 + yM ((rT bs).take j) := by rw [List.length_append, HBL.out, qP]
     rw [el] at hb6
     exact hb6)
    clear hb6
    go_wp2
    go_roundg (m - (j + 1))
    case measure => have := HGH.out; omega
    case rel => exact ⟨j + 1, gs6, sn6, cn6, by have := HGH.out; omega, by go_num, HB6.out⟩
   ·have hjm : j = m := by have := HGH.out; omega
    have hj' : ¬ (j : Int) < ((bs.length - 1 - 1 : Nat) : Int) := by have := HM.out; omega
    have pl := HPC.out _ hbr.grown
    have sl := HSTR.out _ hbr.grown (bs.length - 1) (by omega)
    obtain ⟨u, hu⟩ : ∃ u, u = bs.getD (bs.length - 1) ⟨#[]⟩ := ⟨_, rfl⟩
    have hwu := HWV.out (bs.length - 1) (by omega)
    rw [← hu] at sl hwu
    have HU := Kh hu; have HWU := Kh hwu
    have hi1 : ((bs.length : Int) - 1).toNat = bs.length - 1 := by omega
    have hi2 : (bs.length : Int) - 1 < bs.length := by omega
    have hi3 : 0 ≤ (bs.length : Int) - 1 := by omega
    have HJM := Kh hjm
    clear hu hwu hbr hjm
    go_wp2_with fail
    refine (bsuffix_any w1 wr bb k _ gs sn cn u HBR.out (by have := HLEN.out; omega) hk1 hk6 HWU.out.1 HWU.out.2).mono ?_
    rintro e w5 ⟨gs5, sn5, cn5, rfl, hb5⟩
    have HBF : Hid (BB w1 w5 bb k (xT k (bs.map zK)) gs5 sn5 cn5) := Kh (by
     have et : (rT bs).take j = rT bs := List.take_of_length_le (by rw [pL]; have := HM.out; have := HJM.out; omega)
     have el : (base ++ midN k c1 (rT bs)).length = c1 + yM (rT bs) := by rw [List.length_append, HBL.out, qP]
     rw [et, el] at hb5
     rw [rows_more hn2, show nthL bs (bs.length - 1) = zK u by rw [nthL, ← HU.out]]
     have := HBASE.out
     rw [this, HC1.out] at hb5
     exact hb5)
    clear hb5 HBR sl pl
    obtain ⟨c50, c51, c5f⟩ := HBF.out.cells
    have hrl := pJ (k := k) hn0 htot
    obtain ⟨RL, hRL⟩ : ∃ RL, RL = (xT k (bs.map zK)).length := ⟨_, rfl⟩
    rw [← hRL] at c51 hrl
    have HRL := Kh hRL
    have hmk := mk_bool RL (by omega)
    have hbz := zN HBF.out.box
    obtain ⟨wo, rfl⟩ : ∃ wo : World, wo = w5 := ⟨_, rfl⟩
    clear hRL
    go_wp2_with fail
    go_region
    ·obtain ⟨w7, hw7⟩ : ∃ w7, w7 = ((wo.alloc (.cells (madeCells #[.bool false] RL) 4)).alloc (.cells #[.int .i64 (k : Int), .int .i64 1, .slice (some ⟨wo.heap.size, 0, none⟩) RL RL, .slice sn5 RL cn5] 42)).drew := ⟨_, rfl⟩
     have hnd := newD1 wo k RL sn5 cn5
     rw [← hw7] at hnd ⊢
     obtain ⟨T, hT⟩ : ∃ T, T = wo.heap.size + 1 := ⟨_, rfl⟩
     obtain ⟨F, hF⟩ : ∃ F, F = wo.heap.size := ⟨_, rfl⟩
     rw [← hT] at hnd ⊢
     rw [← hF] at hnd ⊢
     have hTF : T ≠ F := by omega
     clear hT hF
     have HND := Kh hnd
     have HW7 := Kh hw7
     clear hnd hw7 c50 c51 c5f hmk
     have HB7 := Kh (HBF.out.grow HND.out.grown)
     obtain ⟨b70, b71, b7f⟩ := HB7.out.cells
     rw [← HRL.out] at b71
     obtain ⟨t70, t71, t72, t73⟩ := zG HND.out.box
     obtain ⟨R1, hR1⟩ : ∃ R1, R1 = RL - 1 := ⟨_, rfl⟩
     have e71 : (RL : Int) - 1 = (R1 : Int) := by omega
     have e72 : IntKind.i64.wrap ((RL : Int) - 1) = (R1 : Int) := by rw [e71]; exact tV (by omega)
     have hR1l : R1 < RL := by omega
     have hR1l' : (R1 : Int) < RL := by omega
     have cF := HND.out.arr.bool R1 (by rw [List.length_replicate]; exact hR1l)
     have fF := HND.out.arr.frozen R1
     have hfl : (bls (List.replicate RL false)).length = RL := by rw [xQ, List.length_replicate]
     have HR1 := Kh hR1
     clear hR1
     go_wp2_with fail
     go_region
     obtain ⟨w8, hw8⟩ : ∃ w8, w8 = (w7.setCell ⟨F, R1, none⟩ (.bool true)).drew := ⟨_, rfl⟩
     have hg8 : w7.grownBy w8 (some F) := by rw [hw8]; exact zA (zD w7 ⟨F, R1, none⟩ _) (zP _ none) (by simp)
     have ha8 : Arr w8 F 4 (bls ((List.replicate RL false).set (RL - 1) true)) := by
      rw [hw8, ← HR1.out]
      exact (HND.out.arr.bool_set R1 (by rw [List.length_replicate]; exact hR1l) true).of_heap rfl
     have hFi : w7.heap.size ≤ w8.heap.size := hg8.size
     obtain ⟨cF8, rF8, hcF8, _⟩ := HND.out.arr
     have hbF : BB w1 w8 bb k (xT k (bs.map zK)) gs5 sn5 cn5 := by
      refine ⟨zB HB7.out.box hg8 ?_, HB7.out.own.kept hg8 (.inr (zS HB7.out.own hcF8 (by decide))), HB7.out.len, fun i hi => ⟨(HB7.out.row i hi).1.kept hg8 ?_, (HB7.out.row i hi).2⟩, HB7.out.nd, HB7.out.lo, HB7.out.glo, zA HB7.out.grown hg8 (fun q e => ?_)⟩
      ·intro e
       have e := Option.some.inj e
       rw [e, HB7.out.box] at hcF8
       simp only [Option.some.injEq, Obj.cells.injEq] at hcF8
       exact absurd hcF8.2.1 (by decide)
      ·intro e
       have e := Option.some.inj e
       obtain ⟨cu, rs, hcu, _⟩ := (HB7.out.row i hi).1
       rw [← e, hcF8] at hcu
       simp only [Option.some.injEq, Obj.cells.injEq] at hcu
       exact absurd hcu.2.1 (by decide)
      ·have e : F = q := Option.some.inj e
       have := HND.out.lo
       have := HBF.out.grown.size
       omega
     have hdok := mA hbF hk6 HRL.out (by omega) ha8 (by unfold maxLen; omega)
     have hvd := mU hk1 hk6 hn0 htot
     rw [← HRL.out] at hvd
     have HMI := Kh (nZ w8.heap.size w8 _ (patD k (bs.map zK)) RL k (Nat.le_refl _) hdok hvd (by omega))
     obtain ⟨t80, t81, t82, t83⟩ := zG (zB HND.out.box hg8 (fun e => hTF (Option.some.inj e).symm))
     have HGW8 : Hid (w1.grownBy w8 none) := Kh hbF.grown
     have HMK : Hid ((minD (patD k (bs.map zK)) k).letters = k ∧ (minD (patD k (bs.map zK)) k).start = 0) := Kh ⟨(lQ hvd).hk, rfl⟩
     rw [← hw8]
     clear hw8 hg8 ha8 hcF8 hbF hdok hvd t70 t71 t72 t73 b70 b71 b7f cF fF HB7 HND HW7
     go_wp2_with fail
     refine HMI.out.mono ?_
     rintro e w9 ⟨v9, rfl, hd9, hg9⟩
     have HDN := Kh hd9
     obtain ⟨o9, hs9, sf9, cf9, sn9, cn9, rfl, ho9, hbt9⟩ := hd9
     obtain ⟨R, hR⟩ : ∃ R, R = minD (patD k (bs.map zK)) k := ⟨_, rfl⟩
     rw [← hR] at hbt9 HDN HMK ⊢
     rw [HMK.out.1, HMK.out.2] at HDN ⊢
     obtain ⟨FL, hFL⟩ : ∃ FL, FL = R.final.length := ⟨_, rfl⟩
     obtain ⟨NL, hNL⟩ : ∃ NL, NL = R.next.length := ⟨_, rfl⟩
     rw [← hFL, ← hNL] at HDN ⊢
     have HR := Kh hR
     have HG9 := Kh (zA HGW8.out hg9 (by simp))
     have hbQ := zB HB21.out HG9.out (by simp)
     have HBQ := Kh hbQ
     obtain ⟨q0, q1, q2, q3⟩ := zG hbQ
     have f0 := zE hbQ 0
     have f1 := zE hbQ 1
     have f2 := zE hbQ 2
     have f3 := zE hbQ 3
     have hQ8 : Q < w8.heap.size := by have := HGW8.out.size; omega
     clear hbt9 hFL hNL hR hg9 hbQ t80 t81 t82 t83 HMI
     go_wp2
     obtain ⟨hbz, hgz⟩ := vD HBQ.out (.int .i64 (k : Int)) (.int .i64 0) (.slice sf9 FL cf9) (.slice sn9 NL cn9)
     obtain ⟨wz, hwz⟩ : ∃ wz, wz = (((w9.setCell ⟨Q, 0, none⟩ (.int .i64 (k : Int))).setCell ⟨Q, 1, none⟩ (.int .i64 0)).setCell ⟨Q, 2, none⟩ (.slice sf9 FL cf9)).setCell ⟨Q, 3, none⟩ (.slice sn9 NL cn9) := ⟨_, rfl⟩
     rw [← hwz] at hbz hgz ⊢
     clear hwz
     obtain ⟨r0, r1, r2, r3⟩ := zG hbz
     clear q0 q1 q2 q3 f0 f1 f2 f3
     refine bodyPost_ret (v := .tuple #[.agg #[.int .i64 (k : Int), .int .i64 0, .slice sf9 FL cf9, .slice sn9 NL cn9], .int .i64 0]) (by simp [results, Try.results83, go_sem, r0, r1, r2, r3]) rfl ?_
     have hdz := HDN.out.far hgz HBQ.out hQ8
     obtain ⟨fv9, nv9, hv9, ht9⟩ := hdz.t
     refine ⟨fv9, nv9, ?_, ?_, zA (zA HG1.out HG9.out (by simp)) hgz (fun q e => by have h7 : Q = q := Option.some.inj e; omega)⟩
     ·rw [HE.out, HD.out, ← HR.out, ← hv9]
     ·rw [HD.out, ← HR.out]; exact ht9
    ·obtain ⟨w7, hw7⟩ : ∃ w7, w7 = ((wo.alloc (.cells #[.int .i64 (k : Int), .int .i64 1, .slice (some ⟨wo.heap.size + 1, 0, none⟩) RL RL, .slice sn5 RL cn5] 42)).alloc (.cells (madeCells #[.bool false] RL) 4)).drew := ⟨_, rfl⟩
     have hnd := newD2 wo k RL sn5 cn5
     rw [← hw7] at hnd ⊢
     obtain ⟨T, hT⟩ : ∃ T, T = wo.heap.size := ⟨_, rfl⟩
     obtain ⟨F, hF⟩ : ∃ F, F = wo.heap.size + 1 := ⟨_, rfl⟩
     rw [← hF] at hnd ⊢
     rw [← hT] at hnd ⊢
     have hTF : T ≠ F := by omega
     clear hT hF
     have HND := Kh hnd
     have HW7 := Kh hw7
     clear hnd hw7 c50 c51 c5f hmk
     have HB7 := Kh (HBF.out.grow HND.out.grown)
     obtain ⟨b70, b71, b7f⟩ := HB7.out.cells
     rw [← HRL.out] at b71
     obtain ⟨t70, t71, t72, t73⟩ := zG HND.out.box
     obtain ⟨R1, hR1⟩ : ∃ R1, R1 = RL - 1 := ⟨_, rfl⟩
     have e71 : (RL : Int) - 1 = (R1 : Int) := by omega
     have e72 : IntKind.i64.wrap ((RL : Int) - 1) = (R1 : Int) := by rw [e71]; exact tV (by omega)
     have hR1l : R1 < RL := by omega
     have hR1l' : (R1 : Int) < RL := by omega
     have cF := HND.out.arr.bool R1 (by rw [List.length_replicate]; exact hR1l)
     have fF := HND.out.arr.frozen R1
     have hfl : (bls (List.replicate RL false)).length = RL := by rw [xQ, List.length_replicate]
     have HR1 := Kh hR1
     clear hR1
     go_wp2_with fail
     go_region
     obtain ⟨w8, hw8⟩ : ∃ w8, w8 = (w7.setCell ⟨F, R1, none⟩ (.bool true)).drew := ⟨_, rfl⟩
     have hg8 : w7.grownBy w8 (some F) := by rw [hw8]; exact zA (zD w7 ⟨F, R1, none⟩ _) (zP _ none) (by simp)
     have ha8 : Arr w8 F 4 (bls ((List.replicate RL false).set (RL - 1) true)) := by
      rw [hw8, ← HR1.out]
      exact (HND.out.arr.bool_set R1 (by rw [List.length_replicate]; exact hR1l) true).of_heap rfl
     have hFi : w7.heap.size ≤ w8.heap.size := hg8.size
     obtain ⟨cF8, rF8, hcF8, _⟩ := HND.out.arr
     have hbF : BB w1 w8 bb k (xT k (bs.map zK)) gs5 sn5 cn5 := by
      refine ⟨zB HB7.out.box hg8 ?_, HB7.out.own.kept hg8 (.inr (zS HB7.out.own hcF8 (by decide))), HB7.out.len, fun i hi => ⟨(HB7.out.row i hi).1.kept hg8 ?_, (HB7.out.row i hi).2⟩, HB7.out.nd, HB7.out.lo, HB7.out.glo, zA HB7.out.grown hg8 (fun q e => ?_)⟩
      ·intro e
       have e := Option.some.inj e
       rw [e, HB7.out.box] at hcF8
       simp only [Option.some.injEq, Obj.cells.injEq] at hcF8
       exact absurd hcF8.2.1 (by decide)
      ·intro e
       have e := Option.some.inj e
       obtain ⟨cu, rs, hcu, _⟩ := (HB7.out.row i hi).1
       rw [← e, hcF8] at hcu
       simp only [Option.some.injEq, Obj.cells.injEq] at hcu
       exact absurd hcu.2.1 (by decide)
      ·have e : F = q := Option.some.inj e
       have := HND.out.lo
       have := HBF.out.grown.size
       omega
     have hdok := mA hbF hk6 HRL.out (by omega) ha8 (by unfold maxLen; omega)
     have hvd := mU hk1 hk6 hn0 htot
     rw [← HRL.out] at hvd
     have HMI := Kh (nZ w8.heap.size w8 _ (patD k (bs.map zK)) RL k (Nat.le_refl _) hdok hvd (by omega))
     obtain ⟨t80, t81, t82, t83⟩ := zG (zB HND.out.box hg8 (fun e => hTF (Option.some.inj e).symm))
     have HGW8 : Hid (w1.grownBy w8 none) := Kh hbF.grown
     have HMK : Hid ((minD (patD k (bs.map zK)) k).letters = k ∧ (minD (patD k (bs.map zK)) k).start = 0) := Kh ⟨(lQ hvd).hk, rfl⟩
     rw [← hw8]
     clear hw8 hg8 ha8 hcF8 hbF hdok hvd t70 t71 t72 t73 b70 b71 b7f cF fF HB7 HND HW7
     go_wp2_with fail
     refine HMI.out.mono ?_
     rintro e w9 ⟨v9, rfl, hd9, hg9⟩
     have HDN := Kh hd9
     obtain ⟨o9, hs9, sf9, cf9, sn9, cn9, rfl, ho9, hbt9⟩ := hd9
     obtain ⟨R, hR⟩ : ∃ R, R = minD (patD k (bs.map zK)) k := ⟨_, rfl⟩
     rw [← hR] at hbt9 HDN HMK ⊢
     rw [HMK.out.1, HMK.out.2] at HDN ⊢
     obtain ⟨FL, hFL⟩ : ∃ FL, FL = R.final.length := ⟨_, rfl⟩
     obtain ⟨NL, hNL⟩ : ∃ NL, NL = R.next.length := ⟨_, rfl⟩
     rw [← hFL, ← hNL] at HDN ⊢
     have HR := Kh hR
     have HG9 := Kh (zA HGW8.out hg9 (by simp))
     have hbQ := zB HB21.out HG9.out (by simp)
     have HBQ := Kh hbQ
     obtain ⟨q0, q1, q2, q3⟩ := zG hbQ
     have f0 := zE hbQ 0
     have f1 := zE hbQ 1
     have f2 := zE hbQ 2
     have f3 := zE hbQ 3
     have hQ8 : Q < w8.heap.size := by have := HGW8.out.size; omega
     clear hbt9 hFL hNL hR hg9 hbQ t80 t81 t82 t83 HMI
     go_wp2
     obtain ⟨hbz, hgz⟩ := vD HBQ.out (.int .i64 (k : Int)) (.int .i64 0) (.slice sf9 FL cf9) (.slice sn9 NL cn9)
     obtain ⟨wz, hwz⟩ : ∃ wz, wz = (((w9.setCell ⟨Q, 0, none⟩ (.int .i64 (k : Int))).setCell ⟨Q, 1, none⟩ (.int .i64 0)).setCell ⟨Q, 2, none⟩ (.slice sf9 FL cf9)).setCell ⟨Q, 3, none⟩ (.slice sn9 NL cn9) := ⟨_, rfl⟩
     rw [← hwz] at hbz hgz ⊢
     clear hwz
     obtain ⟨r0, r1, r2, r3⟩ := zG hbz
     clear q0 q1 q2 q3 f0 f1 f2 f3
     refine bodyPost_ret (v := .tuple #[.agg #[.int .i64 (k : Int), .int .i64 0, .slice sf9 FL cf9, .slice sn9 NL cn9], .int .i64 0]) (by simp [results, Try.results83, go_sem, r0, r1, r2, r3]) rfl ?_
     have hdz := HDN.out.far hgz HBQ.out hQ8
     obtain ⟨fv9, nv9, hv9, ht9⟩ := hdz.t
     refine ⟨fv9, nv9, ?_, ?_, zA (zA HG1.out HG9.out (by simp)) hgz (fun q e => by have h7 : Q = q := Option.some.inj e; omega)⟩
     ·rw [HE.out, HD.out, ← HR.out, ← hv9]
     ·rw [HD.out, ← HR.out]; exact ht9
end Go.Proofs.Ytjfdomfendbhfaa
