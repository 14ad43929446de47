/- Part 43 of the proof: RDfa. -/
import Derived.Test.YtgbfaggnnfoamaaZi42
set_option linter.unusedVariables false
set_option linter.unusedSimpArgs false
namespace Go.Proofs.Ytgbfaggnnfoamaa
open Go.RowKit Go.Maps
theorem two_boxes2 (w : World) (c1 c2 : Array Value) (e1 e2 : Nat) : ((w.alloc (.cells c1 e1)).alloc (.cells c2 e2)).heap[w.heap.size]? = some (.cells c1 e1 (0, 0)) ∧ ((w.alloc (.cells c1 e1)).alloc (.cells c2 e2)).heap[w.heap.size + 1]? = some (.cells c2 e2 (0, 0)) ∧ w.grownBy ((w.alloc (.cells c1 e1)).alloc (.cells c2 e2)) none ∧ ((w.alloc (.cells c1 e1)).alloc (.cells c2 e2)).heap.size = w.heap.size + 2 :=
 ⟨qA w _ _, rW w _ _, yV (World.grownBy_alloc w _ none) _, by rw [zL, zL]⟩
theorem lenP_map {bs : List ByteArray} {i : Nat} (h : i < bs.length) : lenP (bs.map zH) i = (bs.getD i ⟨#[]⟩).size := by
 unfold lenP
 rw [zI (show i < (bs.map zH).length by simpa using h), zI h]; simp [yH]
structure PSt (w1 W : World) (base mb : Nat) (L : List (List Nat)) (n : Nat) (sp : Option Addr) (pc : Nat) : Prop where
 own : W.ownsRow base 86 2 (.slice sp n pc) n (tK ((xG L).take n))
 map : MapK 86 PosOk posV W mb n n (numP ((xG L).take n))
 grown : w1.grownBy W none
 lo : w1.heap.size ≤ mb ∧ mb < base
theorem PSt.put {w1 W W1 W2 : World} {base mb n i k : Nat} {L : List (List Nat)} {sp sp' : Option Addr} {pc pc' : Nat} (h : PSt w1 W base mb L n sp pc) (hi : i < L.length) (hk : k ≤ lenP L i) (hn : n = offP L i + k)
  (hm : MapK 86 PosOk posV W1 mb (n + 1) (if (numP ((xG L).take n) (i, k)).isSome then n else n + 1) (fun q => if q = (i, k) then some n else numP ((xG L).take n) q)) (hg1 : W.grownBy W1 (some mb))
  (ho : W2.ownsRow base 86 2 (.slice sp' (n + 1) pc') (n + 1) (tK ((xG L).take n) ++ [.int .i64 (i : Int), .int .i64 (k : Int)])) (hg2 : W1.grownBy W2 (Value.slice sp n pc).ownBlock) : PSt w1 W2 base mb L (n + 1) sp' pc' := by
 have hf := posOf_fresh hi hk
 have ht := lP hi hk
 rw [← hn] at hf ht
 have hlen : ((xG L).take n).length = n := by
  have := uH hi hk
  rw [List.length_take]; omega
 have e1 : numP ((xG L).take n) (i, k) = none := by unfold numP; rw [if_neg hf]
 have e2 : (fun q => if q = (i, k) then some n else numP ((xG L).take n) q) = numP ((xG L).take (n + 1)) := by
  have := numP_snoc hf
  rw [hlen] at this
  rw [this, ht]
 rw [e1, e2] at hm
 refine ⟨by rw [← ht, posVals_snoc]; exact ho, hm.kept hg2 (fun e => ?_), zB (zB h.grown hg1 (fun x e => by have := Option.some.inj e; have := h.lo; omega)) hg2 (fun x e => ?_), h.lo⟩
 ·have := (h.own.lt mb e).1; have := h.lo; omega
 ·have := (h.own.lt x e).1; have := h.lo; omega
set_option maxRecDepth 100000 in
set_option maxHeartbeats 40000000 in
theorem rdfa_any (B : Nat) (w : World) (v : Value) (bs : List ByteArray) (letters : Int) (h : Row B w v (txtV bs)) (hs : ∀ i (hi : i < bs.length), bs[i].size ≤ maxLen) (h14 : patW bs letters = 0 → vF bs ≤ 14) :
  Calls Try.prog 41 #[.agg #[v], .int .i64 letters] w (DfaErr w (patW bs letters) (uJ bs letters)) := by
 have hlm := h.len_le
 rw [zR] at hlm
 have H := Kh h
 obtain ⟨a, cap, rfl⟩ := h.shape
 rw [zR] at H ⊢
 have hlm' : bs.length ≤ 9223372036854775807 := by unfold maxLen at hlm; omega
 obtain ⟨hb1, hb2, hgA, hzA⟩ := two_boxes2 w #[.slice a bs.length cap] #[.int .i64 0, .int .i64 0, .slice none 0 0, .slice none 0 0] 36 49
 obtain ⟨wA, hWA⟩ : ∃ wA, wA = (w.alloc (.cells #[.slice a bs.length cap] 36)).alloc (.cells #[.int .i64 0, .int .i64 0, .slice none 0 0, .slice none 0 0] 49) := ⟨_, rfl⟩
 rw [← hWA] at hb1 hb2 hgA hzA
 obtain ⟨P, hP⟩ : ∃ P, P = w.heap.size := ⟨_, rfl⟩
 obtain ⟨Q, hQ⟩ : ∃ Q, Q = w.heap.size + 1 := ⟨_, rfl⟩
 have HPE := Kh hP; have HQE : Hid (Q = P + 1) := Kh (by omega)
 have hPQ : P < Q := by omega
 have hQw : Q < wA.heap.size := by omega
 have hPw : w.heap.size ≤ P := by omega
 rw [← hQ] at hb2
 rw [← hP] at hb1
 have c0 : wA.cell? ⟨P, 0, none⟩ = some (.slice a bs.length cap) := by simpa using zK hb1 0 (by simp)
 have HB1 := Kh hb1; have HB2 := Kh hb2; have HGA := Kh hgA; have HWA := Kh hWA
 have HVA := Kh (mF B wA _ bs letters (H.out.kept hgA (by simp)) hs)
 clear hb1 hb2 hgA hWA h hs hP hQ hzA hlm
 go_enter Try.func41, Try.ntmps41
 go_upto_region 1 with fail
 rw [← HWA.out, ← HPE.out, ← HQE.out]
 go_wp2_with fail
 refine HVA.out.mono ?_
 rintro e w1 ⟨rfl, hg1⟩
 have hz1 := hg1.size
 have HG1 := Kh (zB HGA.out hg1 (by simp))
 have HB11 := Kh (zA HB1.out hg1 (by simp)); have HB21 := Kh (zA HB2.out hg1 (by simp))
 have q1 := zG HB21.out
 have f0 := zD HB21.out 0
 have f1 := zD HB21.out 1
 have f2 := zD HB21.out 2
 have f3 := zD HB21.out 3
 clear hg1 HVA c0
 by_cases hE : patW bs letters = 0
 case neg =>
  have HD : Hid (uJ bs letters = zeroD) := Kh (if_neg hE)
  obtain ⟨E, hEE⟩ : ∃ E, E = patW bs letters := ⟨_, rfl⟩
  rw [← hEE] at hE ⊢
  have e1 : (E == 0) = false := by rw [beq_eq_false_iff_ne]; exact hE
  obtain ⟨q0, q1, q2, q3⟩ := q1
  have HEE := Kh hEE
  clear hE hEE
  go_wp2
  obtain ⟨hbz, hgz⟩ := wM HB21.out (.int .i64 0) (.int .i64 0) (.slice none 0 0) (.slice none 0 0)
  obtain ⟨wz, hwz⟩ : ∃ wz, wz = (((w1.setCell ⟨Q, 0, none⟩ (.int .i64 0)).setCell ⟨Q, 1, none⟩ (.int .i64 0)).setCell ⟨Q, 2, none⟩ (.slice none 0 0)).setCell ⟨Q, 3, none⟩ (.slice none 0 0) := ⟨_, rfl⟩
  rw [← hwz] at hbz hgz ⊢
  clear hwz
  obtain ⟨r0, r1, r2, r3⟩ := zG hbz
  clear q0 q1 q2 q3 f0 f1 f2 f3
  refine bodyPost_ret (v := .tuple #[.agg #[.int .i64 0, .int .i64 0, .slice none 0 0, .slice none 0 0], .int .i64 E]) (by simp [results, Try.results41, go_sem, r0, r1, r2, r3]) rfl ?_
  exact ⟨_, by rw [HEE.out], by rw [HD.out]; exact zero_ok _ _, zB HG1.out hgz (fun k e => by have h7 : Q = k := Option.some.inj e; omega)⟩
 rw [hE]
 clear q1 f0 f1 f2 f3
 have ht14 := h14 hE
 obtain ⟨hk1, hk6, hn0, hn8, htot, hwv, hne⟩ := jL (vZ.1 hE)
 obtain ⟨k, hk⟩ : ∃ k : Nat, letters = (k : Int) := ⟨letters.toNat, by omega⟩
 have HD : Hid (uJ bs letters = minD (patD k (bs.map zH)) k) := Kh (by
  rw [uJ, if_pos hE, hk, Int.toNat_natCast])
 subst hk
 have hk1 : 1 ≤ k := by omega
 have hk6 : k ≤ 6 := by omega
 obtain ⟨kb, off, _, ea, hbB, hbc, hbm, hra⟩ := H.out.some_ (by rw [zR]; exact hn0)
 rw [zR] at ea hbc
 simp only [Value.slice.injEq] at ea
 obtain ⟨rfl, _, rfl⟩ := ea
 have hcm : cap ≤ 9223372036854775807 := by unfold maxLen at hbm; omega
 have HBM := Kh hbm
 have HRA : Hid (∀ W : World, w1.grownBy W none → wE W kb off (txtV bs)) := Kh (fun W hg => (hra.kept HG1.out (by simp)).kept hg (by simp))
 have HPV := Kh (vZ.1 hE)
 have HE := Kh hE
 have HPC : Hid (∀ W : World, w1.grownBy W none → W.cell? ⟨P, 0, none⟩ = some (.slice (some ⟨kb, off, none⟩) bs.length cap)) := Kh (fun W hg => by simpa using zK (zA HB11.out hg (by simp)) 0 (by simp))
 -- the number of positions
 obtain ⟨L, hL⟩ : ∃ L, L = bs.map zH := ⟨_, rfl⟩
 have hLl : L.length = bs.length := by rw [hL]; simp
 have hm : (xG L).length ≤ 22 := by rw [sY, hL, ← vI, List.length_map]; omega
 have hlp : ∀ i, i < bs.length → lenP L i = (bs.getD i ⟨#[]⟩).size := fun i hi => by rw [hL]; exact lenP_map hi
 have HL := Kh hL; have HLL := Kh hLl; have HLP := Kh hlp
 obtain ⟨m, hme⟩ : ∃ m, m = (xG L).length := ⟨_, rfl⟩
 rw [← hme] at hm
 have HME := Kh hme
 have hp0 := HPC.out w1 (zO _ _)
 have hmm := @run_makeMap Try.prog
 obtain ⟨mb, hmb⟩ : ∃ mb, mb = w1.heap.size := ⟨_, rfl⟩
 obtain ⟨w2, hw2⟩ : ∃ w2, w2 = w1.alloc (.map #[] 0) := ⟨_, rfl⟩
 have hg2 := World.grownBy_alloc w1 (.map #[] 0) none
 have hmk := MapK.made 86 PosOk posV w1
 rw [← hw2] at hg2 hmk
 rw [← hmb] at hmk
 have HBS : Hid (w2.heap.size = mb + 1) := Kh (by rw [hw2, zL, hmb])
 have HMB := Kh hmb; have HW2 := Kh hw2; have HG2 := Kh hg2
 have HMK : Hid (MapK 86 PosOk posV w2 mb 0 0 (numP [])) := Kh (by
  have : numP [] = (fun _ => none) := by funext x; simp [numP]
  rw [this]; exact hmk)
 have hp2 := HPC.out w2 hg2
 have hmbz := hmk.lt
 have hmb1 : w1.heap.size ≤ mb := by omega
 clear hE hwv hne hra hbm hL hLl hme hlp h14 hmb hw2 hg2 hmk hp0
 go_upto_region 6 with fail
 rw [← HW2.out, ← HMB.out]
 have HPS : Hid (PSt w1 w2 w2.heap.size mb L 0 none 0) := Kh ⟨World.ownsRow_nil _ _ _ _, by simpa using HMK.out, HG2.out, hmb1, hmbz⟩
 clear hmm
 go_wp2
 go_loopg [7, 9, 10, 11, 35] bs.length (fun gh s7 s9 s10 s11 i wr => ∃ (q n : Nat) (sp : Option Addr) (pc : Nat), gh + q = bs.length ∧ i = .int .i64 q ∧ n = offP L q ∧ PSt w1 wr w2.heap.size mb L n sp pc ∧ s7 = .slice sp n pc)
 case atStart => exact ⟨0, 0, none, 0, rfl, rfl, by rw [wQ], HPS.out, rfl⟩
 case round =>
  clear HPS HMK hp2
  obtain ⟨q, n, sp, pc, hgh, rfl, hn, hst, rfl⟩ := hrel
  have HGH := Kh hgh; have HN := Kh hn; have HST := Kh hst
  clear hgh hn
  by_cases hq : q < bs.length
  ·have hq' : (q : Int) < bs.length := by omega
   have cu := xT (HRA.out wr hst.grown) q hq
   obtain ⟨u, hu⟩ : ∃ u, u = bs.getD q ⟨#[]⟩ := ⟨_, rfl⟩
   rw [← hu] at cu
   have HU := Kh hu
   have hlpq := HLP.out q hq
   rw [← hu] at hlpq
   have hoff : offP L q + lenP L q < m := by rw [HME.out]; exact uH (by rw [HLL.out]; exact hq) (Nat.le_refl _)
   have hus : u.size ≤ 22 := by omega
   have HLQ := Kh hlpq
   clear hu hst hlpq hoff
   go_wp2
   go_loopg [7, 11] (u.size + 1) (fun gh s7 i wr => ∃ (kk n : Nat) (sp : Option Addr) (pc : Nat), gh + kk = u.size + 1 ∧ i = .int .i64 kk ∧ n = offP L q + kk ∧ PSt w1 wr w2.heap.size mb L n sp pc ∧ s7 = .slice sp n pc)
   case atStart => exact ⟨0, n, sp, pc, rfl, rfl, HN.out, HST.out, rfl⟩
   case round =>
    clear HST HN cu
    obtain ⟨kk, n, sp, pc, hgh, rfl, hn, hst, rfl⟩ := hrel
    have HGH2 := Kh hgh; have HN := Kh hn; have HST := Kh hst
    have hmz := hst.map.lt
    have hwz : w2.heap.size ≤ wr.heap.size := by
     have := HBS.out
     omega
    clear hgh
    by_cases hkk : kk ≤ u.size
    ·have hkk' : (kk : Int) ≤ u.size := by omega
     have hnm : n < m := by
      rw [hn, HME.out]; exact uH (by rw [HLL.out]; exact hq) (by rw [HLQ.out]; exact hkk)
     clear hn hst
     go_wp2_with (first | (at_mapUpdate; refine jD pos_key rfl _ _ _ rfl mb n n _ (q, kk) n rfl rfl rfl HST.out.map (by unfold maxLen; omega) ⟨by show q < _; omega, by show kk < _; omega⟩ (by omega) ?_; intro w3 hmap3 hg3; (have HM3 := Kh hmap3); (have HG3 := Kh hg3); (have HO3 := Kh (HST.out.own.kept hg3 (.inr (fun e => by have := (HST.out.own.lt mb e).1; have := HST.out.lo; omega)))); (have hz3 := hg3.size); clear hmap3 hg3) | (at_builtin; refine app_lit rfl _ _ _ rfl elem_pos w2.heap.size (.slice sp n pc) n _ rfl HO3.out [.int .i64 (q : Int), .int .i64 (kk : Int)] rfl rfl ?a0 ?a1 ?a2 ?a3 ?_; (case a0 => (intro u hu; simp at hu; rcases hu with rfl | rfl <;> rfl)); (case a1 => (unfold maxLen; omega)); (case a2 => omega); (case a3 => omega); intro sa4 sc4 w4 hown4 hg4; (have HO4 := Kh hown4); (have HG4 := Kh hg4); clear hown4 hg4) | fail)
     go_roundg (u.size + 1 - (kk + 1))
     case measure => have := HGH2.out; omega
     case rel => exact ⟨kk + 1, n + 1, sa4, sc4, by have := HGH2.out; omega, by go_num, by rw [HN.out]; rfl, HST.out.put (by rw [HLL.out]; exact hq) (by rw [HLQ.out]; exact hkk) HN.out HM3.out HG3.out HO4.out HG4.out, rfl⟩
    ·have hkk' : ¬ (kk : Int) ≤ u.size := by omega
     have HKE : Hid (kk = u.size + 1) := Kh (by have := HGH2.out; omega)
     clear hn hst
     go_wp2
     go_roundg (bs.length - (q + 1))
     case measure => have := HGH.out; omega
     case rel => exact ⟨q + 1, n, sp, pc, by have := HGH.out; omega, by go_num, by rw [HN.out, jO (by rw [HLL.out]; exact hq), HLQ.out, HKE.out]; omega, HST.out, rfl⟩
  ·have hqe : q = bs.length := by have := HGH.out; omega
   have hnm : n = m := by
    have := sY L
    have h9 := HN.out
    rw [hqe, ← HLL.out] at h9
    unfold offP at h9
    rw [List.take_length] at h9
    have := HME.out
    omega
   subst hnm
   have hq' : ¬ (q : Int) < bs.length := by omega
   have hn0m : 0 < n := by
    have := sY L
    have := HME.out
    have := HLL.out
    omega
   obtain ⟨pb, rfl, hpc, hpm⟩ := owns_some2 hst.own hn0m
   have htk : (xG L).take n = xG L := by rw [HME.out, List.take_length]
   have hown5 := hst.own
   have hmap5 := hst.map
   rw [htk] at hown5 hmap5
   obtain ⟨w5, rfl⟩ : ∃ w5 : World, w5 = wr := ⟨_, rfl⟩
   have hctx : RCtx w5 bs kb off cap pb pc mb n := ⟨HRA.out _ hst.grown, ⟨hbc, HBM.out⟩, by rw [← HL.out]; exact PosAt.of_owns hown5, ⟨hpc, hpm⟩, by rw [← HL.out]; exact hmap5, by rw [← HL.out]; exact HME.out.symm, by omega⟩
   have hkbz : kb < w5.heap.size := (HRA.out _ hst.grown).1
   have hpbz : pb < w5.heap.size := hctx.pos.lt
   have hmbz5 : mb < w5.heap.size := hctx.map.lt
   have HG5 := Kh hst.grown; have HCX := Kh hctx
   have HPC5 : Hid (∀ W : World, w5.grownBy W none → W.cell? ⟨P, 0, none⟩ = some (.slice (some ⟨kb, off, none⟩) bs.length cap)) := Kh (fun W hg => HPC.out W (zB HG5.out hg (by simp)))
   have HSTA : Hid (∀ W', w5.grownBy W' none → Calls Try.prog 59 #[.int .i64 (n : Int)] W' fun e W'' => ∃ g, e = .returned (.slice (some ⟨g, 0, none⟩) n n) ∧ w5.heap.size ≤ g ∧ Arr W'' g 4 (bls (sN n)) ∧ w5.grownBy W'' none ∧ W''.cell? ⟨P, 0, none⟩ = some (.slice (some ⟨kb, off, none⟩) bs.length cap)) := Kh (fun W' hg => (pstart_any W' n hn0m (by omega)).mono (by
    rintro e W'' ⟨rfl, h1, h2⟩
    exact ⟨_, rfl, hg.size, h1, zB hg h2 (by simp), HPC5.out _ (zB hg h2 (by simp))⟩))
   have HSPR : Hid (∀ W' g S, w5.grownBy W' none → w5.heap.size ≤ g → S.length = n → Arr W' g 4 (bls S) → Calls Try.prog 58 #[.agg #[.slice (some ⟨kb, off, none⟩) bs.length cap], .slice (some ⟨pb, 0, none⟩) n pc, .map (some mb), .slice (some ⟨g, 0, none⟩) n n] W' fun e W'' => e = .returned (.slice (some ⟨g, 0, none⟩) n n) ∧ Arr W'' g 4 (bls (spr L S)) ∧ W'.grownBy W'' (some g)) := Kh (fun W' g S hg h1 h2 h3 => by
    rw [HL.out]
    exact spread_any W' bs kb off cap pb pc mb n g S (HCX.out.grow hg) h2 h3 (by omega) (by omega) (by omega))
   obtain ⟨R1, hR1⟩ : ∃ R1, R1 = bs.length - 1 := ⟨_, rfl⟩
   have e71 : (bs.length : Int) - 1 = (R1 : Int) := by omega
   have e72 : IntKind.i64.wrap ((bs.length : Int) - 1) = (R1 : Int) := by rw [e71]; exact pE (by omega)
   have hR1l : R1 < bs.length := by omega
   have hR1i : (R1 : Int) < bs.length := by omega
   have HR1 := Kh hR1
   clear hR1
   have p5 := HPC5.out w5 (zO _ _)
   have hpcx : pc ≤ 9223372036854775807 := by unfold maxLen at hpm; omega
   have HS0 : Hid (spr L (sN n) = s0B L) := Kh (by rw [s0B, ← HME.out])
   clear hown5 hmap5 hctx hst htk HST hqe hpm
   go_upto_region 16 with fail
   go_cut [13] (fun s13 wx => ∃ (g6 : Nat) (w7 : World), s13 = .slice (some ⟨w7.heap.size, 0, none⟩) 1 1 ∧ w5.heap.size ≤ g6 ∧ Arr w7 g6 4 (bls (spr L (sN n))) ∧ w5.grownBy w7 none ∧ wx = w7.alloc (.cells #[.slice (some ⟨g6, 0, none⟩) n n] 46))
   case first =>
    go_region_law (first | (go_simp; go_at_call 59; refine (HSTA.out _ (by first | exact zO _ _ | exact zX _ none | exact zJ _ _ none)).mono ?_; rintro e w6 ⟨g6, rfl, hlo6, harr6, hgr6, p6⟩) | (go_simp; go_at_call 58; refine (HSPR.out _ g6 _ hgr6 hlo6 (by simp [sN]) harr6).mono ?_; rintro e w7 ⟨rfl, harr7, hgr7⟩) | fail)
    all_goals
     go_wp2_with fail
     go_meet
     exact ⟨g6, w7, rfl, hlo6, harr7, zB hgr6 hgr7 (fun x e => by have := Option.some.inj e; omega), rfl⟩
   case rest =>
   obtain ⟨g6, w7, rfl, hlo6, harr7, hgr5, rfl⟩ := hcut
   obtain ⟨SS, hSS⟩ : ∃ SS, SS = w7.heap.size := ⟨_, rfl⟩
   obtain ⟨w8, hw8⟩ : ∃ w8, w8 = w7.alloc (.cells #[.slice (some ⟨g6, 0, none⟩) n n] 46) := ⟨_, rfl⟩
   have hown8 : w8.ownsRow w5.heap.size 46 1 (.slice (some ⟨SS, 0, none⟩) 1 1) 1 [setV n g6] := by
    rw [hw8, hSS]; exact World.ownsRow_lit w7 #[setV n g6] 1 hgr5.size (by unfold maxLen; omega) rfl
   have hg8 := World.grownBy_alloc w7 (.cells #[.slice (some ⟨g6, 0, none⟩) n n] 46) none
   rw [← hw8] at hg8
   obtain ⟨oD, hoD⟩ : ∃ oD, oD = w8.heap.size := ⟨_, rfl⟩
   obtain ⟨w9, hw9⟩ : ∃ w9, w9 = w8.alloc (.cells #[.int .i64 (k : Int), .int .i64 0, .slice none 0 0, .slice none 0 0] 49) := ⟨_, rfl⟩
   have hg9 := World.grownBy_alloc w8 (.cells #[.int .i64 (k : Int), .int .i64 0, .slice none 0 0, .slice none 0 0] 49) none
   have hb9 := heap_alloc_new w8 (.cells #[.int .i64 (k : Int), .int .i64 0, .slice none 0 0, .slice none 0 0] 49)
   rw [← hw9] at hg9 hb9
   rw [← hoD] at hb9
   have hgr59 : w5.grownBy w9 none := zB (zB hgr5 hg8 (by simp)) hg9 (by simp)
   have hz58 := (zB hgr5 hg8 (by simp)).size
   have hoD5 : w5.heap.size ≤ oD := by omega
   have hs0l : (s0B L).length = n := by rw [s0B_length]; exact HME.out.symm
   have HDS : Hid (DSt w5 w9 oD (fun _ => False) k n [s0B L] [g6] (rFs L [s0B L] 0) (rTs L k [s0B L] 0) [] none 0 none 0 (some ⟨SS, 0, none⟩) 1) := Kh
    ⟨BX.start hb9 hoD5 hgr59, yB hown8 hg9, rfl, fun j hj => by
     have : j = 0 := by simp at hj; exact hj
     subst this
     have e : spr L (sN n) = s0B L := HS0.out
     rw [e] at harr7
     exact (harr7.kept hg8 (by simp)).kept hg9 (by simp), fun g hg => by simp at hg; subst hg; exact hlo6, fun g hg => by simp [Value.ownBlock], fun x hx => by simp at hx; subst hx; exact hs0l⟩
   have HOD1 : Hid (oD = SS + 1) := Kh (by rw [hoD, hw8, zL, hSS])
   have HW8 := Kh hw8; have HW9 := Kh hw9; have HOD := Kh hoD; have HSE := Kh hSS
   clear hw8 hown8 hg8 hw9 hg9 hb9 hgr59 hz58 hs0l harr7 hgr5 hSS hoD p5 HSTA
   go_wp2
   rw [← HSE.out, ← HW8.out]
   go_upto_region 18 with fail
   rw [← HW9.out, ← HOD1.out]
   have HBF : Hid (BfsI (nxtB L) k (s0B L) [s0B L] 0 0) := Kh BfsI.start
   go_wp2
   go_loopg [13, 15, 16, 17, 18, 19, 20, 21, 22, 113] 4194304 (fun gh s13 i s16 s17 s18 s19 s20 s21 s22 s113 wr => ∃ (q : Nat) (l : List (List Bool)) (gs : List Nat) (hs : List Value) (X : Nat → Prop) (sf : Option Addr) (cf : Nat) (sn : Option Addr) (cn : Nat) (ss : Option Addr) (sc : Nat), gh + q = 4194304 ∧ i = .int .i64 q ∧ s13 = .slice ss l.length sc ∧ BfsI (nxtB L) k (s0B L) l q 0 ∧ DSt w5 wr oD X k n l gs (rFs L l q) (rTs L k l q) hs sf cf sn cn ss sc)
   case atStart => exact ⟨0, _, _, _, _, _, _, _, _, _, _, rfl, rfl, rfl, HBF.out, HDS.out⟩
   case round =>
    clear HBF HDS
    obtain ⟨q, l, gs, hs, X, sf, cf, sn, cn, ss, sc, hgh, rfl, rfl, hbf, hds⟩ := hrel
    have HGH := Kh hgh; have HBF := Kh hbf; have HDS := Kh hds
    have hl22 : l.length ≤ 4194304 := by
     have h1 := mY n l hbf.nd hds.ll
     have h2 : 2 ^ n ≤ 2 ^ 22 := Nat.pow_le_pow_right (by omega) hm
     have h3 : 2 ^ 22 = 4194304 := by decide
     omega
    by_cases hq : q < l.length
    ·have hq' : (q : Int) < l.length := by omega
     obtain ⟨hq0, rfl, hsc, hscm, hhd⟩ := hds.hd (by omega)
     have chd := hhd q hq
     obtain ⟨gi, hgi⟩ : ∃ gi, gi = gs.getD q 0 := ⟨_, rfl⟩
     obtain ⟨S, hS⟩ : ∃ S, S = l.getD q [] := ⟨_, rfl⟩
     have hrow := hds.row q hq
     rw [← hgi, ← hS] at hrow
     rw [← hgi] at chd
     obtain ⟨ul, hul⟩ : ∃ u, u = bs.getD R1 ⟨#[]⟩ := ⟨_, rfl⟩
     have hgr5 := hds.bx.grown
     have cul := xT ((HCX.out.grow hgr5).blk) R1 hR1l
     rw [← hul] at cul
     have hSl : S.length = n := by rw [hS, zI hq]; exact hds.ll _ (List.getElem_mem hq)
     have hnum := (HCX.out.grow hgr5).num (bi := R1) (bk := ul.size) hR1l (by rw [← hul]; exact Nat.le_refl _)
     obtain ⟨F, hF⟩ : ∃ F, F = offP L R1 + ul.size := ⟨_, rfl⟩
     rw [← HL.out, ← hF] at hnum
     have hFn := hnum.2
     have cF := hrow.bool F (by rw [hSl]; exact hFn)
     have hfin : S.getD F false = finP L S := by
      rw [finP, bitP, hF]
      have e1 : L.length - 1 = R1 := by rw [HLL.out]; exact HR1.out.symm
      rw [e1, HLP.out R1 hR1l, ← hul]
     rw [hfin] at cF
     obtain ⟨bf, hbfe⟩ : ∃ bf, bf = finP L S := ⟨_, rfl⟩
     rw [← hbfe] at cF
     have HFN := Kh hbfe; have HSE2 := Kh hS; have HGI := Kh hgi; have HSL := Kh hSl; have HULE := Kh hul
     have pP := HPC5.out _ hgr5
     obtain ⟨d0, d1, d2, d3⟩ := zG hds.bx.box
     have fz2 := zD hds.bx.box 2
     have HFL : Hid ((rFs L l q).length = q) := Kh (rFs_len (by omega))
     have HTL : Hid ((rTs L k l q).length = q) := Kh (rTs_len (by omega))
     rw [HFL.out] at d2
     rw [HTL.out] at d3
     obtain ⟨wo, rfl⟩ : ∃ wo : World, wo = wr := ⟨_, rfl⟩
     have hscm' : sc ≤ 9223372036854775807 := by unfold maxLen at hscm; omega
     have hlk : ∀ qq, (Instr.lookup 84 (.map (some mb)) (.agg #[.int .i64 (R1 : Int), .int .i64 (ul.size : Int)]) false).run Try.prog (wo.drewN qq) = .ok (.int .i64 (F : Int)) (wo.drewN qq) := fun qq => by
      have := (((HCX.out.grow hgr5).grow (zJ wo qq none)).num (bi := R1) (bk := ul.size) hR1l (by rw [← HULE.out]; exact Nat.le_refl _)).1
      rw [← HL.out, ← hF] at this
      exact this
     have hlk1 : (Instr.lookup 84 (.map (some mb)) (.agg #[.int .i64 (R1 : Int), .int .i64 (ul.size : Int)]) false).run Try.prog wo.drew = .ok (.int .i64 (F : Int)) wo.drew := by
      have := (((HCX.out.grow hgr5).grow (zX wo none)).num (bi := R1) (bk := ul.size) hR1l (by rw [← HULE.out]; exact Nat.le_refl _)).1
      rw [← HL.out, ← hF] at this
      exact this
     have hlk0 : (Instr.lookup 84 (.map (some mb)) (.agg #[.int .i64 (R1 : Int), .int .i64 (ul.size : Int)]) false).run Try.prog wo = .ok (.int .i64 (F : Int)) wo := hnum.1
     have hoDr := zQ hds.bx.box
     have HOF : Hid (∀ W1 : World, wo.grownBy W1 none → W1.ownsRow oD 4 1 (.slice sf q cf) q (bls (rFs L l q)) ∧ oD ≤ W1.heap.size) := Kh (fun W1 hg => ⟨by have := yB HDS.out.bx.ownF hg; rwa [HFL.out] at this, by have := hg.size; omega⟩)
     have HPUSH : Hid (∀ (W1 w' : World) (sf' : Option Addr) (cf' : Nat), w'.ownsRow oD 4 1 (.slice sf' (q + 1) cf') (q + 1) (bls (rFs L l q) ++ [.bool bf]) → W1.grownBy w' (Value.slice sf q cf).ownBlock → lC W1 w' (.slice sf q cf) (.slice sf' (q + 1) cf') → wo.grownBy W1 none →
       DSt w5 (w'.setCell ⟨oD, 2, none⟩ (.slice sf' (q + 1) cf')) oD X k n l gs (rFs L l (q + 1)) (rTs L k l q) hs sf' cf' sn cn (some ⟨hq0, 0, none⟩) sc ∧ w'.frozen? ⟨oD, 2, none⟩ = false ∧ w'.cell? ⟨oD, 2, none⟩ = some (.slice sf q cf)) := Kh (fun W1 w' sf' cf' ho hg hmv h1 => by
      have hS1 := HDS.out.grow h1
      have hF1 := hS1.bx.ownF
      have hb0 := hS1.bx.box
      rw [HFL.out] at hF1 hb0
      have hb1 := zA hb0 hg (zM hF1 hb0 (by decide))
      have hp := hS1.pushF (b := bf) HFL.out ho hg hmv rfl
      rw [HFN.out, HSE2.out, ← rFs_next hq] at hp
      exact ⟨hp, zD hb1 2, (zG hb1).2.2.1⟩)
     clear hgh hbf hds hhd hgi hS hrow hul hgr5 hSl hnum hF hfin hbfe
     go_upto_region 21 with fail
     refine rd_reg (D := fun W1 sf1 cf1 => DSt w5 W1 oD X k n l gs (rFs L l (q + 1)) (rTs L k l q) hs sf1 cf1 sn cn (some ⟨hq0, 0, none⟩) sc) HOF HPUSH hlk hlk1 hlk0 d2 fz2 pP cF cul chd hlm' hcm hbc hm hR1l hq hsc hscm' hFn hl22 ?_
     intro z79 z80 z81 z82 z83 z84 z85 z86 z87 z88 z89 z90 z91 z92 z93 z94 z95 z96 z97 z98 z99 w8 sf8 cf8 hds8
     have HD8 := Kh hds8
     clear hds8 HPUSH HOF hlk hlk0 hlk1 d0 d1 d2 d3 fz2 pP cF cul chd
     go_wp2
     go_loopg [13, 16, 17, 18, 19, 20, 21, 22, 113] k (fun gh s13 s16 i s18 s19 s20 s21 s22 s113 wr => ∃ (x : Nat) (l : List (List Bool)) (gs : List Nat) (ss : Option Addr) (sc : Nat) (sr : Option Addr) (cr : Nat), gh + x = k ∧ i = .int .i64 x ∧ s13 = .slice ss l.length sc ∧ s16 = .slice sr x cr ∧ BfsI (nxtB L) k (s0B L) l q x ∧ q < l.length ∧ l.getD q [] = S ∧ gs.getD q 0 = gi ∧ DSt w5 wr oD X k n l gs (rFs L l (q + 1)) (rTs L k l q) hs sf8 cf8 sn cn ss sc ∧ wr.ownsRow w5.heap.size 3 1 (.slice sr x cr) x (nats (pL L l S x)) ∧ ∀ j, (Value.slice sr x cr).ownBlock = some j → ¬ X j)
     case atStart => exact ⟨0, l, gs, _, sc, none, 0, rfl, rfl, rfl, rfl, HBF.out, hq, HSE2.out.symm, HGI.out.symm, HD8.out, World.ownsRow_nil _ _ _ _, fun j hj => by simp [Value.ownBlock] at hj⟩
     case round =>
      clear HDS HBF hq' HD8 hscm hscm' hsc HFL HTL hl22
      obtain ⟨x, l, gs, ss, sc, sr, cr, hghx, rfl, rfl, rfl, hbf, hql, hlS, hgG, hds, hro, hrx⟩ := hrel
      have HGX := Kh hghx; have HBF := Kh hbf; have HDS := Kh hds; have HRO := Kh hro; have HRX := Kh hrx; have HLS := Kh hlS; have HGG := Kh hgG
      have hl22 : l.length ≤ 4194304 := by
       have h1 := mY n l hbf.nd hds.ll
       have h2 : 2 ^ n ≤ 2 ^ 22 := Nat.pow_le_pow_right (by omega) hm
       have h3 : 2 ^ 22 = 4194304 := by decide
       omega
      have hgr5 := hds.bx.grown
      have HGR5 := Kh hgr5
      have hz5 := hgr5.size
      by_cases hx : x < k
      ·have hx' : (x : Int) < k := by omega
       obtain ⟨hq1, rfl, hsc, hscm, hhd⟩ := hds.hd (by omega)
       have HHD := Kh hhd
       have hrow := hds.row q hql
       rw [hgG, hlS] at hrow
       have HROW := Kh hrow
       have hscm' : sc ≤ 9223372036854775807 := by unfold maxLen at hscm; omega
       have hq' : (q : Int) < l.length := by omega
       obtain ⟨wA, rfl⟩ : ∃ wA : World, wA = wr := ⟨_, rfl⟩
       clear hghx hbf hds hro hrx hlS hgG hhd hrow hgr5 hscm
       obtain ⟨G, hG⟩ : ∃ G, G = wA.heap.size := ⟨_, rfl⟩
       have HGE := Kh hG
       go_wp2_with (first | (at_make; refine pV rfl _ _ _ rfl wL rfl .i64 .i64 _ _ n rfl rfl rfl rfl ?b1 ?b2 ?_; (case b1 => omega); (case b2 => (unfold maxLen; omega)); intro ws harr hgs hlts; rw [← hG] at harr hlts ⊢; (have chd := (cellG (HHD.out q hql) hgs)); rw [HGG.out] at chd; (have HA0 : Hid (Arr ws G 4 (bls (yD L n S x 0))) := Kh (by rw [yD, sJ]; exact harr)); (have HGS := Kh hgs); clear harr hgs hG) | fail)
       refine rd_pos HL HLL HLP HME HPV HCX HGR5 HPC5 HROW HSL HGE HA0 HGS hlm' hcm hbc hpc hpcx hm hn0m hk6 hx ?_
       intro z19 z20 z21 z113 z114 z115 z116 z117 z118 z119 z120 z121 z122 z123 z124 z125 z126 z127 z128 z129 z130 z131 z132 z133 z134 z135 z136 z137 z138 z139 z140 z141 z142 z143 z144 z145 z146 z147 z148 z149 z150 z151 z152 z153 z154 z155 z156 z157 z158 z159 z160 z161 z162 z163 z164 z165 z166 z167 z168 z169 z170 wr harr hgp
       clear HA0 HGS chd
       have HGW := Kh hgp
       have hgp5 := zB HGR5.out hgp (by simp)
       have HAN := Kh harr
       obtain ⟨T, hT⟩ : ∃ T, T = nxtB L S x := ⟨_, rfl⟩
       have hTe : spr L (yD L n S x n) = T := by rw [hT, nxtB, ← HME.out]
       have hTl : T.length = n := by rw [hT, nxtB_length]; exact HME.out.symm
       have hG5 : w5.heap.size ≤ G := by have := HGE.out; omega
       have pPr := HPC5.out wr hgp5
       have HSP := Kh (HSPR.out wr G _ hgp5 hG5 (wR L n S x n) HAN.out)
       rw [hTe] at HSP
       have HT := Kh hT; have HTE := Kh hTe; have HTN := Kh hTl
       clear harr hgp hgp5 hT hTe hTl 
       go_wp2_with fail
       refine HSP.out.mono ?_
       rintro e w7 ⟨rfl, harr7, hgr7⟩
       have hgA7 : wA.grownBy w7 none := zB HGW.out hgr7 (fun y e => by have e : G = y := Option.some.inj e; have := HGE.out; omega)
       have HA7 := Kh harr7; have HG7 := Kh hgA7
       clear harr7 hgr7 hgA7 HSP HAN HGW
       go_wp2
       go_loopg [22] l.length (fun gh s22 wq => ∃ j : Nat, gh + j = l.length ∧ s22 = .int .i64 j ∧ (∀ i, i < j → l.getD i [] ≠ T) ∧ w7.grownBy wq none)
       case atStart => exact ⟨0, rfl, rfl, fun i hi => by omega, zO _ _⟩
       case round =>
        obtain ⟨j, hghj, rfl, hnot, hgq⟩ := hrel
        have HGJ := Kh hghj; have HNT := Kh hnot; have HGQ := Kh hgq
        have hgAq := zB HG7.out hgq (by simp)
        have HGAQ := Kh hgAq
        by_cases hj : j < l.length
        ·have hj' : (j : Int) < l.length := by omega
         have hjd : decide ((j : Int) < (l.length : Int)) = true := by rw [decide_eq_true_eq]; exact hj'
         have hje : ((j : Int) == (l.length : Int)) = false := by rw [beq_eq_false_iff_ne]; omega
         have chj := cellG (HHD.out j hj) hgAq
         obtain ⟨gj, hgj⟩ : ∃ g, g = gs.getD j 0 := ⟨_, rfl⟩
         rw [← hgj] at chj
         have hrj := (HDS.out.row j hj).kept hgAq (by simp)
         rw [← hgj] at hrj
         have HSM := Kh (psame_any wr gj G n (l.getD j []) T (HDS.out.ll _ (by rw [zI hj]; exact List.getElem_mem hj)) HTN.out (by omega) hrj (HA7.out.kept hgq (by simp)))
         clear hghj hnot hgq hgAq hgj hrj
         by_cases heq : l.getD j [] = T
         ·have hb : (l.getD j [] == T) = true := by rw [beq_iff_eq]; exact heq
          rw [hb] at HSM
          have HEQ := Kh heq
          clear hb heq
          go_wp2_with fail
          refine HSM.out.mono ?_
          rintro e w8 ⟨rfl, hg8⟩
          have hgA8 := zB HGAQ.out hg8 (by simp)
          have HGA8 := Kh hgA8
          have HRO8 := Kh (yB HRO.out hgA8)
          have hz8 := hgA8.size
          clear hg8 hgA8 HSM
          go_wp2_with (first | (at_builtin; refine app1s rfl _ _ _ rfl xI w5.heap.size (.slice sr x cr) x (nats (pL L l S x)) rfl HRO8.out (.int .i64 (j : Int)) rfl rfl ?a1 ?a2 ?a3 ?_; (case a1 => (unfold maxLen; omega)); (case a2 => omega); (case a3 => omega); intro sr9 cr9 v9 hown9 hg9 hz9 hmv9; (have HO9 := Kh hown9); (have HG9 := Kh hg9); (have HM9 := Kh hmv9); clear hown9 hg9 hmv9) | fail)
          go_roundg (k - (x + 1))
          case measure => have := HGX.out; omega
          case rel =>
           have hidx : l.idxOf (nxtB L S x) = j := by rw [← HT.out]; exact idx_first hj HEQ.out HNT.out
           have hmem : nxtB L S x ∈ l := by rw [← HT.out, ← HEQ.out, zI hj]; exact List.getElem_mem hj
           have hd8 := HDS.out.grow HGA8.out
           refine ⟨x + 1, l, gs, _, sc, sr9, cr9, by have := HGX.out; omega, by go_num, rfl, rfl, HBF.out.old (by rw [← HLS.out, zI hql, List.getElem?_eq_getElem hql]) hmem, hql, HLS.out, HGG.out, hd8.appI HRO8.out (Nat.le_refl _) HRX.out HG9.out, ?_, fun y hy => ?_⟩
           ·rw [lL, hidx, rE]; exact HO9.out
           ·rcases HM9.out with h9 | ⟨_, h9⟩
            ·rw [h9] at hy; exact HRX.out y hy
            ·intro hX
             have h1 := h9 y hy
             have h2 := hd8.bx.lt y hX
             omega
         ·have hb : (l.getD j [] == T) = false := by rw [beq_eq_false_iff_ne]; exact heq
          rw [hb] at HSM
          have HNE := Kh heq
          clear hb heq
          go_wp2_with fail
          refine HSM.out.mono ?_
          rintro e w8 ⟨rfl, hg8⟩
          have HG8 := Kh hg8
          clear hg8 HSM
          go_wp2
          go_roundg (l.length - (j + 1))
          case measure => have := HGJ.out; omega
          case rel =>
           refine ⟨j + 1, by have := HGJ.out; omega, by go_num, fun i hi => ?_, zB HGQ.out HG8.out (by simp)⟩
           by_cases e9 : i = j
           ·rw [e9]; exact HNE.out
           ·exact HNT.out i (by omega)
        ·have hjl : j = l.length := by have := HGJ.out; omega
         have hj' : ¬ (j : Int) < l.length := by omega
         have hjd : decide ((j : Int) < (l.length : Int)) = false := by rw [decide_eq_false_iff_not]; exact hj'
         have hje : ((j : Int) == (l.length : Int)) = true := by simp [hjl]
         have HJL := Kh hjl
         have HOWQ := Kh (yB HDS.out.own hgAq)
         have HROQ := Kh (yB HRO.out hgAq)
         have hzq := hgAq.size
         clear hghj hnot hgq hgAq hjl
         go_wp2_with (first | (at_builtin; refine app_lit rfl _ _ _ rfl elem_brow w5.heap.size (.slice (some ⟨hq1, 0, none⟩) l.length sc) l.length (gs.map (setV n)) rfl HOWQ.out [.slice (some ⟨G, 0, none⟩) n n] rfl rfl ?a0 ?a1 ?a2 ?a3 ?_; (case a0 => (intro u hu; simp at hu; subst hu; rfl)); (case a1 => (unfold maxLen; omega)); (case a2 => omega); (case a3 => omega); intro ss8 sc8 w8 hown8 hg8; (have HO8 := Kh hown8); (have HG8 := Kh hg8); (have HRO8 := Kh (HROQ.out.kept hg8 (uP HROQ.out HOWQ.out (by decide)))); (have hz8 := hg8.size); clear hown8 hg8) | (at_builtin; refine app1s rfl _ _ _ rfl xI w5.heap.size (.slice sr x cr) x (nats (pL L l S x)) rfl HRO8.out (.int .i64 (j : Int)) rfl rfl ?a1 ?a2 ?a3 ?_; (case a1 => (unfold maxLen; omega)); (case a2 => omega); (case a3 => omega); intro sr9 cr9 v9 hown9 hg9 hz9 hmv9; (have HO9 := Kh hown9); (have HG9 := Kh hg9); (have HM9 := Kh hmv9); clear hown9 hg9 hmv9) | fail)
         go_roundg (k - (x + 1))
         case measure => have := HGX.out; omega
         case rel =>
          have hnm : nxtB L S x ∉ l := by
           rw [← HT.out]
           exact idx_none (fun i hi => HNT.out i (by have := HJL.out; omega))
          have hdq := HDS.out.grow HGAQ.out
          have hd8 := hdq.pushS (T := T) rfl HTN.out (HA7.out.kept HGQ.out (by simp)) hG5 (fun e => by
           have h1 := (HDS.out.bx.ownF.lt G e).2
           have := HGE.out
           omega) HO8.out HG8.out
          have hd9 := hd8.appI HRO8.out (Nat.le_refl _) HRX.out HG9.out
          have hgetq : ∀ {α : Type} (a b : List α) (d : α), q < a.length → (a ++ b).getD q d = a.getD q d := fun a b d h => by
           rw [List.getD_eq_getElem?_getD, List.getD_eq_getElem?_getD, List.getElem?_append_left h]
          have hidx : (l ++ [T]).idxOf T = j := by
           rw [List.idxOf_append, if_neg (by rw [HT.out]; exact hnm), HJL.out]; simp
          have hSq : S = l.getD q [] := HLS.out.symm
          have hb9 := HBF.out.new hx (by rw [← HLS.out, zI hql, List.getElem?_eq_getElem hql]) hnm
          rw [← HT.out] at hb9
          refine ⟨x + 1, l ++ [T], gs ++ [G], ss8, sc8, sr9, cr9, by have := HGX.out; omega, by go_num, by rw [List.length_append]; rfl, rfl, hb9, by rw [List.length_append]; omega, by rw [hgetq _ _ _ hql]; exact HLS.out, by rw [hgetq _ _ _ (by rw [HDS.out.len]; exact hql)]; exact HGG.out, ?_, ?_, fun y hy => ?_⟩
          ·rw [rFs_more (by omega), rTs_more HBF.out]; exact hd9
          ·have e1 : pL L (l ++ [T]) S x = pL L l S x := by
            rw [hSq]; exact rowTo_more HBF.out hql (by omega)
           rw [lL, ← HT.out, hidx, e1, rE]; exact HO9.out
          ·rcases HM9.out with h9 | ⟨_, h9⟩
           ·rw [h9] at hy; exact HRX.out y hy
           ·intro hX
            have h1 := h9 y hy
            have h2 := hd8.bx.lt y hX
            omega
      ·have hxk : x = k := by have := HGX.out; omega
       have hx' : ¬ (x : Int) < k := by omega
       obtain ⟨d0, d1, d2, d3⟩ := zG hds.bx.box
       have fz3 := zD hds.bx.box 3
       have hTLn : (rTs L k l q).length = q := rTs_len (by omega)
       have hN := hds.bx.ownN
       rw [hTLn] at d3 hN
       have HN := Kh hN; have HTL := Kh hTLn; have HXK := Kh hxk
       have hoDr := zQ hds.bx.box
       clear hghx hbf hds hro hrx hlS hgG hgr5 hxk hTLn hN
       go_wp2_with (first | (at_builtin; refine app1s rfl _ _ _ rfl vX oD (.slice sn q cn) q hs rfl HN.out (.slice sr x cr) rfl rfl ?a1 ?a2 ?a3 ?_; (case a1 => (unfold maxLen; omega)); (case a2 => omega); (case a3 => omega); intro sn6 cn6 w10 hown6 hg6 hz6 hmv6; (have HO6 := Kh hown6); (have HG6 := Kh hg6); (have hb6 := zA HDS.out.bx.box hg6 (zM HN.out HDS.out.bx.box (by decide))); (obtain ⟨e0, e1', e2, e3⟩ := zG hb6); (have fz6 := zD hb6 3); clear hown6 hg6 hmv6) | fail)
       go_roundg (4194304 - (q + 1))
       case measure => have := HGH.out; omega
       case rel =>
        have hbk := HBF.out
        rw [HXK.out] at hbk
        have hRo := HRO.out
        have hp := HDS.out.pushN (Y := fun j => X j ∨ (Value.slice sr x cr).ownBlock = some j) HTL.out (fun j hj => .inl hj) (fun j hj => by
         rcases hj with hj | hj
         ·exact HDS.out.bx.lt j hj
         ·exact (hRo.lt j hj).2) HO6.out HG6.out (row := tA (nxtB L) k l S) (by
          have h9 := RowX.of_owns (X := fun j => X j ∨ (Value.slice sr x cr).ownBlock = some j) hRo (fun y hy => .inr hy)
          rw [show pL L l S x = pL L l S k by rw [HXK.out], rowTo_full] at h9
          exact h9) rfl
        have e1 : rTs L k l (q + 1) = rTs L k l q ++ [tA (nxtB L) k l S] := by rw [rTs_next hql, HLS.out]
        rw [← e1] at hp
        exact ⟨q + 1, l, gs, _, _, sf8, cf8, sn6, cn6, ss, sc, by have := HGH.out; omega, by go_num, rfl, hbk.next hql, hp⟩
    ·have hq' : ¬ (q : Int) < l.length := by omega
     have hql : q = l.length := by have := hbf.le; omega
     have hbd := hbf.done hq
     have hvd : VD (bfsA (nxtB L) k (finP L) l) l.length k := hbd.vd hk1 hk6 hl22
     have hFl : (rFs L l q).length = q := rFs_len (by omega)
     have hTl : (rTs L k l q).length = q := rTs_len (by omega)
     have hdok := (hds.bx.built (hFl.trans hTl.symm)).dfa
     have hAe : (⟨(k : Int), 0, rFs L l q, rTs L k l q⟩ : DfaV) = bfsA (nxtB L) k (finP L) l := by
      rw [rFs, rTs, hql, List.take_length]; rfl
     rw [hAe, hFl, hTl] at hdok
     have hL0 : 0 < L.length := by rw [HLL.out]; exact hn0
     have hmin : minD (bfsA (nxtB L) k (finP L) l) k = uJ bs (k : Int) := by
      rw [HD.out]
      have hpv := oL (k := k) hk1 hk6 hn0 htot
      refine min_congr hvd hpv fun s hs => ?_
      obtain ⟨b, us, hb, hne⟩ := pat_nonempty HPV.out
      have e1 := hbd.acc (fin := finP L) hs
      rw [e1, Bool.eq_iff_iff, finP_pat hL0, HL.out, hb]
      exact (pat_acc hne hs).symm
     have HMI := Kh (minimal_any wr.heap.size wr _ (bfsA (nxtB L) k (finP L) l) l.length k (Nat.le_refl _) hdok hvd)
     rw [hmin] at HMI
     obtain ⟨R, hR⟩ : ∃ R, R = uJ bs (k : Int) := ⟨_, rfl⟩
     rw [← hR] at HMI
     have hRv : ∃ N, N ≤ 66 ∧ VD R N k := by rw [hR]; exact jM HPV.out
     obtain ⟨N, hN66, hRV⟩ := hRv
     have hRk : R.letters = k := hRV.hk
     have hRs : R.start = 0 := by rw [hR, HD.out]; rfl
     have hRf : R.final.length = N := hRV.hn
     have hRn : R.next.length = N := hRV.nl
     obtain ⟨d0, d1, d2, d3⟩ := zG hds.bx.box
     rw [hFl] at d2
     rw [hTl] at d3
     have HG19 : Hid (w1.grownBy wr none) := Kh (zB HG5.out hds.bx.grown (by simp))
     have HR := Kh hR; have HRK := Kh hRk; have HRS := Kh hRs; have HRF := Kh hRf; have HRN := Kh hRn
     have hoDr := zQ hds.bx.box
     clear hgh hbf hds hbd hvd hFl hTl hdok hAe hmin hR hRV hRk hRs hRf hRn hL0 hql HBF HDS HGH
     go_wp2_with fail
     refine HMI.out.mono ?_
     rintro e x9 ⟨v9, rfl, hd9, hg9⟩
     have HDN := Kh hd9
     obtain ⟨o9, hs9, sf9, cf9, sn9, cn9, rfl, ho9, hbt9⟩ := hd9
     rw [HRK.out, HRS.out, HRF.out, HRN.out] at HDN ⊢
     have HG9 := Kh (zB HG19.out hg9 (by simp))
     have hbQ := zA HB21.out HG9.out (by simp)
     have hzr := HG19.out.size
     have hg10 := World.grownBy_alloc x9 (.cells #[.int .i64 (k : Int), .int .i64 0, .slice sf9 N cf9, .slice sn9 N cn9] 49) none
     have hb10 := heap_alloc_new x9 (.cells #[.int .i64 (k : Int), .int .i64 0, .slice sf9 N cf9, .slice sn9 N cn9] 49)
     obtain ⟨x10, hx10⟩ : ∃ x10, x10 = x9.alloc (.cells #[.int .i64 (k : Int), .int .i64 0, .slice sf9 N cf9, .slice sn9 N cn9] 49) := ⟨_, rfl⟩
     obtain ⟨o10, ho10⟩ : ∃ o10, o10 = x9.heap.size := ⟨_, rfl⟩
     rw [← hx10] at hg10 hb10
     rw [← ho10] at hb10
     have hbQ2 := zA hbQ hg10 (by simp)
     have HBQ := Kh hbQ2; have HX10 := Kh hx10; have HO10 := Kh ho10; have HG10 := Kh hg10; have HB10 := Kh hb10
     have hQr : Q < wr.heap.size := by omega
     have hN512 : ¬ (512 : Int) < N := by omega
     have hne10 : Q ≠ o10 := by have := hg9.size; omega
     clear hbt9 hg9 hbQ d0 d1 d2 d3 HMI hbQ2 hg10 hb10 hx10 ho10
     go_upto_region 46 with fail
     rw [← HX10.out, ← HO10.out]
     obtain ⟨q0, q1, q2, q3⟩ := zG HBQ.out
     obtain ⟨t0, t1, t2, t3⟩ := zG HB10.out
     have f0 := zD HBQ.out 0
     have f1 := zD HBQ.out 1
     have f2 := zD HBQ.out 2
     have f3 := zD HBQ.out 3
     go_wp2
     obtain ⟨hbz, hgz⟩ := wM HBQ.out (.int .i64 (k : Int)) (.int .i64 0) (.slice sf9 N cf9) (.slice sn9 N cn9)
     obtain ⟨wz, hwz⟩ : ∃ wz, wz = (((x10.setCell ⟨Q, 0, none⟩ (.int .i64 (k : Int))).setCell ⟨Q, 1, none⟩ (.int .i64 0)).setCell ⟨Q, 2, none⟩ (.slice sf9 N cf9)).setCell ⟨Q, 3, none⟩ (.slice sn9 N cn9) := ⟨_, rfl⟩
     rw [← hwz] at hbz hgz ⊢
     clear hwz
     obtain ⟨r0, r1, r2, r3⟩ := zG hbz
     clear q0 q1 q2 q3 f0 f1 f2 f3 t0 t1 t2 t3
     refine bodyPost_ret (v := .tuple #[.agg #[.int .i64 (k : Int), .int .i64 0, .slice sf9 N cf9, .slice sn9 N cn9], .int .i64 0]) (by simp [results, Try.results41, go_sem, r0, r1, r2, r3]) rfl ?_
     have hdz := (HDN.out.grow HG10.out).far hgz HBQ.out hQr
     refine ⟨_, by rw [HE.out], ?_, zB (zB (zB HG1.out HG9.out (by simp)) HG10.out (by simp)) hgz (fun y e => by have h7 : Q = y := Option.some.inj e; omega)⟩
     rw [← HR.out]
     exact hdz.dfa
end Go.Proofs.Ytgbfaggnnfoamaa
