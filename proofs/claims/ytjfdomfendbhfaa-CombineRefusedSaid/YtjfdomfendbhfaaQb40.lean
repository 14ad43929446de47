/- Part 40 of the proof: COf. -/
import Derived.Test.YtjfdomfendbhfaaQb39
set_option linter.unusedVariables false
set_option linter.unusedSimpArgs false
namespace Go.Proofs.Ytjfdomfendbhfaa
open Go.RowKit Go.Maps
def OfRet (w : World) (d : DfaV) (ps : List (List ByteArray)) (e : Ending) (w' : World) : Prop :=
 ∃ v u1 u2 E, e = .returned (.tuple #[v, .string u1, .string u2, .int .i64 E]) ∧ OfOut w' d ps v u1 u2 E ∧ w.grownBy w' none
theorem two_boxesO (w : World) (c1 : Array Value) (e1 : Nat) (c2 : Array Value) (e2 : Nat) : ((w.alloc (.cells c1 e1)).alloc (.cells c2 e2)).heap[w.heap.size]? = some (.cells c1 e1 (0, 0)) ∧ ((w.alloc (.cells c1 e1)).alloc (.cells c2 e2)).heap[w.heap.size + 1]? = some (.cells c2 e2 (0, 0)) ∧ w.grownBy ((w.alloc (.cells c1 e1)).alloc (.cells c2 e2)) none ∧ ((w.alloc (.cells c1 e1)).alloc (.cells c2 e2)).heap.size = w.heap.size + 2 :=
 ⟨oE w _ _, pZ w _ _, vG (World.grownBy_alloc w _ none) _, by rw [zJ, zJ]⟩
set_option maxRecDepth 100000 in
set_option maxHeartbeats 4000000 in
theorem cof_any (Bd : Nat) (w : World) (dv pv : Value) (d : DfaV) (ps : List (List ByteArray)) (hBd : Bd ≤ w.heap.size) (hd : sC Bd w dv d) (hp : vJ Bd w pv ps) (hp4 : ps.length ≤ 4096) :
  Calls Try.prog 19 #[dv, pv] w (OfRet w d ps) := by
 have hd0 := hd
 obtain ⟨fv, nv, rfl, hf, hn⟩ := hd
 obtain ⟨fa, fc, rfl⟩ := hf.shape
 rw [xQ] at hd0 hf ⊢
 obtain ⟨na, nc, rfl⟩ := hn.shape
 obtain ⟨pa, pc, rfl⟩ := hp.shape
 obtain ⟨np, hnp⟩ : ∃ n, n = ps.length := ⟨_, rfl⟩
 obtain ⟨fl, hfl⟩ : ∃ n, n = d.final.length := ⟨_, rfl⟩
 obtain ⟨nl, hnl⟩ : ∃ n, n = d.next.length := ⟨_, rfl⟩
 obtain ⟨dl, hdl⟩ : ∃ n, n = d.letters := ⟨_, rfl⟩
 obtain ⟨ds, hds⟩ : ∃ n, n = d.start := ⟨_, rfl⟩
 have HNP := Kh hnp; have HP := Kh hp; have HDL := Kh hdl
 rw [← hnp] at hp4 HP ⊢
 rw [← hfl, ← hnl, ← hdl, ← hds] at hd0 ⊢
 have HD := Kh hd0
 obtain ⟨hb1, hb2, hgA, hzA⟩ := two_boxesO w #[.int .i64 dl, .int .i64 ds, .slice fa fl fc, .slice na nl nc] 42 #[.slice none 0 0, .slice none 0 0, .int .i64 0] 25
 obtain ⟨wA, hWA⟩ : ∃ wA, wA = (w.alloc (.cells #[.int .i64 dl, .int .i64 ds, .slice fa fl fc, .slice na nl nc] 42)).alloc (.cells #[.slice none 0 0, .slice none 0 0, .int .i64 0] 25) := ⟨_, rfl⟩
 rw [← hWA] at hb1 hb2 hgA hzA
 obtain ⟨c0, c1, c2, c3⟩ := zG hb1
 obtain ⟨Q, hQ⟩ : ∃ Q, Q = w.heap.size := ⟨_, rfl⟩
 obtain ⟨P, hP⟩ : ∃ P, P = w.heap.size + 1 := ⟨_, rfl⟩
 have HQE := Kh hQ; have HPQ : Hid (P = Q + 1) := Kh (by omega); have HPE : Hid (w.heap.size ≤ P) := Kh (by omega)
 rw [← hP] at hb2
 rw [← hQ] at hb1 c0 c1 c2 c3
 have HB1 := Kh hb1; have HB2 := Kh hb2; have HGA := Kh hgA; have HWA := Kh hWA
 have HDA := Kh (hd0.kept hgA (by simp))
 have hBA : Bd ≤ wA.heap.size := by omega
 have HVA := Kh (uF Bd wA _ d hBA HDA.out)
 obtain ⟨E, hE⟩ : ∃ E, E = wK d := ⟨_, rfl⟩
 rw [← hE] at HVA
 have HE := Kh hE
 clear hb1 hb2 hgA hWA hzA hP hQ hf hn hd0 hp hnp hfl hnl hdl hds hE
 go_enter Try.func19, Try.ntmps19
 go_upto_region 1 with fail
 rw [← HWA.out, ← HQE.out, ← HPQ.out]
 go_wp2_with fail
 refine HVA.out.mono ?_
 rintro e w1 ⟨rfl, hg1⟩
 have HGW := Kh (zA HGA.out hg1 (by simp))
 have HBPW := Kh (zB HB2.out hg1 (by simp)); have HBQ := Kh (zB HB1.out hg1 (by simp))
 have HG1 := Kh hg1
 clear hg1 HVA c0 c1 c2 c3
 by_cases hE0 : E = 0
 case neg =>
  have HBAD : Hid (ofE d ps = E) := Kh (by rw [ofE_bad (by rw [← HE.out]; exact hE0), HE.out])
  have HNE := Kh hE0
  have e1 : (E != 0) = true := by rw [bne_iff_ne]; exact hE0
  clear hE0
  have hr4 := HBPW.out
  have f40 := zE hr4 0
  have f41 := zE hr4 1
  have f42 := zE hr4 2
  have hl4 := zN hr4
  obtain ⟨v0, v1, v2⟩ := zW hr4
  go_wp2
  have g1 := zF (zF (zD w1 ⟨P, 0, none⟩ (.slice none 0 0)) (zD _ ⟨P, 1, none⟩ (.slice none 0 0))) (zD _ ⟨P, 2, none⟩ (.int .i64 0))
  have z1 := heap_setCell_same _ P 2 _ _ (.int .i64 0) (heap_setCell_same _ P 1 _ _ (.slice none 0 0) (heap_setCell_same w1 P 0 _ _ (.slice none 0 0) hr4))
  obtain ⟨w9, hw9⟩ : ∃ w9, w9 = ((w1.setCell ⟨P, 0, none⟩ (.slice none 0 0)).setCell ⟨P, 1, none⟩ (.slice none 0 0)).setCell ⟨P, 2, none⟩ (.int .i64 0) := ⟨_, rfl⟩
  rw [← hw9] at g1 z1 ⊢
  simp only [Array.setIfInBounds, List.size_toArray, List.length_cons, List.length_nil] at z1
  obtain ⟨q0, q1, q2⟩ := zW z1
  refine bodyPost_ret (v := .tuple #[.agg #[.slice none 0 0, .slice none 0 0, .int .i64 0], .string ⟨#[]⟩, .string ⟨#[]⟩, .int .i64 E]) (by simp [results, Try.results19, go_sem, q0, q1, q2, Result.andThen]) rfl ?_
  exact ⟨_, _, _, _, rfl, (by have := OfOut.bad (w' := w9) (d := d) (ps := ps) (by rw [HBAD.out]; exact HNE.out); rwa [HBAD.out] at this), zA HGW.out g1 (fun j e => by have e : P = j := Option.some.inj e; have := HPE.out; omega)⟩
 case pos =>
  have HV0 : Hid (wK d = 0) := Kh (by rw [← HE.out]; exact hE0)
  subst hE0
  by_cases h3 : 300 < np
  case pos =>
   have h3' : (300 : Int) < np := by omega
   have HBAD : Hid (ofE d ps = 3) := Kh (ofE_many HV0.out (by rw [← HNP.out]; exact h3))
   have hr4 := HBPW.out
   have f40 := zE hr4 0
   have f41 := zE hr4 1
   have f42 := zE hr4 2
   have hl4 := zN hr4
   obtain ⟨v0, v1, v2⟩ := zW hr4
   go_wp2
   have g1 := zF (zF (zD w1 ⟨P, 0, none⟩ (.slice none 0 0)) (zD _ ⟨P, 1, none⟩ (.slice none 0 0))) (zD _ ⟨P, 2, none⟩ (.int .i64 0))
   have z1 := heap_setCell_same _ P 2 _ _ (.int .i64 0) (heap_setCell_same _ P 1 _ _ (.slice none 0 0) (heap_setCell_same w1 P 0 _ _ (.slice none 0 0) hr4))
   obtain ⟨w9, hw9⟩ : ∃ w9, w9 = ((w1.setCell ⟨P, 0, none⟩ (.slice none 0 0)).setCell ⟨P, 1, none⟩ (.slice none 0 0)).setCell ⟨P, 2, none⟩ (.int .i64 0) := ⟨_, rfl⟩
   rw [← hw9] at g1 z1 ⊢
   simp only [Array.setIfInBounds, List.size_toArray, List.length_cons, List.length_nil] at z1
   obtain ⟨q0, q1, q2⟩ := zW z1
   refine bodyPost_ret (v := .tuple #[.agg #[.slice none 0 0, .slice none 0 0, .int .i64 0], .string ⟨#[]⟩, .string ⟨#[]⟩, .int .i64 3]) (by simp [results, Try.results19, go_sem, q0, q1, q2, Result.andThen]) rfl ?_
   exact ⟨_, _, _, _, rfl, (by have := OfOut.bad (w' := w9) (d := d) (ps := ps) (by rw [HBAD.out]; decide); rwa [HBAD.out] at this), zA HGW.out g1 (fun j e => by have e : P = j := Option.some.inj e; have := HPE.out; omega)⟩
  case neg =>
   have h3' : ¬ (300 : Int) < np := by omega
   have HOE : Hid (ofE d ps = vL d.letters ps) := Kh (ofE_pats HV0.out (by rw [← HNP.out]; exact h3))
   have HVD := Kh (vd_of HV0.out)
   have hkk := HVD.out.hk
   have hk1 := HVD.out.k1; have hk6 := HVD.out.k6
   obtain ⟨k, hk⟩ : ∃ k, k = d.letters.toNat := ⟨_, rfl⟩
   rw [← hk] at hkk hk1 hk6 HVD
   have hdk : dl = (k : Int) := by rw [HDL.out, hkk]
   have HK : Hid (d.letters = (k : Int)) := Kh hkk
   have HKN := Kh hk
   subst hdk
   clear hkk hk
   have HB2A := HBPW
   have HAUT : Hid (Calls Try.prog 56 #[.slice pa np pc, .int .i64 (k : Int)] w1 (AutRet w1 (vL (k : Int) ps) (autD ps (k : Int)))) := Kh (automata_any Bd w1 _ ps (k : Int) (by have := HGW.out.size; omega) (HP.out.kept HGW.out (by simp)) (by rw [← HNP.out]; exact hp4))
   obtain ⟨E2, hE2⟩ : ∃ E, E = vL (k : Int) ps := ⟨_, rfl⟩
   rw [← hE2] at HAUT
   rw [HK.out, ← hE2] at HOE
   obtain ⟨c0, c1, c2, c3⟩ := zG HBQ.out
   have hz1 := HGW.out.size
   clear hE2
   go_wp2_with fail
   refine HAUT.out.mono ?_
   rintro e w2 ⟨sa, n2, sc, rfl, hg2, haut⟩
   have HGW := Kh (zA HGW.out hg2 (by simp))
   have HBPW := Kh (zB HBPW.out hg2 (by simp)); have HBQ := Kh (zB HBQ.out hg2 (by simp))
   have HAU := Kh haut
   have HZ12 : Hid (w1.heap.size ≤ w2.heap.size) := Kh hg2.size
   clear hg2 haut HAUT c0 c1 c2 c3
   by_cases hE2 : E2 = 0
   case neg =>
    have HBAD := HOE
    have HNE := Kh hE2
    have e1 : (E2 != 0) = true := by rw [bne_iff_ne]; exact hE2
    clear hE2
    have hr4 := HBPW.out
    have f40 := zE hr4 0
    have f41 := zE hr4 1
    have f42 := zE hr4 2
    have hl4 := zN hr4
    obtain ⟨v0, v1, v2⟩ := zW hr4
    go_wp2
    have g1 := zF (zF (zD w2 ⟨P, 0, none⟩ (.slice none 0 0)) (zD _ ⟨P, 1, none⟩ (.slice none 0 0))) (zD _ ⟨P, 2, none⟩ (.int .i64 0))
    have z1 := heap_setCell_same _ P 2 _ _ (.int .i64 0) (heap_setCell_same _ P 1 _ _ (.slice none 0 0) (heap_setCell_same w2 P 0 _ _ (.slice none 0 0) hr4))
    obtain ⟨w9, hw9⟩ : ∃ w9, w9 = ((w2.setCell ⟨P, 0, none⟩ (.slice none 0 0)).setCell ⟨P, 1, none⟩ (.slice none 0 0)).setCell ⟨P, 2, none⟩ (.int .i64 0) := ⟨_, rfl⟩
    rw [← hw9] at g1 z1 ⊢
    simp only [Array.setIfInBounds, List.size_toArray, List.length_cons, List.length_nil] at z1
    obtain ⟨q0, q1, q2⟩ := zW z1
    refine bodyPost_ret (v := .tuple #[.agg #[.slice none 0 0, .slice none 0 0, .int .i64 0], .string ⟨#[]⟩, .string ⟨#[]⟩, .int .i64 E2]) (by simp [results, Try.results19, go_sem, q0, q1, q2, Result.andThen]) rfl ?_
    exact ⟨_, _, _, _, rfl, (by have := OfOut.bad (w' := w9) (d := d) (ps := ps) (by rw [HBAD.out]; exact HNE.out); rwa [HBAD.out] at this), zA HGW.out g1 (fun j e => by have e : P = j := Option.some.inj e; have := HPE.out; omega)⟩
   case pos =>
    obtain ⟨-, hn2, lp, hlp, hup⟩ := HAU.out.resolve_left (fun h => h hE2)
    have hE3 : ofE d ps = 0 := by rw [HOE.out, hE2]
    have HOZ := Kh hE3
    have hn2e : n2 = np := by rw [hn2, vH, HNP.out]
    subst hn2e
    subst hE2
    have hll : lp.length = n2 := by have := congrArg List.length hlp; rw [List.length_map, ← hn2] at this; exact this
    have HUP := Kh hup; have HLP := Kh hlp; have HLL := Kh hll
    clear hn2 hlp hup HAU hll hE3
    go_upto_region 9 with fail
    obtain ⟨w5, hw5⟩ : ∃ w5, w5 = w2.drew := ⟨_, rfl⟩
    have hg5 : w2.grownBy w5 none := by rw [hw5]; exact zP w2 none
    have HW5 := Kh hw5
    have HGW := Kh (zA HGW.out hg5 (by simp))
    have HBPW := Kh (zB HBPW.out hg5 (by simp)); have HBQ := Kh (zB HBQ.out hg5 (by simp))
    have HUP := Kh (HUP.out.grow hg5)
    have HZ12 : Hid (w1.heap.size ≤ w5.heap.size) := Kh (Nat.le_trans HZ12.out hg5.size)
    have C5 : Hid (w5.cell? ⟨Q, 0, none⟩ = some (.int .i64 (k : Int)) ∧ w5.cell? ⟨Q, 1, none⟩ = some (.int .i64 ds) ∧ w5.cell? ⟨Q, 2, none⟩ = some (.slice fa fl fc) ∧ w5.cell? ⟨Q, 3, none⟩ = some (.slice na nl nc)) := Kh (zG HBQ.out)
    have HMIN : Hid (Calls Try.prog 58 #[.agg #[.int .i64 (k : Int), .int .i64 ds, .slice fa fl fc, .slice na nl nc]] w5 (MinOk w5 (minD d k))) := Kh (nZ Bd w5 _ d _ k (by have := HGW.out.size; omega) (HD.out.kept HGW.out (by simp)) HVD.out (vd_len5 HV0.out))
    clear hg5 hw5
    refine wp_region_noPanic ?_
    refine wC (G := uS 7 (fun _ => True) (fun W => W.cell? ⟨Q, 0, none⟩ = some (.int .i64 (k : Int)) ∧ W.cell? ⟨Q, 1, none⟩ = some (.int .i64 ds) ∧ W.cell? ⟨Q, 2, none⟩ = some (.slice fa fl fc) ∧ W.cell? ⟨Q, 3, none⟩ = some (.slice na nl nc))) (by kernel_rfl) ?_
    rw [← HW5.out]
    refine takeC (i := 0) (v := ?_) rfl rfl (Or.inl ⟨by rfl, ?_⟩) ⟨trivial, fun _ => C5.out⟩ ?_
    rotate_left
    ·(intro wz hz; (try dsimp only at hz); go_simp; (try with_reducible rfl))
    try simp only [Act.put, sPa, sPb, sPc]
    refine takeC (i := 5) (v := ?_) rfl rfl (Or.inl ⟨by rfl, ?_⟩) ⟨trivial, fun _ => C5.out⟩ ?_
    rotate_left
    ·(intro wz hz; (try dsimp only at hz); go_simp; (try with_reducible rfl))
    try simp only [Act.put, sPa, sPb, sPc]
    refine takeD (i := 6) (v := ?_) rfl rfl (Or.inl ⟨by rfl, ?_⟩) ⟨trivial, fun _ => C5.out⟩ ?_
    rotate_left
    ·(rintro wz ⟨-, hz⟩; obtain ⟨h1, h2, h3, h4⟩ := hz; go_simp; (try with_reducible rfl))
    try simp only [Act.put, sPa, sPb, sPc]
    obtain ⟨k1, k2, k3, k4⟩ := C5.out
    refine oneG (i := 1) (by kernel_rfl) rfl (fun K hK => ?_)
    go_simp
    refine hK.out _ _ ⟨trivial, fun _ => C5.out⟩ ?_
    clear hK K k1 k2 k3 k4
    try simp only [Act.put, sPa, sPb, sPc]
    refine oneG (i := 2) (by kernel_rfl) rfl (fun K hK => ?_)
    go_simp
    go_at_call 58
    refine HMIN.out.mono ?_
    rintro e w6 ⟨v6, rfl, hnew, hg6⟩
    obtain ⟨f6, x6, rfl, ht6⟩ := hnew.t
    obtain ⟨fa6, fl6, fc6, na6, nl6, nc6, rfl, rfl⟩ := ht6.shapes
    have HT6 := Kh ht6
    have HGW := Kh (zA HGW.out hg6 (by simp))
    have HBPW := Kh (zB HBPW.out hg6 (by simp)); have HBQ := Kh (zB HBQ.out hg6 (by simp))
    have HUP := Kh (HUP.out.grow hg6)
    have HZ12 : Hid (w1.heap.size ≤ w6.heap.size) := Kh (Nat.le_trans HZ12.out hg6.size)
    have C6 : Hid (w6.cell? ⟨Q, 0, none⟩ = some (.int .i64 (k : Int)) ∧ w6.cell? ⟨Q, 1, none⟩ = some (.int .i64 ds) ∧ w6.cell? ⟨Q, 2, none⟩ = some (.slice fa fl fc) ∧ w6.cell? ⟨Q, 3, none⟩ = some (.slice na nl nc)) := Kh (zG HBQ.out)
    obtain ⟨ml, hml⟩ : ∃ x, x = (minD d k).letters := ⟨_, rfl⟩
    obtain ⟨ms, hms⟩ : ∃ x, x = (minD d k).start := ⟨_, rfl⟩
    rw [← hml, ← hms]
    have HML := Kh hml; have HMS := Kh hms
    refine hK.out _ _ ⟨trivial, fun _ => C6.out⟩ ?_
    clear hK K C5 hnew hg6 ht6 HMIN hml hms
    try simp only [Act.put, sPa, sPb, sPc]
    refine oneG (i := 3) (by kernel_rfl) rfl (fun K hK => ?_)
    go_simp
    have hgn := heap_alloc_new w6 (.cells #[.int .i64 ml, .int .i64 ms, .slice fa6 fl6 fc6, .slice na6 nl6 nc6] 42)
    have hg7 := World.grownBy_alloc w6 (.cells #[.int .i64 ml, .int .i64 ms, .slice fa6 fl6 fc6, .slice na6 nl6 nc6] 42) none
    obtain ⟨R7, hR7⟩ : ∃ R, R = w6.heap.size := ⟨_, rfl⟩
    obtain ⟨w7, hw7⟩ : ∃ w7, w7 = w6.alloc (.cells #[.int .i64 ml, .int .i64 ms, .slice fa6 fl6 fc6, .slice na6 nl6 nc6] 42) := ⟨_, rfl⟩
    rw [← hw7] at hgn hg7 ⊢
    rw [← hR7] at hgn ⊢
    have HT7 := Kh (HT6.out.grow hg7)
    have HGW := Kh (zA HGW.out hg7 (by simp))
    have HBPW := Kh (zB HBPW.out hg7 (by simp)); have HBQ := Kh (zB HBQ.out hg7 (by simp))
    have HUP := Kh (HUP.out.grow hg7)
    have HZ12 : Hid (w1.heap.size ≤ w7.heap.size) := Kh (Nat.le_trans HZ12.out hg7.size)
    have C7 : Hid (w7.cell? ⟨Q, 0, none⟩ = some (.int .i64 (k : Int)) ∧ w7.cell? ⟨Q, 1, none⟩ = some (.int .i64 ds) ∧ w7.cell? ⟨Q, 2, none⟩ = some (.slice fa fl fc) ∧ w7.cell? ⟨Q, 3, none⟩ = some (.slice na nl nc)) := Kh (zG HBQ.out)
    refine hK.out _ _ ⟨trivial, fun _ => C7.out⟩ ?_
    clear hK K C6 hw7 hR7 hg7 HT6
    try simp only [Act.put, sPa, sPb, sPc]
    have ho7 := HUP.out.own
    rw [HLL.out] at ho7
    have hz7 := HZ12.out
    refine oneG (i := 4) (by kernel_rfl) rfl (fun K hK => ?_)
    refine jB rfl (.tmp 38) (.tmp 41) 84 rfl elem_dfa w1.heap.size (.slice sa n2 sc) n2 (mZ lp) rfl ho7 [.int .i64 ml, .int .i64 ms, .slice fa6 fl6 fc6, .slice na6 nl6 nc6] R7 rfl (0, 0) rfl hgn ?z1 ?z2 ?z3 hz7 ?_
    case z1 => intro v hv; simp only [List.mem_cons, List.not_mem_nil, or_false] at hv; rcases hv with rfl | rfl | rfl | rfl <;> rfl
    case z2 => unfold maxLen; omega
    case z3 => show (n2 + 1) * 64 ≤ 140737488355328; omega
    intro sN cN wM hown hgM hmM
    have hupM := HUP.out.push (v' := .slice sN (n2 + 1) cN) (x := (minD d k, .slice fa6 fl6 fc6, .slice na6 nl6 nc6)) HT7.out (by rw [HLL.out]; unfold dval; rw [← HML.out, ← HMS.out]; exact hown) hgM
    have HDS : Hid (DsIn wM.heap.size wM (.slice sN (n2 + 1) cN) (ofT d ps)) := Kh (by
     have := hupM.in_
     rw [List.map_append, HLP.out] at this
     rw [ofT, HK.out, Int.toNat_natCast]
     exact this)
    have HQN : Hid (∀ j, (Value.slice sa n2 sc).ownBlock = some j → w1.heap.size ≤ j) := Kh (fun j e => (ho7.lt j e).1)
    have HBPM := Kh (zB HBPW.out hgM (fun e => by have := HQN.out P e; have := zN HB2A.out; omega))
    have HBQM := Kh (zB HBQ.out hgM (fun e => by have := HQN.out Q e; have := zN HB2A.out; have := HPQ.out; omega))
    have HGM := Kh (zA HGW.out hgM (fun j e => by have := HQN.out j e; omega))
    have CM : Hid (wM.cell? ⟨Q, 0, none⟩ = some (.int .i64 (k : Int)) ∧ wM.cell? ⟨Q, 1, none⟩ = some (.int .i64 ds) ∧ wM.cell? ⟨Q, 2, none⟩ = some (.slice fa fl fc) ∧ wM.cell? ⟨Q, 3, none⟩ = some (.slice na nl nc)) := Kh (zG HBQM.out)
    have HMULT : Hid (Calls Try.prog 57 #[.slice sN (n2 + 1) cN, .int .i64 (k : Int)] wM (MulRet wM (.slice sN (n2 + 1) cN) (ofT d ps) k)) := Kh (multiply_any wM.heap.size wM _ (ofT d ps) k (Nat.le_refl _) HDS.out (by have := ofT_ok HOZ.out; rwa [← HKN.out] at this) hk1 hk6 (by rw [vM, ← HNP.out]; omega))
    refine hK.out _ _ ⟨trivial, fun _ => CM.out⟩ ?_
    clear hK K C7 ho7 hz7 hgn hown hgM hmM hupM HUP HT7 HZ12
    try simp only [Act.put, sPa, sPb, sPc]
    refine oneG (i := 7) (by kernel_rfl) rfl (fun K hK => ?_)
    go_simp
    go_at_call 57
    refine HMULT.out.mono ?_
    rintro e w8 (⟨hov, rfl, hg8⟩ | ⟨o, mb, L, nxl, fr, bl, rfl, hprod, hbfs, hL4, hnx, hfrom, hg8⟩)
    ·have HOV := Kh hov
     have HGW := Kh (zA HGM.out hg8 (by simp))
     have HBPW := Kh (zB HBPM.out hg8 (by simp))
     refine hK.out _ _ ⟨trivial, fun h => by simp at h⟩ ?_
     clear hK K CM hov hg8 HMULT
     try simp only [Act.put, sPa, sPb, sPc]
     refine takeC (i := 8) (v := ?_) rfl rfl (Or.inl ⟨by rfl, ?_⟩) ⟨trivial, fun h => by simp at h⟩ ?_
     rotate_left
     ·(intro wz hz; (try dsimp only at hz); go_simp; (try with_reducible rfl))
     try simp only [Act.put, sPa, sPb, sPc]
     refine takeC (i := 9) (v := ?_) rfl rfl (Or.inl ⟨by rfl, ?_⟩) ⟨trivial, fun h => by simp at h⟩ ?_
     rotate_left
     ·(intro wz hz; (try dsimp only at hz); go_simp; (try with_reducible rfl))
     try simp only [Act.put, sPa, sPb, sPc]
     refine takeC (i := 10) (v := ?_) rfl rfl (Or.inl ⟨by rfl, ?_⟩) ⟨trivial, fun h => by simp at h⟩ ?_
     rotate_left
     ·(intro wz hz; (try dsimp only at hz); go_simp; (try with_reducible rfl))
     try simp only [Act.put, sPa, sPb, sPc]
     refine takeC (i := 11) (v := ?_) rfl rfl (Or.inl ⟨by rfl, ?_⟩) ⟨trivial, fun h => by simp at h⟩ ?_
     rotate_left
     ·(intro wz hz; (try dsimp only at hz); go_simp; (try with_reducible rfl))
     try simp only [Act.put, sPa, sPb, sPc]
     refine takeC (i := 12) (v := ?_) rfl rfl (Or.inl ⟨by rfl, ?_⟩) ⟨trivial, fun h => by simp at h⟩ ?_
     rotate_left
     ·(intro wz hz; (try dsimp only at hz); go_simp; (try with_reducible rfl))
     try simp only [Act.put, sPa, sPb, sPc]
     refine kH (by kernel_rfl) ?_ _
     refine NoPanic.normal ?_
     have hr4 := HBPW.out
     have f40 := zE hr4 0
     have f41 := zE hr4 1
     have f42 := zE hr4 2
     have hl4 := zN hr4
     obtain ⟨v0, v1, v2⟩ := zW hr4
     go_wp2
     have g1 := zF (zF (zD w8 ⟨P, 0, none⟩ (.slice none 0 0)) (zD _ ⟨P, 1, none⟩ (.slice none 0 0))) (zD _ ⟨P, 2, none⟩ (.int .i64 0))
     have z1 := heap_setCell_same _ P 2 _ _ (.int .i64 0) (heap_setCell_same _ P 1 _ _ (.slice none 0 0) (heap_setCell_same w8 P 0 _ _ (.slice none 0 0) hr4))
     obtain ⟨w9, hw9⟩ : ∃ w9, w9 = ((w8.setCell ⟨P, 0, none⟩ (.slice none 0 0)).setCell ⟨P, 1, none⟩ (.slice none 0 0)).setCell ⟨P, 2, none⟩ (.int .i64 0) := ⟨_, rfl⟩
     rw [← hw9] at g1 z1 ⊢
     simp only [Array.setIfInBounds, List.size_toArray, List.length_cons, List.length_nil] at z1
     obtain ⟨q0, q1, q2⟩ := zW z1
     refine bodyPost_ret (v := .tuple #[.agg #[.slice none 0 0, .slice none 0 0, .int .i64 0], .string ⟨#[]⟩, .string ⟨#[]⟩, .int .i64 3]) (by simp [results, Try.results19, go_sem, q0, q1, q2, Result.andThen]) rfl ?_
     exact ⟨_, _, _, _, rfl, OfOut.over HOZ.out (by rw [← HKN.out]; exact HOV.out), zA HGW.out g1 (fun j e => by have e : P = j := Option.some.inj e; have := HPE.out; omega)⟩
    ·have HBF := Kh hbfs; have HFR := Kh hfrom
     have hLpos : 0 < L.length := List.length_pos_of_mem hbfs.mem0
     have hview := hprod.view hLpos rfl hk1
     have HGW := Kh (zA HGM.out hg8 (by simp))
     have HBPW := Kh (zB HBPM.out hg8 (by simp))
     have HDS8 := Kh (HDS.out.kept hg8 (by simp))
     have hz8 := hg8.size
     refine hK.out _ _ ⟨trivial, fun h => by simp at h⟩ ?_
     clear hK K CM hbfs hfrom hprod hnx hg8 HMULT
     try simp only [Act.put, sPa, sPb, sPc]
     refine takeC (i := 8) (v := ?_) rfl rfl (Or.inl ⟨by rfl, ?_⟩) ⟨trivial, fun h => by simp at h⟩ ?_
     rotate_left
     ·(intro wz hz; (try dsimp only at hz); go_simp; (try with_reducible rfl))
     try simp only [Act.put, sPa, sPb, sPc]
     refine takeC (i := 9) (v := ?_) rfl rfl (Or.inl ⟨by rfl, ?_⟩) ⟨trivial, fun h => by simp at h⟩ ?_
     rotate_left
     ·(intro wz hz; (try dsimp only at hz); go_simp; (try with_reducible rfl))
     try simp only [Act.put, sPa, sPb, sPc]
     refine takeC (i := 10) (v := ?_) rfl rfl (Or.inl ⟨by rfl, ?_⟩) ⟨trivial, fun h => by simp at h⟩ ?_
     rotate_left
     ·(intro wz hz; (try dsimp only at hz); go_simp; (try with_reducible rfl))
     try simp only [Act.put, sPa, sPb, sPc]
     refine takeC (i := 11) (v := ?_) rfl rfl (Or.inl ⟨by rfl, ?_⟩) ⟨trivial, fun h => by simp at h⟩ ?_
     rotate_left
     ·(intro wz hz; (try dsimp only at hz); go_simp; (try with_reducible rfl))
     try simp only [Act.put, sPa, sPb, sPc]
     refine takeC (i := 12) (v := ?_) rfl rfl (Or.inl ⟨by rfl, ?_⟩) ⟨trivial, fun h => by simp at h⟩ ?_
     rotate_left
     ·(intro wz hz; (try dsimp only at hz); go_simp; (try with_reducible rfl))
     try simp only [Act.put, sPa, sPb, sPc]
     refine kH (by kernel_rfl) ?_ _
     refine NoPanic.normal ?_
     obtain ⟨sb, sc8, nb, nc8, fb, fc8, bb, bc8, hv8⟩ := hview
     have HV8 := Kh hv8
     have HIN : Hid (∀ s, s < L.length → InT (ofT d ps) (L.getD s [])) := Kh (fun s hs => by
      obtain ⟨u, hu, e⟩ := HBF.out.re (L.getD s []) (by rw [zI hs]; exact List.getElem_mem hs)
      rw [← e]
      have hok := ofT_ok HOZ.out
      rw [← HKN.out] at hok
      exact hok.walk u hok.in0 hu)
     have HCLS : Hid (Calls Try.prog 59 #[.pointer (some ⟨o, 0, none⟩), .int .i64 (n2 : Int)] w8 (ClsRet w8 (ofT d ps) n2 L)) := Kh (prodClasses_any wM.heap.size w8 o k _ (ofT d ps) L nxl fr bl sb sc8 nb nc8 fb fc8 bb bc8 n2 hz8 hv8 HDS8.out (by have := ofT_ok HOZ.out; rwa [← HKN.out] at this) (by rw [vM, HNP.out]) HIN.out (by rw [vM, ← HNP.out]; omega) hL4)
     clear hv8
     go_wp2_with fail
     refine HCLS.out.mono ?_
     rintro e w10 ⟨l, la, lc, rfl, hownl, hcls, hg10⟩
     have HOL := Kh hownl; have HCL := Kh hcls
     have HGW := Kh (zA HGW.out hg10 (by simp))
     have HBPW := Kh (zB HBPW.out hg10 (by simp))
     have HV10 := Kh (HV8.out.grow hg10)
     have hl4 := hcls.len_le
     have hlpos : 0 < l.length := by
      have h1 := hcls.all 0 hLpos
      obtain ⟨c, hc, _⟩ := List.mem_map.1 h1
      exact List.length_pos_of_mem hc
     have HX10 : Hid (ClsX (fun j => j < w10.heap.size) w10 (.slice la l.length lc) l) := Kh (nJ hownl (fun j e => (hownl.lt j e).2))
     obtain ⟨n, hn⟩ : ∃ n, n = l.length := ⟨_, rfl⟩
     have HN := Kh hn
     rw [← hn] at hl4 hlpos HX10 ⊢
     clear hn hg10 hownl hcls HCLS HV8 HDS8 hz8
     obtain ⟨wo, hwo⟩ : ∃ wo : World, wo = w10 := ⟨_, rfl⟩
     rw [← hwo] at HGW HBPW HV10 HX10 ⊢
     clear hwo HOL
     go_wp2
     go_loopg [57] n (fun gh v57 wr => ∃ kk : Nat, gh + kk = n ∧ v57 = .int .i64 kk ∧ (∀ i, i < kk → nK (l.getD i default) = false) ∧ wo.grownBy wr none)
     case atStart => exact ⟨0, rfl, rfl, fun i hi => by omega, zL _ _⟩
     case round =>
      obtain ⟨kk, hgk, rfl, hnb, hg⟩ := hrel
      have HGK := Kh hgk; have HNB := Kh hnb; have HGR := Kh hg
      clear hgk hnb
      by_cases hkn : kk < n
      ·have hkn' : (kk : Int) < n := by omega
       obtain ⟨b, off, cap, e, _, hc1, hc2, hcl⟩ := (HX10.out.grow hg).at_ (by rw [← HN.out]; omega)
       rw [← HN.out] at e hc1
       simp only [Value.slice.injEq, true_and] at e
       obtain ⟨rfl, rfl⟩ := e
       have hmx : lc ≤ 9223372036854775807 := by unfold maxLen at hc2; omega
       have hkl : kk < l.length := by rw [← HN.out]; exact hkn
       have d1 := hcl.m kk hkl
       have d2 := hcl.y kk hkl
       have d3 := hcl.n kk hkl
       have HMEM : Hid (l.getD kk default ∈ l) := Kh (by rw [zI hkl]; exact List.getElem_mem hkl)
       obtain ⟨cc, hcc⟩ : ∃ c, c = l.getD kk default := ⟨_, rfl⟩
       rw [← hcc] at d1 d2 d3 HMEM
       have HCC := Kh hcc
       have HBO : Hid (nK cc = decide (0 ≤ cc.yes ∧ 0 ≤ cc.no)) := Kh rfl
       obtain ⟨U, hU⟩ : ∃ U, U = mT cc.m := ⟨_, rfl⟩
       obtain ⟨y, hy⟩ : ∃ y, y = cc.yes := ⟨_, rfl⟩
       obtain ⟨z, hz⟩ : ∃ z, z = cc.no := ⟨_, rfl⟩
       rw [← hU] at d1
       rw [← hy] at d2
       rw [← hz] at d3
       rw [← hy, ← hz] at HBO
       have HY := Kh hy; have HZ := Kh hz
       have hbR := heap_alloc_new wr (.cells #[.string U, .int .i64 y, .int .i64 z] 99)
       have hgR := World.grownBy_alloc wr (.cells #[.string U, .int .i64 y, .int .i64 z] 99) none
       obtain ⟨wR, hwR⟩ : ∃ wR, wR = wr.alloc (.cells #[.string U, .int .i64 y, .int .i64 z] 99) := ⟨_, rfl⟩
       obtain ⟨R, hR⟩ : ∃ R, R = wr.heap.size := ⟨_, rfl⟩
       rw [← hwR] at hbR hgR
       rw [← hR] at hbR
       have HWR := Kh hwR; have HRE := Kh hR; have HBR := Kh hbR
       have HGR2 := Kh (zA HGR.out hgR (by simp))
       obtain ⟨r0, r1, r2⟩ := zW hbR
       clear hcl hc1 hc2 hU hy hz hwR hR hbR hgR hcc hg
       go_upto_region 16 with fail
       rw [← HWR.out, ← HRE.out]
       clear d1 d2 d3
       by_cases hyz : 0 ≤ y ∧ 0 ≤ z
       case neg =>
        have HB0 : Hid (nK cc = false) := Kh (by rw [HBO.out, decide_eq_false hyz])
        have HNX : Hid (∀ i, i < kk + 1 → nK (l.getD i default) = false) := Kh (fun i hi => by
         rcases Nat.lt_succ_iff_lt_or_eq.1 hi with hi | rfl
         ·exact HNB.out i hi
         ·rw [← HCC.out]; exact HB0.out)
        by_cases hy0 : 0 ≤ y
        ·have hz0 : ¬ 0 ≤ z := fun h => hyz ⟨hy0, h⟩
         clear hyz
         go_wp2
         go_roundg (n - (kk + 1))
         case measure => have := HGK.out; omega
         case rel => exact ⟨kk + 1, by have := HGK.out; omega, by go_num, HNX.out, HGR2.out⟩
        ·clear hyz
         go_wp2
         go_roundg (n - (kk + 1))
         case measure => have := HGK.out; omega
         case rel => exact ⟨kk + 1, by have := HGK.out; omega, by go_num, HNX.out, HGR2.out⟩
       case pos =>
        obtain ⟨hy0, hz0⟩ := hyz
        have HB0 : Hid (nK cc = true) := Kh (by rw [HBO.out, decide_eq_true ⟨hy0, hz0⟩])
        obtain ⟨yn, zn, e1, e2, hyn, hzn, hm1, hm2, hm3⟩ := HCL.out.both HMEM.out HB0.out
        rw [← HY.out] at e1
        rw [← HZ.out] at e2
        subst e1
        subst e2
        have HM1 := Kh hm1; have HM2 := Kh hm2; have HM3 := Kh hm3
        have HWD : Hid (∀ (W : World) (s : Nat), wR.grownBy W none → s < L.length → Calls Try.prog 60 #[.pointer (some ⟨o, 0, none⟩), .int .i64 (s : Int)] W (WordRet W (ofT d ps) k L s)) := Kh (fun W s hW hs => pword_any W o k _ (ofT d ps) L nxl fr bl sb sc8 nb nc8 fb fc8 bb bc8 s (HV10.out.grow (zA HGR2.out hW (by simp))) HFR.out hk6 hs hL4)
        have HYN := Kh hyn; have HZN := Kh hzn
        clear hm1 hm2 hm3 hyn hzn
        go_upto_region 17 with fail
        obtain ⟨w5, hw5⟩ : ∃ w5, w5 = wR.drew := ⟨_, rfl⟩
        have hg5 : wR.grownBy w5 none := by rw [hw5]; exact zP wR none
        have HW5 := Kh hw5; have HG5 := Kh hg5
        have C5 : Hid (w5.cell? ⟨R, 1, none⟩ = some (.int .i64 (yn : Int)) ∧ w5.cell? ⟨R, 2, none⟩ = some (.int .i64 (zn : Int))) := Kh ⟨wB r1 hg5, wB r2 hg5⟩
        clear hg5 hw5 r0 r1 r2
        refine wp_region_noPanic ?_
        refine wC (G := uS 8 (fun _ => True) (fun W => W.cell? ⟨R, 1, none⟩ = some (.int .i64 (yn : Int)) ∧ W.cell? ⟨R, 2, none⟩ = some (.int .i64 (zn : Int)))) (by kernel_rfl) ?_
        rw [← HW5.out]
        refine takeC (i := 0) (v := ?_) rfl rfl (Or.inl ⟨by rfl, ?_⟩) ⟨trivial, fun _ => C5.out⟩ ?_
        rotate_left
        ·(intro wz hz; (try dsimp only at hz); go_simp; (try with_reducible rfl))
        try simp only [Act.put, sPa, sPb, sPc]
        refine takeC (i := 1) (v := ?_) rfl rfl (Or.inl ⟨by rfl, ?_⟩) ⟨trivial, fun _ => C5.out⟩ ?_
        rotate_left
        ·(intro wz hz; (try dsimp only at hz); go_simp; (try with_reducible rfl))
        try simp only [Act.put, sPa, sPb, sPc]
        refine takeC (i := 2) (v := ?_) rfl rfl (Or.inl ⟨by rfl, ?_⟩) ⟨trivial, fun _ => C5.out⟩ ?_
        rotate_left
        ·(intro wz hz; (try dsimp only at hz); go_simp; (try with_reducible rfl))
        try simp only [Act.put, sPa, sPb, sPc]
        refine takeC (i := 5) (v := ?_) rfl rfl (Or.inl ⟨by rfl, ?_⟩) ⟨trivial, fun _ => C5.out⟩ ?_
        rotate_left
        ·(intro wz hz; (try dsimp only at hz); go_simp; (try with_reducible rfl))
        try simp only [Act.put, sPa, sPb, sPc]
        refine takeC (i := 6) (v := ?_) rfl rfl (Or.inl ⟨by rfl, ?_⟩) ⟨trivial, fun _ => C5.out⟩ ?_
        rotate_left
        ·(intro wz hz; (try dsimp only at hz); go_simp; (try with_reducible rfl))
        try simp only [Act.put, sPa, sPb, sPc]
        refine takeD (i := 7) (v := ?_) rfl rfl (Or.inl ⟨by rfl, ?_⟩) ⟨trivial, fun _ => C5.out⟩ ?_
        rotate_left
        ·(rintro wz ⟨-, hz⟩; obtain ⟨h1, h2⟩ := hz; go_simp; (try with_reducible rfl))
        try simp only [Act.put, sPa, sPb, sPc]
        obtain ⟨k1, k2⟩ := C5.out
        refine oneG (i := 3) (by kernel_rfl) rfl (fun K hK => ?_)
        go_simp
        refine hK.out _ _ ⟨trivial, fun _ => C5.out⟩ ?_
        clear hK K k1 k2
        try simp only [Act.put, sPa, sPb, sPc]
        refine oneG (i := 4) (by kernel_rfl) rfl (fun K hK => ?_)
        go_simp
        go_at_call 60
        refine (HWD.out w5 yn HG5.out HYN.out).mono ?_
        rintro e w6 ⟨u1, hu1, hu2, hu3, rfl, hg6⟩
        have HG6 := Kh (zF HG5.out hg6)
        have HU1 := Kh hu1; have HU2 := Kh hu2; have HU3 := Kh hu3
        have C6 : Hid (w6.cell? ⟨R, 1, none⟩ = some (.int .i64 (yn : Int)) ∧ w6.cell? ⟨R, 2, none⟩ = some (.int .i64 (zn : Int))) := Kh ⟨wB C5.out.1 hg6, wB C5.out.2 hg6⟩
        refine hK.out _ _ ⟨trivial, fun _ => C6.out⟩ ?_
        clear hK K C5 hg6 hu1 hu2 hu3
        try simp only [Act.put, sPa, sPb, sPc]
        refine oneG (i := 8) (by kernel_rfl) rfl (fun K hK => ?_)
        go_simp
        go_at_call 60
        refine (HWD.out w6 zn HG6.out HZN.out).mono ?_
        rintro e w7 ⟨u2, hv1, hv2, hv3, rfl, hg7⟩
        have HV1 := Kh hv1; have HV2 := Kh hv2; have HV3 := Kh hv3
        have HGW := Kh (zA HGW.out (zA HGR2.out (zF HG6.out hg7) (by simp)) (by simp))
        have HBPW := Kh (zB HBPW.out (zA HGR2.out (zF HG6.out hg7) (by simp)) (by simp))
        refine hK.out _ _ ⟨trivial, fun h => by simp at h⟩ ?_
        clear hK K C6 hg7 hv1 hv2 hv3
        try simp only [Act.put, sPa, sPb, sPc]
        have hr4 := HBPW.out
        have f40 := zE hr4 0
        have f41 := zE hr4 1
        have f42 := zE hr4 2
        have hl4' := zN hr4
        obtain ⟨v0, v1, v2⟩ := zW hr4
        refine oneG (i := 9) (by kernel_rfl) rfl (fun K hK => ?_)
        go_simp
        have g1 := zF (zF (zD w7 ⟨P, 0, none⟩ (.slice none 0 0)) (zD _ ⟨P, 1, none⟩ (.slice none 0 0))) (zD _ ⟨P, 2, none⟩ (.int .i64 0))
        have z1 := heap_setCell_same _ P 2 _ _ (.int .i64 0) (heap_setCell_same _ P 1 _ _ (.slice none 0 0) (heap_setCell_same w7 P 0 _ _ (.slice none 0 0) hr4))
        obtain ⟨w9, hw9⟩ : ∃ w9, w9 = ((w7.setCell ⟨P, 0, none⟩ (.slice none 0 0)).setCell ⟨P, 1, none⟩ (.slice none 0 0)).setCell ⟨P, 2, none⟩ (.int .i64 0) := ⟨_, rfl⟩
        rw [← hw9] at g1 z1 ⊢
        simp only [Array.setIfInBounds, List.size_toArray, List.length_cons, List.length_nil] at z1
        refine hK.out _ _ ⟨trivial, fun h => by simp at h⟩ ?_
        clear hK K v0 v1 v2 f40 f41 f42
        try simp only [Act.put, sPa, sPb, sPc]
        refine oneG (i := 10) (by kernel_rfl) rfl (fun K hK => ?_)
        go_simp
        refine hK.out _ _ ⟨trivial, fun h => by simp at h⟩ ?_
        clear hK K
        try simp only [Act.put, sPa, sPb, sPc]
        refine oneG (i := 11) (by kernel_rfl) rfl (fun K hK => ?_)
        go_simp
        refine hK.out _ _ ⟨trivial, fun h => by simp at h⟩ ?_
        clear hK K
        try simp only [Act.put, sPa, sPb, sPc]
        refine oneG (i := 12) (by kernel_rfl) rfl (fun K hK => ?_)
        go_simp
        refine hK.out _ _ ⟨trivial, fun h => by simp at h⟩ ?_
        clear hK K
        try simp only [Act.put, sPa, sPb, sPc]
        refine kH (by kernel_rfl) ?_ _
        refine NoPanic.normal ?_
        obtain ⟨q0, q1, q2⟩ := zW z1
        have HSU := Kh hw9
        clear hw9 hr4
        obtain ⟨s1, hs1⟩ : ∃ s, s = strOfNums (lets u1) := ⟨_, rfl⟩
        obtain ⟨s2, hs2⟩ : ∃ s, s = strOfNums (lets u2) := ⟨_, rfl⟩
        rw [← hs1, ← hs2]
        have HS1 := Kh hs1; have HS2 := Kh hs2
        clear hs1 hs2
        go_wp2
        try rw [← HSU.out]
        refine bodyPost_ret (v := .tuple #[.agg #[.slice none 0 0, .slice none 0 0, .int .i64 0], .string s1, .string s2, .int .i64 20]) (by simp [results, Try.results19, go_sem, q0, q1, q2, Result.andThen]) rfl ?_
        have hbf := HBF.out
        rw [HKN.out] at hbf
        have hcl := HCL.out
        rw [HNP.out] at hcl
        have hnn : ps.length < (ofT d ps).length := by rw [vM]; omega
        have hm1 := HM1.out
        rw [HNP.out] at hm1
        have hm2 := HM2.out
        rw [HNP.out] at hm2
        have hm3 := HM3.out
        rw [HNP.out] at hm3
        obtain ⟨t1, t2, t3⟩ := of_conf HOZ.out hbf (by rw [← HKN.out]; exact HU1.out) (by rw [← HKN.out]; exact HV1.out) HU3.out HV3.out hm1 hm2 hm3
        refine ⟨_, _, _, _, rfl, ?_, zA HGW.out g1 (fun j e => by have e : P = j := Option.some.inj e; have := HPE.out; omega)⟩
        rw [HS1.out, HS2.out]
        exact OfOut.conf HOZ.out ⟨L, hbf, hL4⟩ (cls_conf hnn hbf hcl HMEM.out HB0.out) u1 u2 (by rw [← HKN.out]; exact HU1.out) (by rw [← HKN.out]; exact HV1.out) (by have := HU2.out; have := HYN.out; omega) (by have := HV2.out; have := HZN.out; omega) t1 t2 t3
      ·have hkn' : ¬ (kk : Int) < n := by omega
       have HAB : Hid (∀ c ∈ l, nK c = false) := Kh (fun c hc => by
        obtain ⟨i, hi, rfl⟩ := List.getElem_of_mem hc
        have := HNB.out i (by have := HGK.out; have := HN.out; omega)
        rwa [zI hi] at this)
       have HGWR := Kh (zA HGW.out hg (by simp))
       have hcl0 := HCL.out
       have HDIA : Hid (Calls Try.prog 61 #[.slice pa n2 pc, .slice la n lc] wr (DiaRet wr ps l)) := Kh (diagram_any Bd wr _ _ ps l (by have := HGWR.out.size; omega) (HP.out.kept HGWR.out (by simp)) ((HX10.out.grow hg).mono (fun j hj => Nat.lt_of_lt_of_le hj hg.size)) (by rw [← HN.out]; exact hlpos) (by rw [← HN.out]; omega) (by rw [← HNP.out]; exact clsok_of hcl0 (fun i => nD _ _ _)) (by rw [← HNP.out]; omega) (of_short HOZ.out))
       have HBPR := Kh (zB HBPW.out hg (by simp))
       clear hg hcl0
       go_wp2_with fail
       refine HDIA.out.mono ?_
       rintro e w11 ⟨v11, g, rfl, hdi, hg1, hg2, hg3, hg4, hg5, hg6, hg11⟩
       have hdi0 := hdi w11 none (zL _ _) (by simp)
       obtain ⟨pv2, cv2, rfl, hp2, hc2⟩ := hdi0
       obtain ⟨ap, cp, rfl⟩ := hp2.shape
       obtain ⟨ac, cc, rfl⟩ := hc2.shape
       have HDI := Kh hdi
       have HGW := Kh (zA HGWR.out hg11 (by simp))
       have HBPW := Kh (zB HBPR.out hg11 (by simp))
       have HPLT : Hid (P < wr.heap.size) := Kh (zN HBPR.out)
       have H1 := Kh hg1; have H2 := Kh hg2; have H3 := Kh hg3; have H4 := Kh hg4; have H5 := Kh hg5; have H6 := Kh hg6
       obtain ⟨m1, hm1⟩ : ∃ m, m = g.pats.length := ⟨_, rfl⟩
       obtain ⟨m2, hm2⟩ : ∃ m, m = g.chos.length := ⟨_, rfl⟩
       obtain ⟨rt, hrt⟩ : ∃ m, m = g.root := ⟨_, rfl⟩
       rw [← hm1, ← hm2, ← hrt] at HDI ⊢
       have HRT := Kh hrt
       clear hdi hp2 hc2 hg11 hg1 hg2 hg3 hg4 hg5 hg6 hm1 hm2 hrt
       have hr4 := HBPW.out
       have f40 := zE hr4 0
       have f41 := zE hr4 1
       have f42 := zE hr4 2
       have hl4' := zN hr4
       obtain ⟨v0, v1, v2⟩ := zW hr4
       go_wp2
       have g1 := zF (zF (zD w11 ⟨P, 0, none⟩ (.slice ap m1 cp)) (zD _ ⟨P, 1, none⟩ (.slice ac m2 cc))) (zD _ ⟨P, 2, none⟩ (.int .i64 rt))
       have z1 := heap_setCell_same _ P 2 _ _ (.int .i64 rt) (heap_setCell_same _ P 1 _ _ (.slice ac m2 cc) (heap_setCell_same w11 P 0 _ _ (.slice ap m1 cp) hr4))
       obtain ⟨w9, hw9⟩ : ∃ w9, w9 = ((w11.setCell ⟨P, 0, none⟩ (.slice ap m1 cp)).setCell ⟨P, 1, none⟩ (.slice ac m2 cc)).setCell ⟨P, 2, none⟩ (.int .i64 rt) := ⟨_, rfl⟩
       rw [← hw9] at g1 z1 ⊢
       simp only [Array.setIfInBounds, List.size_toArray, List.length_cons, List.length_nil] at z1
       obtain ⟨q0, q1, q2⟩ := zW z1
       refine bodyPost_ret (v := .tuple #[.agg #[.slice ap m1 cp, .slice ac m2 cc, .int .i64 rt], .string ⟨#[]⟩, .string ⟨#[]⟩, .int .i64 0]) (by simp [results, Try.results19, go_sem, q0, q1, q2, Result.andThen]) rfl ?_
       have hbf := HBF.out
       rw [HKN.out] at hbf
       have hcl := HCL.out
       rw [HNP.out] at hcl
       have hnn : ps.length < (ofT d ps).length := by rw [vM]; omega
       refine ⟨_, _, _, _, rfl, OfOut.ok _ g l L HOZ.out hbf hL4 (cls_noconf hnn hbf hcl HAB.out) (HDI.out w9 _ g1 (fun j e => by have e : P = j := Option.some.inj e; have := HPLT.out; omega)) H1.out H2.out H3.out H4.out (of_dec HOZ.out hbf hcl HAB.out H2.out H4.out H5.out) hcl H6.out, zA HGW.out g1 (fun j e => by have e : P = j := Option.some.inj e; have := HPE.out; omega)⟩
end Go.Proofs.Ytjfdomfendbhfaa
