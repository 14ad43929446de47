/- Part 16 of the proof. -/
import Derived.Test.YtjfdomfendbhfaaQg15
import Derived.BigRegion
set_option linter.unusedVariables false
set_option linter.unusedSimpArgs false
set_option maxRecDepth 100000
set_option maxHeartbeats 16000000
namespace Go.Proofs.Ytjfdomfendbhfaa
open Go.Maps Go.RowKit
theorem two_boxes2 (w:World)(c1 c2:Array Value)(e1 e2:Nat):((w.alloc (.cells c1 e1)).alloc (.cells c2 e2)).heap[w.heap.size]?=some (.cells c1 e1 (0,0))/\((w.alloc (.cells c1 e1)).alloc (.cells c2 e2)).heap[w.heap.size+1]?=some (.cells c2 e2 (0,0))/\w.grownBy ((w.alloc (.cells c1 e1)).alloc (.cells c2 e2)) none/\((w.alloc (.cells c1 e1)).alloc (.cells c2 e2)).heap.size=w.heap.size+2 :=
 ⟨pO w _ _,pM w _ _,wL (Ga w _ none) _,by rw[zJ,zJ]⟩
theorem lenP_map {bs:List ByteArray}{i:Nat}(h:i<bs.length):lenP (bs.map zI) i=(bs.getD i ⟨#[]⟩).size:=by
 unfold lenP;rw[zG (show i<(bs.map zI).length by simpa using h),zG h];simp[yQ]
structure PSt (w1 W:World)(base mb:Nat)(L:List (List Nat))(n:Nat)(sp:Option Addr)(pc:Nat):Prop where
 own:W.ownsRow base 152 2 (.slice sp n pc) n (qY ((xX L).take n))
 map:MapK 152 qFG posV W mb n n (numP ((xX L).take n))
 grown:w1.grownBy W none
 lo:w1.heap.size<=mb/\mb<base
theorem PSt.put {w1 W W1 W2:World}{base mb n i k:Nat}{L:List (List Nat)}{sp sp':Option Addr}{pc pc':Nat}(h:PSt w1 W base mb L n sp pc)(hi:i<L.length)(hk:k<=lenP L i)(hn:n=offP L i+k)(hm:MapK 152 qFG posV W1 mb (n+1) (if (numP ((xX L).take n) (i,k)).isSome then n else n+1) (fun q=>if q=(i,k) then some n else numP ((xX L).take n) q))(hg1:W.grownBy W1 (some mb))(ho:W2.ownsRow base 152 2 (.slice sp' (n+1) pc') (n+1) (qY ((xX L).take n)++[.int .i64 (i:Int),.int .i64 (k:Int)]))(hg2:W1.grownBy W2 (Value.slice sp n pc).ownBlock):PSt w1 W2 base mb L (n+1) sp' pc':=by
 have hf:=posOf_fresh hi hk;have ht:=cI hi hk;rw[<- hn]at hf ht
 have h0:((xX L).take n).length=n:=by
  have:=rE hi hk;rw[List.length_take];omega
 have e1:numP ((xX L).take n) (i,k)=none:=by unfold numP;rw[if_neg hf]
 have e2:(fun q=>if q=(i,k) then some n else numP ((xX L).take n) q)=numP ((xX L).take (n+1)):=by
  have:=numP_snoc hf;rw[h0]at this;rw[this,ht]
 rw[e1,e2]at hm;refine⟨by rw[<- ht,posVals_snoc];exact ho,hm.kept hg2 (fun e=>?_),zA (zA h.grown hg1 (fun x e=>by have:=Oj e;have:=h.lo;omega)) hg2 (fun x e=>?_),h.lo⟩
 ·have:=(h.own.lt mb e).1;have:=h.lo;omega
 ·have:=(h.own.lt x e).1;have:=h.lo;omega
theorem rdfa_anyT (B : Nat)(w : World)(v : Value)(bs : List ByteArray)(letters : Int)(h : Row B w v (txtV bs))(hs : ∀ i (hi : i < bs.length), bs[i].size <= maxLen)(h14 : patW bs letters = 0 -> sG bs <= 14): Calls Try.prog 79 #[.agg #[v], .int .i64 letters] w (aW w (patW bs letters) (xF bs letters)) := by
 have p9 := h.len_le;rw[zX]at p9;have H := Kh h;obtain⟨a, cap, rfl⟩ := h.shape;rw[zX]at H ⊢;have j0 : bs.length <= 9223372036854775807 := by unfold maxLen at p9; omega
 obtain⟨d7, m8, m3, y3⟩ := two_boxes2 w #[.slice a bs.length cap] #[.int .i64 0, .int .i64 0, .slice none 0 0, .slice none 0 0] 28 42;obtain⟨wA, s0⟩ : ∃ wA, wA = (w.alloc (.cells #[.slice a bs.length cap] 28)).alloc (.cells #[.int .i64 0, .int .i64 0, .slice none 0 0, .slice none 0 0] 42) := ⟨_, rfl⟩;rw[<- s0]at d7 m8 m3 y3;obtain⟨P, hP⟩ : ∃ P, P = w.heap.size := ⟨_, rfl⟩;obtain⟨Q, hQ⟩ : ∃ Q, Q = w.heap.size + 1 := ⟨_, rfl⟩;have G6 := Kh hP; have G5 : Hid (Q = P + 1) := Kh (by omega);have L2 : P < Q := by omega
 have L0 : Q < wA.heap.size := by omega
 have L1 : w.heap.size <= P := by omega
 rw[<- hQ]at m8;rw[<- hP]at d7;have c0 : wA.cell? ⟨P, 0, none⟩ = some (.slice a bs.length cap) := by simpa using zH d7 0 (by simp)
 have J7 := Kh d7; have J6 := Kh m8; have I6 := Kh m3; have F3 := Kh s0;have B3 := Kh (gR B wA _ bs letters (H.out.kept m3 (by simp)) hs);clear d7 m8 m3 s0 h hs hP hQ y3 p9;go_enter Try.func79, Try.ntmps79;go_upto_region 1 with fail;rw[<- F3.out, <- G6.out, <- G5.out];go_wp2_with fail;refine B3.out.mono ?_;rintro e w1 ⟨rfl, j7⟩;have K3 := j7.size;have y0 := Kh (zA I6.out j7 (by simp));have y1 := Kh (zB J7.out j7 (by simp)); have H7 := Kh (zB J6.out j7 (by simp));have q1 := zF H7.out;have f0 := zE H7.out 0;have f1 := zE H7.out 1;have f2 := zE H7.out 2;have f3 := zE H7.out 3;clear j7 B3 c0;by_cases hE : patW bs letters = 0
 case neg =>
  have HD : Hid (xF bs letters = qHB) := Kh (if_neg hE);obtain⟨E, s4⟩ : ∃ E, E = patW bs letters := ⟨_, rfl⟩;rw[<- s4]at hE ⊢;have e1 : (E == 0) = false := by rw[beq_eq_false_iff_ne]; exact hE
  obtain⟨q0, q1, q2, q3⟩ := q1;have J3 := Kh s4;clear hE s4;go_wp2;obtain⟨k1, g7⟩ := uF H7.out (.int .i64 0) (.int .i64 0) (.slice none 0 0) (.slice none 0 0);obtain⟨wz, g5⟩ : ∃ wz, wz = (((w1.setCell ⟨Q, 0, none⟩ (.int .i64 0)).setCell ⟨Q, 1, none⟩ (.int .i64 0)).setCell ⟨Q, 2, none⟩ (.slice none 0 0)).setCell ⟨Q, 3, none⟩ (.slice none 0 0) := ⟨_, rfl⟩;rw[<- g5]at k1 g7 ⊢;clear g5;obtain⟨r0, r1, r2, r3⟩ := zF k1;clear q0 q1 q2 q3 f0 f1 f2 f3;refine bodyPost_ret (v := .tuple #[.agg #[.int .i64 0, .int .i64 0, .slice none 0 0, .slice none 0 0], .int .i64 E]) (by simp[results, Try.results79, go_sem, r0, r1, r2, r3]) rfl ?_;exact⟨_, _, by rw[J3.out, HD.out]; rfl, by rw[HD.out]; exact DfaT.zero _, zA y0.out g7 (fun k e => by have h7 : Q = k := Oj e; omega)⟩
 rw[hE];clear q1 f0 f1 f2 f3;have D6 := h14 hE;obtain⟨q5, m0, p0, K7, n9, D3, o8⟩ := qCN (vW.1 hE);obtain⟨k, hk⟩ : ∃ k : Nat, letters = (k : Int) := ⟨letters.toNat, by omega⟩
 have HD : Hid (xF bs letters = minD (patD k (bs.map zI)) k) := Kh (by
  rw[xF, if_pos hE, hk, Int.toNat_natCast])
 subst hk;have q5 : 1 <= k := by omega
 have m0 : k <= 6 := by omega
 obtain⟨kb, off, _, ea, K9, m7, r7, y6⟩ := H.out.some_ (by rw[zX]; exact p0);rw[zX]at ea m7;simp only[Value.slice.injEq]at ea;obtain⟨rfl, _, rfl⟩ := ea;have z5 : cap <= 9223372036854775807 := by unfold maxLen at r7; omega
 have J5 := Kh r7;have t5 : Hid (∀ W : World, w1.grownBy W none -> uV W kb off (txtV bs)) := Kh (fun W hg => (y6.kept y0.out (by simp)).kept hg (by simp));have t6 := Kh (vW.1 hE);have HE := Kh hE;have t7 : Hid (∀ W : World, w1.grownBy W none -> W.cell? ⟨P, 0, none⟩ = some (.slice (some ⟨kb, off, none⟩) bs.length cap)) := Kh (fun W hg => by simpa using zH (zB y1.out hg (by simp)) 0 (by simp));obtain⟨L, hL⟩ : ∃ L, L = bs.map zI := ⟨_, rfl⟩;have A6 : L.length = bs.length := by rw[hL]; simp
 have hm : (xX L).length <= 22 := by rw[nI, hL, <- tK, List.length_map]; omega
 have z2 : ∀ i, i < bs.length -> lenP L i = (bs.getD i ⟨#[]⟩).size := fun i hi => by rw[hL]; exact lenP_map hi
 have HL := Kh hL; have c7 := Kh A6; have x4 := Kh z2;obtain⟨m, p3⟩ : ∃ m, m = (xX L).length := ⟨_, rfl⟩;rw[<- p3]at hm;have b5 := Kh p3;have E1 := t7.out w1 (zL _ _);have E2 := @run_makeMap Try.prog;obtain⟨mb, l8⟩ : ∃ mb, mb = w1.heap.size := ⟨_, rfl⟩;obtain⟨w2, l6⟩ : ∃ w2, w2 = w1.alloc (.map #[] 0) := ⟨_, rfl⟩;have m5 := Ga w1 (.map #[] 0) none;have i8 := MapK.made 152 qFG posV w1;rw[<- l6]at m5 i8;rw[<- l8]at i8;have J4 : Hid (w2.heap.size = mb + 1) := Kh (by rw[l6, zJ, l8]);have I2 := Kh l8; have F6 := Kh l6; have J1 := Kh m5
 have B7 : Hid (MapK 152 qFG posV w2 mb 0 0 (numP [])) := Kh (by
  have : numP [] = (fun _ => none) := by funext x; simp[numP]
  rw[this]; exact i8)
 have E0 := t7.out w2 m5;have p4 := i8.lt;have p7 : w1.heap.size <= mb := by omega
 clear hE D3 o8 y6 r7 hL A6 p3 z2 h14 l8 l6 m5 i8 E1;go_upto_region 6 with fail;rw[<- F6.out, <- I2.out];have B5 : Hid (PSt w1 w2 w2.heap.size mb L 0 none 0) := Kh ⟨World.ownsRow_nil _ _ _ _, by simpa using B7.out, J1.out, p7, p4⟩;clear E2;go_wp2
 go_loopg [7, 9, 10, 11, 35] bs.length (fun gh s7 s9 s10 s11 i wr => ∃ (q n : Nat) (sp : Option Addr) (pc : Nat), gh + q = bs.length /\ i = .int .i64 q /\ n = offP L q /\ PSt w1 wr w2.heap.size mb L n sp pc /\ s7 = .slice sp n pc)
 case atStart => exact⟨0, 0, none, 0, rfl, rfl, by rw[uK], B5.out, rfl⟩
 case round =>
  clear B5 B7 E0;obtain⟨q, n, sp, pc, c2, rfl, hn, H3, rfl⟩ := hrel;have g3 := Kh c2; have HN := Kh hn; have b6 := Kh H3;clear c2 hn;by_cases hq : q < bs.length
  ·have i5 : (q : Int) < bs.length := by omega
   have cu := vU (t5.out wr H3.grown) q hq;obtain⟨u, hu⟩ : ∃ u, u = bs.getD q ⟨#[]⟩ := ⟨_, rfl⟩;rw[<- hu]at cu;have HU := Kh hu;have e7 := x4.out q hq;rw[<- hu]at e7;have o6 : offP L q + lenP L q < m := by rw[b5.out]; exact rE (by rw[c7.out]; exact hq) (Nat.le_refl _)
   have K4 : u.size <= 22 := by omega
   have x3 := Kh e7;clear hu H3 e7 o6;go_wp2
   go_loopg [7, 11] (u.size + 1) (fun gh s7 i wr => ∃ (kk n : Nat) (sp : Option Addr) (pc : Nat), gh + kk = u.size + 1 /\ i = .int .i64 kk /\ n = offP L q + kk /\ PSt w1 wr w2.heap.size mb L n sp pc /\ s7 = .slice sp n pc)
   case atStart => exact⟨0, n, sp, pc, rfl, rfl, HN.out, b6.out, rfl⟩
   case round =>
    clear b6 HN cu;obtain⟨kk, n, sp, pc, c2, rfl, hn, H3, rfl⟩ := hrel;have g2 := Kh c2; have HN := Kh hn; have b6 := Kh H3;have K8 := H3.map.lt
    have g5 : w2.heap.size <= wr.heap.size := by
     have := J4.out;omega
    clear c2;by_cases hkk : kk <= u.size
    ·have q4 : (kk : Int) <= u.size := by omega
     have i7 : n < m := by
      rw[hn, b5.out]; exact rE (by rw[c7.out]; exact hq) (by rw[x3.out]; exact hkk)
     clear hn H3;go_wp2_with (first | (at_mapUpdate; refine pI qFT rfl _ _ _ rfl mb n n _ (q, kk) n rfl rfl rfl b6.out.map (by unfold maxLen; omega) ⟨by show q < _; omega, by show kk < _; omega⟩ (by omega) ?_; intro w3 d4 m4; (have I3 := Kh d4); (have J0 := Kh m4); (have I0 := Kh (b6.out.own.kept m4 (.inr (fun e => by have := (b6.out.own.lt mb e).1; have := b6.out.lo; omega)))); (have K2 := m4.size); clear d4 m4) | (at_builtin; refine lW rfl _ _ _ rfl elem_pos w2.heap.size (.slice sp n pc) n _ rfl I0.out [.int .i64 (q : Int), .int .i64 (kk : Int)] rfl rfl ?a0 ?a1 ?a2 ?a3 ?_; (case a0 => (intro u hu; simp at hu; rcases hu with rfl | rfl <;> rfl)); (case a1 => (unfold maxLen; omega)); (case a2 => omega); (case a3 => omega); intro sa4 sc4 w4 c9 z4; (have G9 := Kh c9); (have I9 := Kh z4); clear c9 z4) | fail);go_roundg (u.size + 1 - (kk + 1))
     case measure => have := g2.out; omega
     case rel => exact⟨kk + 1, n + 1, sa4, sc4, by have := g2.out; omega, by go_num, by rw[HN.out]; rfl, b6.out.put (by rw[c7.out]; exact hq) (by rw[x3.out]; exact hkk) HN.out I3.out J0.out G9.out I9.out, rfl⟩
    ·have q4 : ¬ (kk : Int) <= u.size := by omega
     have I4 : Hid (kk = u.size + 1) := Kh (by have := g2.out; omega);clear hn H3;go_wp2;go_roundg (bs.length - (q + 1))
     case measure => have := g3.out; omega
     case rel => exact⟨q + 1, n, sp, pc, by have := g3.out; omega, by go_num, by rw[HN.out, qAX (by rw[c7.out]; exact hq), x3.out, I4.out]; omega, b6.out, rfl⟩
  ·have y7 : q = bs.length := by have := g3.out; omega
   have i7 : n = m := by
    have := nI L;have h9 := HN.out;rw[y7, <- c7.out]at h9;unfold offP at h9;rw[List.take_length]at h9;have := b5.out;omega
   subst i7;have i5 : ¬ (q : Int) < bs.length := by omega
   have e6 : 0 < n := by
    have := nI L;have := b5.out;have := c7.out;omega
   obtain⟨pb, rfl, y9, o4⟩ := owns_some2 H3.own e6;have y5 : (xX L).take n = xX L := by rw[b5.out, List.take_length]
   have a7 := H3.own;have a9 := H3.map;rw[y5]at a7 a9;obtain⟨w5, rfl⟩ : ∃ w5 : World, w5 = wr := ⟨_, rfl⟩;have c5 : RCtx w5 bs kb off cap pb pc mb n := ⟨t5.out _ H3.grown, ⟨m7, J5.out⟩, by rw[<- HL.out]; exact PosAt.of_owns a7, ⟨y9, o4⟩, by rw[<- HL.out]; exact a9, by rw[<- HL.out]; exact b5.out.symm, by omega⟩;have E3 : kb < w5.heap.size := (t5.out _ H3.grown).1;have D9 : pb < w5.heap.size := c5.pos.lt;have z1 : mb < w5.heap.size := c5.map.lt;have C3 := Kh H3.grown; have i1 := Kh c5;have b4 : Hid (∀ W : World, w5.grownBy W none -> W.cell? ⟨P, 0, none⟩ = some (.slice (some ⟨kb, off, none⟩) bs.length cap)) := Kh (fun W hg => t7.out W (zA C3.out hg (by simp)))
   have k5 : Hid (∀ W', w5.grownBy W' none -> Calls Try.prog 100 #[.int .i64 (n : Int)] W' fun e W'' => ∃ g, e = .returned (.slice (some ⟨g, 0, none⟩) n n) /\ w5.heap.size <= g /\ Arr W'' g 4 (bls (oS n)) /\ w5.grownBy W'' none /\ W''.cell? ⟨P, 0, none⟩ = some (.slice (some ⟨kb, off, none⟩) bs.length cap)) := Kh (fun W' hg => (pstart_any W' n e6 (by omega)).mono (by
    rintro e W'' ⟨rfl, h1, h2⟩
    exact⟨_, rfl, hg.size, h1, zA hg h2 (by simp), b4.out _ (zA hg h2 (by simp))⟩))
   have k6 : Hid (∀ W' g S, w5.grownBy W' none -> w5.heap.size <= g -> S.length = n -> Arr W' g 4 (bls S) -> Calls Try.prog 99 #[.agg #[.slice (some ⟨kb, off, none⟩) bs.length cap], .slice (some ⟨pb, 0, none⟩) n pc, .map (some mb), .slice (some ⟨g, 0, none⟩) n n] W' fun e W'' => e = .returned (.slice (some ⟨g, 0, none⟩) n n) /\ Arr W'' g 4 (bls (spr L S)) /\ W'.grownBy W'' (some g)) := Kh (fun W' g S hg h1 h2 h3 => by
    rw[HL.out]
    exact spread_any W' bs kb off cap pb pc mb n g S (i1.out.grow hg) h2 h3 (by omega) (by omega) (by omega))
   obtain⟨R1, A4⟩ : ∃ R1, R1 = bs.length - 1 := ⟨_, rfl⟩;have e71 : (bs.length : Int) - 1 = (R1 : Int) := by omega
   have e72 : IntKind.i64.wrap ((bs.length : Int) - 1) = (R1 : Int) := by rw[e71]; exact sO (by omega)
   have H9 : R1 < bs.length := by omega
   have F0 : (R1 : Int) < bs.length := by omega
   have G4 := Kh A4;clear A4;have p5 := b4.out w5 (zL _ _);have o5 : pc <= 9223372036854775807 := by unfold maxLen at o4; omega
   have F9 : Hid (spr L (oS n) = s0B L) := Kh (by rw[s0B, <- b5.out]);clear a7 a9 c5 H3 y5 b6 y7 o4;go_upto_region 16 with fail;go_cut [13] (fun s13 wx => ∃ (g6 : Nat) (w7 : World), s13 = .slice (some ⟨w7.heap.size, 0, none⟩) 1 1 /\ w5.heap.size <= g6 /\ Arr w7 g6 4 (bls (spr L (oS n))) /\ w5.grownBy w7 none /\ wx = w7.alloc (.cells #[.slice (some ⟨g6, 0, none⟩) n n] 39))
   case first =>
    go_region_law (first | (go_simp; go_at_call 100; refine(k5.out _ (by first | exact zL _ _ | exact zO _ none | exact zN _ _ none)).mono ?_; rintro e w6 ⟨g6, rfl, b8, k3, j4, p6⟩) | (go_simp; go_at_call 99; refine(k6.out _ g6 _ j4 b8 (by simp[oS]) k3).mono ?_; rintro e w7 ⟨rfl, h5, c1⟩) | fail)
    all_goals
     go_wp2_with fail
     go_meet
     exact⟨g6, w7, rfl, b8, h5, zA j4 c1 (fun x e => by have := Oj e; omega), rfl⟩
   case rest =>
   obtain⟨g6, w7, rfl, b8, h5, h0, rfl⟩ := hcut;obtain⟨SS, m9⟩ : ∃ SS, SS = w7.heap.size := ⟨_, rfl⟩;obtain⟨w8, i2⟩ : ∃ w8, w8 = w7.alloc (.cells #[.slice (some ⟨g6, 0, none⟩) n n] 39) := ⟨_, rfl⟩
   have H0 : w8.ownsRow w5.heap.size 39 1 (.slice (some ⟨SS, 0, none⟩) 1 1) 1 [setV n g6] := by
    rw[i2, m9]; exact World.ownsRow_lit w7 #[setV n g6] 1 h0.size (by unfold maxLen; omega) rfl
   have H2 := Ga w7 (.cells #[.slice (some ⟨g6, 0, none⟩) n n] 39) none;rw[<- i2]at H2;obtain⟨oD, l7⟩ : ∃ oD, oD = w8.heap.size := ⟨_, rfl⟩;obtain⟨w9, n7⟩ : ∃ w9, w9 = w8.alloc (.cells #[.int .i64 (k : Int), .int .i64 0, .slice none 0 0, .slice none 0 0] 42) := ⟨_, rfl⟩;have H6 := Ga w8 (.cells #[.int .i64 (k : Int), .int .i64 0, .slice none 0 0, .slice none 0 0] 42) none;have f9 := heap_alloc_new w8 (.cells #[.int .i64 (k : Int), .int .i64 0, .slice none 0 0, .slice none 0 0] 42);rw[<- n7]at H6 f9;rw[<- l7]at f9;have d5 : w5.grownBy w9 none := zA (zA h0 H2 (by simp)) H6 (by simp);have n6 := (zA h0 H2 (by simp)).size;have o7 : w5.heap.size <= oD := by omega
   have i4 : (s0B L).length = n := by rw[s0B_length]; exact b5.out.symm
   have h6 : Hid (DSt w5 w9 oD (fun _ => False) k n [s0B L] [g6] (rFs L [s0B L] 0) (rTs L k [s0B L] 0) [] none 0 none 0 (some ⟨SS, 0, none⟩) 1) := Kh
    ⟨BX.start f9 o7 d5, zP H0 H6, rfl, fun j hj => by
     have : j = 0 := by simp at hj; exact hj
     subst this;have e : spr L (oS n) = s0B L := F9.out;rw[e]at h5
     exact(h5.kept H2 (by simp)).kept H6 (by simp), fun g hg => by simp at hg; subst hg; exact b8, fun g hg => by simp[Value.ownBlock], fun x hx => by simp at hx; subst hx; exact i4⟩
   have t8 : Hid (oD = SS + 1) := Kh (by rw[l7, i2, zJ, m9]);have F5 := Kh i2; have F4 := Kh n7; have L4 := Kh l7; have F8 := Kh m9;clear i2 H0 H2 n7 H6 f9 d5 n6 i4 h5 h0 m9 l7 p5 k5;go_wp2;rw[<- F8.out, <- F5.out];go_upto_region 18 with fail;rw[<- F4.out, <- t8.out];have a4 : Hid (BfsI (nxtB L) k (s0B L) [s0B L] 0 0) := Kh BfsI.start;go_wp2
   go_loopg [13, 15, 16, 17, 18, 19, 20, 21, 22, 113] 4194304 (fun gh s13 i s16 s17 s18 s19 s20 s21 s22 s113 wr => ∃ (q : Nat) (l : List (List Bool)) (gs : List Nat) (hs : List Value) (X : Nat -> Prop) (sf : Option Addr) (cf : Nat) (sn : Option Addr) (cn : Nat) (ss : Option Addr) (sc : Nat), gh + q = 4194304 /\ i = .int .i64 q /\ s13 = .slice ss l.length sc /\ BfsI (nxtB L) k (s0B L) l q 0 /\ DSt w5 wr oD X k n l gs (rFs L l q) (rTs L k l q) hs sf cf sn cn ss sc)
   case atStart => exact⟨0, _, _, _, _, _, _, _, _, _, _, rfl, rfl, rfl, a4.out, h6.out⟩
   case round =>
    clear a4 h6;obtain⟨q, l, gs, hs, X, sf, cf, sn, cn, ss, sc, c2, rfl, rfl, b0, h4⟩ := hrel;have g3 := Kh c2; have a4 := Kh b0; have h6 := Kh h4
    have b9 : l.length <= 4194304 := by
     have h1 := eQ n l b0.nd h4.ll;have h2 : 2 ^ n <= 2 ^ 22 := Nat.pow_le_pow_right (by omega) hm;have h3 : 2 ^ 22 = 4194304 := by decide
     omega
    by_cases hq : q < l.length
    ·have i5 : (q : Int) < l.length := by omega
     obtain⟨y8, rfl, o0, a6, j3⟩ := h4.hd (by omega);have chd := j3 q hq;obtain⟨gi, m1⟩ : ∃ gi, gi = gs.getD q 0 := ⟨_, rfl⟩;obtain⟨S, hS⟩ : ∃ S, S = l.getD q [] := ⟨_, rfl⟩;have H4 := h4.row q hq;rw[<- m1, <- hS]at H4;rw[<- m1]at chd;obtain⟨ul, i3⟩ : ∃ u, u = bs.getD R1 ⟨#[]⟩ := ⟨_, rfl⟩;have h0 := h4.bx.grown;have cul := vU ((i1.out.grow h0).blk) R1 H9;rw[<- i3]at cul;have s2 : S.length = n := by rw[hS, zG hq]; exact h4.ll _ (List.getElem_mem hq)
     have b7 := (i1.out.grow h0).num (bi := R1) (bk := ul.size) H9 (by rw[<- i3]; exact Nat.le_refl _);obtain⟨F, hF⟩ : ∃ F, F = offP L R1 + ul.size := ⟨_, rfl⟩;rw[<- HL.out, <- hF]at b7;have A9 := b7.2;have cF := H4.bool F (by rw[s2]; exact A9)
     have j8 : S.getD F false = finP L S := by
      rw[finP, bitP, hF];have e1 : L.length - 1 = R1 := by rw[c7.out]; exact G4.out.symm
      rw[e1, x4.out R1 H9, <- i3]
     rw[j8]at cF;obtain⟨bf, f8⟩ : ∃ bf, bf = finP L S := ⟨_, rfl⟩;rw[<- f8]at cF;have J2 := Kh f8; have k7 := Kh hS; have I5 := Kh m1; have F7 := Kh s2; have k4 := Kh i3;have pP := b4.out _ h0;obtain⟨d0, d1, d2, d3⟩ := zF h4.bx.box;have fz2 := zE h4.bx.box 2;have l5 : Hid ((rFs L l q).length = q) := Kh (qFP (by omega));have n2 : Hid ((rTs L k l q).length = q) := Kh (qCK (by omega));rw[l5.out]at d2;rw[n2.out]at d3;obtain⟨wo, rfl⟩ : ∃ wo : World, wo = wr := ⟨_, rfl⟩;have a5 : sc <= 9223372036854775807 := by unfold maxLen at a6; omega
     have z3 : ∀ qq, (Instr.lookup 150 (.map (some mb)) (.agg #[.int .i64 (R1 : Int), .int .i64 (ul.size : Int)]) false).run Try.prog (wo.drewN qq) = .ok (.int .i64 (F : Int)) (wo.drewN qq) := fun qq => by
      have := (((i1.out.grow h0).grow (zN wo qq none)).num (bi := R1) (bk := ul.size) H9 (by rw[<- k4.out]; exact Nat.le_refl _)).1;rw[<- HL.out, <- hF]at this;exact this
     have j1 : (Instr.lookup 150 (.map (some mb)) (.agg #[.int .i64 (R1 : Int), .int .i64 (ul.size : Int)]) false).run Try.prog wo.drew = .ok (.int .i64 (F : Int)) wo.drew := by
      have := (((i1.out.grow h0).grow (zO wo none)).num (bi := R1) (bk := ul.size) H9 (by rw[<- k4.out]; exact Nat.le_refl _)).1;rw[<- HL.out, <- hF]at this;exact this
     have j2 : (Instr.lookup 150 (.map (some mb)) (.agg #[.int .i64 (R1 : Int), .int .i64 (ul.size : Int)]) false).run Try.prog wo = .ok (.int .i64 (F : Int)) wo := b7.1;have i6 := zK h4.bx.box;have B6 : Hid (∀ W1 : World, wo.grownBy W1 none -> W1.ownsRow oD 4 1 (.slice sf q cf) q (bls (rFs L l q)) /\ oD <= W1.heap.size) := Kh (fun W1 hg => ⟨by have := zP h6.out.bx.ownF hg; rwa [l5.out]at this, by have := hg.size; omega⟩)
     have d8 : Hid (∀ (W1 w' : World) (sf' : Option Addr) (cf' : Nat), w'.ownsRow oD 4 1 (.slice sf' (q + 1) cf') (q + 1) (bls (rFs L l q) ++ [.bool bf]) -> W1.grownBy w' (Value.slice sf q cf).ownBlock -> qH W1 w' (.slice sf q cf) (.slice sf' (q + 1) cf') -> wo.grownBy W1 none ->
       DSt w5 (w'.setCell ⟨oD, 2, none⟩ (.slice sf' (q + 1) cf')) oD X k n l gs (rFs L l (q + 1)) (rTs L k l q) hs sf' cf' sn cn (some ⟨y8, 0, none⟩) sc /\ w'.frozen? ⟨oD, 2, none⟩ = false /\ w'.cell? ⟨oD, 2, none⟩ = some (.slice sf q cf)) := Kh (fun W1 w' sf' cf' ho hg hmv h1 => by
      have s3 := h6.out.grow h1;have B0 := s3.bx.ownF;have r9 := s3.bx.box;rw[l5.out]at B0 r9;have d7 := zB r9 hg (zQ B0 r9 (by decide));have hp := s3.pushF (b := bf) l5.out ho hg hmv rfl;rw[J2.out, k7.out, <- rFs_next hq]at hp
      exact⟨hp, zE d7 2, (zF d7).2.2.1⟩)
     clear c2 b0 h4 j3 m1 hS H4 i3 h0 s2 b7 hF j8 f8;go_upto_region 21 with fail;refine rd_reg (D := fun W1 sf1 cf1 => DSt w5 W1 oD X k n l gs (rFs L l (q + 1)) (rTs L k l q) hs sf1 cf1 sn cn (some ⟨y8, 0, none⟩) sc) B6 d8 z3 j1 j2 d2 fz2 pP cF cul chd j0 z5 m7 hm H9 hq o0 a5 A9 b9 ?_;intro z79 z80 z81 z82 z83 z84 z85 z86 z87 z88 z89 z90 z91 z92 z93 z94 z95 z96 z97 z98 z99 w8 sf8 cf8 j9;have C6 := Kh j9;clear j9 d8 B6 z3 j2 j1 d0 d1 d2 d3 fz2 pP cF cul chd;go_wp2
     go_loopg [13, 16, 17, 18, 19, 20, 21, 22, 113] k (fun gh s13 s16 i s18 s19 s20 s21 s22 s113 wr => ∃ (x : Nat) (l : List (List Bool)) (gs : List Nat) (ss : Option Addr) (sc : Nat) (sr : Option Addr) (cr : Nat), gh + x = k /\ i = .int .i64 x /\ s13 = .slice ss l.length sc /\ s16 = .slice sr x cr /\ BfsI (nxtB L) k (s0B L) l q x /\ q < l.length /\ l.getD q [] = S /\ gs.getD q 0 = gi /\ DSt w5 wr oD X k n l gs (rFs L l (q + 1)) (rTs L k l q) hs sf8 cf8 sn cn ss sc /\ wr.ownsRow w5.heap.size 3 1 (.slice sr x cr) x (nats (kG L l S x)) /\ ∀ j, (Value.slice sr x cr).ownBlock = some j -> ¬ X j)
     case atStart => exact⟨0, l, gs, _, sc, none, 0, rfl, rfl, rfl, rfl, a4.out, hq, k7.out.symm, I5.out.symm, C6.out, World.ownsRow_nil _ _ _ _, fun j hj => by simp[Value.ownBlock]at hj⟩
     case round =>
      clear h6 a4 i5 C6 a6 a5 o0 l5 n2 b9;obtain⟨x, l, gs, ss, sc, sr, cr, f5, rfl, rfl, rfl, b0, H5, l9, m2, h4, o2, o1⟩ := hrel;have l0 := Kh f5; have a4 := Kh b0; have h6 := Kh h4; have t4 := Kh o2; have n3 := Kh o1; have g9 := Kh l9; have x6 := Kh m2
      have b9 : l.length <= 4194304 := by
       have h1 := eQ n l b0.nd h4.ll;have h2 : 2 ^ n <= 2 ^ 22 := Nat.pow_le_pow_right (by omega) hm;have h3 : 2 ^ 22 = 4194304 := by decide
       omega
      have h0 := h4.bx.grown;have l1 := Kh h0;have K1 := h0.size;by_cases hx : x < k
      ·have D2 : (x : Int) < k := by omega
       obtain⟨D7, rfl, o0, a6, j3⟩ := h4.hd (by omega);have B9 := Kh j3;have H4 := h4.row q H5;rw[m2, l9]at H4;have s8 := Kh H4;have a5 : sc <= 9223372036854775807 := by unfold maxLen at a6; omega
       have i5 : (q : Int) < l.length := by omega
       obtain⟨wA, rfl⟩ : ∃ wA : World, wA = wr := ⟨_, rfl⟩;clear f5 b0 h4 o2 o1 l9 m2 j3 H4 h0 a6;obtain⟨G, hG⟩ : ∃ G, G = wA.heap.size := ⟨_, rfl⟩;have n5 := Kh hG;go_wp2_with (first | (at_make; refine lO rfl _ _ _ rfl xW rfl .i64 .i64 _ _ n rfl rfl rfl rfl ?b1 ?b2 ?_; (case b1 => omega); (case b2 => (unfold maxLen; omega)); intro ws H8 q8 p8; rw[<- hG]at H8 p8 ⊢; (have chd := (qIP (B9.out q H5) q8)); rw[x6.out]at chd; (have C9 : Hid (Arr ws G 4 (bls (yI L n S x 0))) := Kh (by rw[yI, oM]; exact H8)); (have C1 := Kh q8); clear H8 q8 hG) | fail);refine rd_pos HL c7 x4 b5 t6 i1 l1 b4 s8 F7 n5 C9 C1 j0 z5 m7 y9 o5 hm e6 m0 hx ?_;intro z19 z20 z21 z113 z114 z115 z116 z117 z118 z119 z120 z121 z122 z123 z124 z125 z126 z127 z128 z129 z130 z131 z132 z133 z134 z135 z136 z137 z138 z139 z140 z141 z142 z143 z144 z145 z146 z147 z148 z149 z150 z151 z152 z153 z154 z155 z156 z157 z158 z159 z160 z161 z162 z163 z164 z165 z166 z167 z168 z169 z170 wr H8 q9;clear C9 C1 chd;have C0 := Kh q9;have f4 := zA l1.out q9 (by simp);have C7 := Kh H8;obtain⟨T, hT⟩ : ∃ T, T = nxtB L S x := ⟨_, rfl⟩;have s1 : spr L (yI L n S x n) = T := by rw[hT, nxtB, <- b5.out]
       have g0 : T.length = n := by rw[hT, nxtB_length]; exact b5.out.symm
       have A8 : w5.heap.size <= G := by have := n5.out; omega
       have pPr := b4.out wr f4;have s6 := Kh (k6.out wr G _ f4 A8 (uL L n S x n) C7.out);rw[s1]at s6;have HT := Kh hT; have L3 := Kh s1; have B4 := Kh g0;clear H8 q9 f4 hT s1 g0;go_wp2_with fail;refine s6.out.mono ?_;rintro e w7 ⟨rfl, h5, c1⟩;have j6 : wA.grownBy w7 none := zA C0.out c1 (fun y e => by have e : G = y := Oj e; have := n5.out; omega);have C8 := Kh h5; have I7 := Kh j6;clear h5 c1 j6 s6 C7 C0;go_wp2
       go_loopg [22] l.length (fun gh s22 wq => ∃ j : Nat, gh + j = l.length /\ s22 = .int .i64 j /\ (∀ i, i < j -> l.getD i [] ≠ T) /\ w7.grownBy wq none)
       case atStart => exact⟨0, rfl, rfl, fun i hi => by omega, zL _ _⟩
       case round =>
        obtain⟨j, f6, rfl, e5, j5⟩ := hrel;have x5 := Kh f6; have x1 := Kh e5; have C2 := Kh j5;have H1 := zA I7.out j5 (by simp);have l2 := Kh H1;by_cases hj : j < l.length
        ·have q7 : (j : Int) < l.length := by omega
         have E5 : decide ((j : Int) < (l.length : Int)) = true := by rw[decide_eq_true_eq]; exact q7
         have E4 : ((j : Int) == (l.length : Int)) = false := by rw[beq_eq_false_iff_ne]; omega
         have chj := qIP (B9.out j hj) H1;obtain⟨gj, r4⟩ : ∃ g, g = gs.getD j 0 := ⟨_, rfl⟩;rw[<- r4]at chj;have o3 := (h6.out.row j hj).kept H1 (by simp);rw[<- r4]at o3;have g8 := Kh (psame_any wr gj G n (l.getD j []) T (h6.out.ll _ (by rw[zG hj]; exact List.getElem_mem hj)) B4.out (by omega) o3 (C8.out.kept j5 (by simp)));clear f6 e5 j5 H1 r4 o3;by_cases heq : l.getD j [] = T
         ·have hb : (l.getD j [] == T) = true := by rw[beq_iff_eq]; exact heq
          rw[hb]at g8;have C4 := Kh heq;clear hb heq;go_wp2_with fail;refine g8.out.mono ?_;rintro e w8 ⟨rfl, H2⟩;have c3 := zA l2.out H2 (by simp);have x7 := Kh c3;have b3 := Kh (zP t4.out c3);have D1 := c3.size;clear H2 c3 g8;go_wp2_with (first | (at_builtin; refine qCF rfl _ _ _ rfl yU w5.heap.size (.slice sr x cr) x (nats (kG L l S x)) rfl b3.out (.int .i64 (j : Int)) rfl rfl ?a1 ?a2 ?a3 ?_; (case a1 => (unfold maxLen; omega)); (case a2 => omega); (case a3 => omega); intro sr9 cr9 v9 h8 H6 D0 a8; (have t9 := Kh h8); (have i0 := Kh H6); (have x2 := Kh a8); clear h8 H6 a8) | fail);go_roundg (k - (x + 1))
          case measure => have := l0.out; omega
          case rel =>
           have e8 : l.idxOf (nxtB L S x) = j := by rw[<- HT.out]; exact idx_first hj C4.out x1.out
           have p2 : nxtB L S x ∈ l := by rw[<- HT.out, <- C4.out, zG hj]; exact List.getElem_mem hj
           have k0 := h6.out.grow x7.out;refine⟨x + 1, l, gs, _, sc, sr9, cr9, by have := l0.out; omega, by go_num, rfl, rfl, a4.out.old (by rw[<- g9.out, zG H5, List.getElem?_eq_getElem H5]) p2, H5, g9.out, x6.out, k0.appI b3.out (Nat.le_refl _) n3.out i0.out, ?_, fun y hy => ?_⟩
           ·rw[dW, e8, vM]; exact t9.out
           ·rcases x2.out with h9 | ⟨_, h9⟩
            ·rw[h9]at hy; exact n3.out y hy
            ·intro hX
             have h1 := h9 y hy;have h2 := k0.bx.lt y hX;omega
         ·have hb : (l.getD j [] == T) = false := by rw[beq_eq_false_iff_ne]; exact heq
          rw[hb]at g8;have I1 := Kh heq;clear hb heq;go_wp2_with fail;refine g8.out.mono ?_;rintro e w8 ⟨rfl, H2⟩;have x8 := Kh H2;clear H2 g8;go_wp2;go_roundg (l.length - (j + 1))
          case measure => have := x5.out; omega
          case rel =>
           refine⟨j + 1, by have := x5.out; omega, by go_num, fun i hi => ?_, zA C2.out x8.out (by simp)⟩;by_cases e9 : i = j
           ·rw[e9]; exact I1.out
           ·exact x1.out i (by omega)
        ·have q6 : j = l.length := by have := x5.out; omega
         have q7 : ¬ (j : Int) < l.length := by omega
         have E5 : decide ((j : Int) < (l.length : Int)) = false := by rw[decide_eq_false_iff_not]; exact q7
         have E4 : ((j : Int) == (l.length : Int)) = true := by simp[q6]
         have B8 := Kh q6;have k9 := Kh (zP h6.out.own H1);have k8 := Kh (zP t4.out H1);have J9 := H1.size;clear f6 e5 j5 H1 q6;go_wp2_with (first | (at_builtin; refine lW rfl _ _ _ rfl elem_brow w5.heap.size (.slice (some ⟨D7, 0, none⟩) l.length sc) l.length (gs.map (setV n)) rfl k9.out [.slice (some ⟨G, 0, none⟩) n n] rfl rfl ?a0 ?a1 ?a2 ?a3 ?_; (case a0 => (intro u hu; simp at hu; subst hu; rfl)); (case a1 => (unfold maxLen; omega)); (case a2 => omega); (case a3 => omega); intro ss8 sc8 w8 H0 H2; (have G7 := Kh H0); (have x8 := Kh H2); (have b3 := Kh (k8.out.kept H2 (rQ k8.out k9.out (by decide)))); (have D1 := H2.size); clear H0 H2) | (at_builtin; refine qCF rfl _ _ _ rfl yU w5.heap.size (.slice sr x cr) x (nats (kG L l S x)) rfl b3.out (.int .i64 (j : Int)) rfl rfl ?a1 ?a2 ?a3 ?_; (case a1 => (unfold maxLen; omega)); (case a2 => omega); (case a3 => omega); intro sr9 cr9 v9 h8 H6 D0 a8; (have t9 := Kh h8); (have i0 := Kh H6); (have x2 := Kh a8); clear h8 H6 a8) | fail);go_roundg (k - (x + 1))
         case measure => have := l0.out; omega
         case rel =>
          have i7 : nxtB L S x ∉ l := by
           rw[<- HT.out];exact idx_none (fun i hi => x1.out i (by have := B8.out; omega))
          have E7 := h6.out.grow l2.out
          have k0 := E7.pushS (T := T) rfl B4.out (C8.out.kept C2.out (by simp)) A8 (fun e => by
           have h1 := (h6.out.bx.ownF.lt G e).2;have := n5.out
           omega) G7.out x8.out
          have m6 := k0.appI b3.out (Nat.le_refl _) n3.out i0.out
          have d6 : ∀ {α : Type} (a b : List α) (d : α), q < a.length -> (a ++ b).getD q d = a.getD q d := fun a b d h => by
           rw[List.getD_eq_getElem?_getD, List.getD_eq_getElem?_getD, List.getElem?_append_left h]
          have e8 : (l ++ [T]).idxOf T = j := by
           rw[List.idxOf_append, if_neg (by rw[HT.out]; exact i7), B8.out]; simp
          have E8 : S = l.getD q [] := g9.out.symm;have f9 := a4.out.new hx (by rw[<- g9.out, zG H5, List.getElem?_eq_getElem H5]) i7;rw[<- HT.out]at f9;refine⟨x + 1, l ++ [T], gs ++ [G], ss8, sc8, sr9, cr9, by have := l0.out; omega, by go_num, by rw[List.length_append]; rfl, rfl, f9, by rw[List.length_append]; omega, by rw[d6 _ _ _ H5]; exact g9.out, by rw[d6 _ _ _ (by rw[h6.out.len]; exact H5)]; exact x6.out, ?_, ?_, fun y hy => ?_⟩
          ·rw[rFs_more (by omega), rTs_more a4.out]; exact m6
          ·have e1 : kG L (l ++ [T]) S x = kG L l S x := by
            rw[E8]; exact rowTo_more a4.out H5 (by omega)
           rw[dW, <- HT.out, e8, e1, vM]; exact t9.out
          ·rcases x2.out with h9 | ⟨_, h9⟩
           ·rw[h9]at hy; exact n3.out y hy
           ·intro hX
            have h1 := h9 y hy;have h2 := k0.bx.lt y hX;omega
      ·have y4 : x = k := by have := l0.out; omega
       have D2 : ¬ (x : Int) < k := by omega
       obtain⟨d0, d1, d2, d3⟩ := zF h4.bx.box;have fz3 := zE h4.bx.box 3;have g1 : (rTs L k l q).length = q := qCK (by omega);have hN := h4.bx.ownN;rw[g1]at d3 hN;have HN := Kh hN; have n2 := Kh g1; have B2 := Kh y4;have i6 := zK h4.bx.box;clear f5 b0 h4 o2 o1 l9 m2 h0 y4 g1 hN;go_wp2_with (first | (at_builtin; refine qCF rfl _ _ _ rfl uP oD (.slice sn q cn) q hs rfl HN.out (.slice sr x cr) rfl rfl ?a1 ?a2 ?a3 ?_; (case a1 => (unfold maxLen; omega)); (case a2 => omega); (case a3 => omega); intro sn6 cn6 w10 c8 r5 K0 p1; (have G8 := Kh c8); (have I8 := Kh r5); (have z8 := zB h6.out.bx.box r5 (zQ HN.out h6.out.bx.box (by decide))); (obtain⟨e0, e1', e2, e3⟩ := zF z8); (have fz6 := zE z8 3); clear c8 r5 p1) | fail);go_roundg (4194304 - (q + 1))
       case measure => have := g3.out; omega
       case rel =>
        have z6 := a4.out;rw[B2.out]at z6;have A0 := t4.out
        have hp := h6.out.pushN (Y := fun j => X j \/ (Value.slice sr x cr).ownBlock = some j) n2.out (fun j hj => .inl hj) (fun j hj => by
         rcases hj with hj | hj
         ·exact h6.out.bx.lt j hj
         ·exact(A0.lt j hj).2) G8.out I8.out (row := qC (nxtB L) k l S) (by
          have h9 := RowX.of_owns (X := fun j => X j \/ (Value.slice sr x cr).ownBlock = some j) A0 (fun y hy => .inr hy);rw[show kG L l S x = kG L l S k by rw[B2.out], rowTo_full]at h9
          exact h9) rfl
        have e1 : rTs L k l (q + 1) = rTs L k l q ++ [qC (nxtB L) k l S] := by rw[rTs_next H5, g9.out]
        rw[<- e1]at hp;exact⟨q + 1, l, gs, _, _, sf8, cf8, sn6, cn6, ss, sc, by have := g3.out; omega, by go_num, rfl, z6.next H5, hp⟩
    ·have i5 : ¬ (q : Int) < l.length := by omega
     have H5 : q = l.length := by have := b0.le; omega
     have r8 := b0.done hq;have n8 : VD (bfsA (nxtB L) k (finP L) l) l.length k := r8.vd q5 m0 b9;have n1 : (rFs L l q).length = q := qFP (by omega);have g0 : (rTs L k l q).length = q := qCK (by omega);have f7 := (h4.bx.built (n1.trans g0.symm)).dfa
     have B1 : (⟨(k : Int), 0, rFs L l q, rTs L k l q⟩ : DfaV) = bfsA (nxtB L) k (finP L) l := by
      rw[rFs, rTs, H5, List.take_length]; rfl
     rw[B1, n1, g0]at f7;have A7 : 0 < L.length := by rw[c7.out]; exact p0
     have i9 : minD (bfsA (nxtB L) k (finP L) l) k = xF bs (k : Int) := by
      rw[HD.out];have D8 := lN (k := k) q5 m0 p0 n9;refine qBD n8 D8 fun s hs => ?_;obtain⟨b, us, hb, o8⟩ := iG t6.out;have e1 := r8.acc (fin := finP L) hs;rw[e1, Bool.eq_iff_iff, finP_pat A7, HL.out, hb];exact(qFV o8 hs).symm
     have n4 := Kh (fM wr.heap.size wr _ (bfsA (nxtB L) k (finP L) l) l.length k (Nat.le_refl _) f7 n8);rw[i9]at n4;obtain⟨R, hR⟩ : ∃ R, R = xF bs (k : Int) := ⟨_, rfl⟩;rw[<- hR]at n4;have E9 : ∃ N, N <= 66 /\ VD R N k := by rw[hR]; exact qAT t6.out
     obtain⟨N, F2, n0⟩ := E9;have A2 : R.letters = k := n0.hk;have z9 : R.start = 0 := by rw[hR, HD.out]; rfl
     have A3 : R.final.length = N := n0.hn;have A1 : R.next.length = N := n0.nl;obtain⟨d0, d1, d2, d3⟩ := zF h4.bx.box;rw[n1]at d2;rw[g0]at d3;have l3 : Hid (w1.grownBy wr none) := Kh (zA C3.out h4.bx.grown (by simp));have HR := Kh hR; have G2 := Kh A2; have G0 := Kh z9; have G3 := Kh A3; have G1 := Kh A1;have i6 := zK h4.bx.box;clear c2 b0 h4 r8 n8 n1 g0 f7 B1 i9 hR n0 A2 z9 A3 A1 A7 H5 a4 h6 g3;go_wp2_with fail;refine n4.out.mono ?_;rintro e x9 ⟨v9, rfl, m6, H6⟩;have C5 := Kh m6;obtain⟨o9, K5, sf9, cf9, sn9, cn9, rfl, K6, r6⟩ := m6;rw[G2.out, G0.out, G3.out, G1.out]at C5 ⊢;have i0 := Kh (zA l3.out H6 (by simp));have z7 := zB H7.out i0.out (by simp);have J8 := l3.out.size;have c4 := Ga x9 (.cells #[.int .i64 (k : Int), .int .i64 0, .slice sf9 N cf9, .slice sn9 N cn9] 42) none;have c6 := heap_alloc_new x9 (.cells #[.int .i64 (k : Int), .int .i64 0, .slice sf9 N cf9, .slice sn9 N cn9] 42);obtain⟨x10, d9⟩ : ∃ x10, x10 = x9.alloc (.cells #[.int .i64 (k : Int), .int .i64 0, .slice sf9 N cf9, .slice sn9 N cn9] 42) := ⟨_, rfl⟩;obtain⟨o10, e4⟩ : ∃ o10, o10 = x9.heap.size := ⟨_, rfl⟩;rw[<- d9]at c4 c6;rw[<- e4]at c6;have k2 := zB z7 c4 (by simp);have g4 := Kh k2; have s5 := Kh d9; have x0 := Kh e4; have l4 := Kh c4; have y2 := Kh c6;have F1 : Q < wr.heap.size := by omega
     have A5 : ¬ (512 : Int) < N := by omega
     have z0 : Q ≠ o10 := by have := H6.size; omega
     clear r6 H6 z7 d0 d1 d2 d3 n4 k2 c4 c6 d9 e4;go_upto_region 46 with fail;rw[<- s5.out, <- x0.out];obtain⟨q0, q1, q2, q3⟩ := zF g4.out;obtain⟨t0, t1, t2, t3⟩ := zF y2.out;have f0 := zE g4.out 0;have f1 := zE g4.out 1;have f2 := zE g4.out 2;have f3 := zE g4.out 3;go_wp2;obtain⟨k1, g7⟩ := uF g4.out (.int .i64 (k : Int)) (.int .i64 0) (.slice sf9 N cf9) (.slice sn9 N cn9);obtain⟨wz, g5⟩ : ∃ wz, wz = (((x10.setCell ⟨Q, 0, none⟩ (.int .i64 (k : Int))).setCell ⟨Q, 1, none⟩ (.int .i64 0)).setCell ⟨Q, 2, none⟩ (.slice sf9 N cf9)).setCell ⟨Q, 3, none⟩ (.slice sn9 N cn9) := ⟨_, rfl⟩;rw[<- g5]at k1 g7 ⊢;clear g5;obtain⟨r0, r1, r2, r3⟩ := zF k1;clear q0 q1 q2 q3 f0 f1 f2 f3 t0 t1 t2 t3;refine bodyPost_ret (v := .tuple #[.agg #[.int .i64 (k : Int), .int .i64 0, .slice sf9 N cf9, .slice sn9 N cn9], .int .i64 0]) (by simp[results, Try.results79, go_sem, r0, r1, r2, r3]) rfl ?_;have E6 := (C5.out.grow l4.out).far g7 g4.out F1;obtain⟨fv9, nv9, D4, D5⟩ := E6.t;refine⟨fv9, nv9, ?_, ?_, zA (zA (zA y0.out i0.out (by simp)) l4.out (by simp)) g7 (fun y e => by have h7 : Q = y := Oj e; omega)⟩
     ·rw[HE.out, <- HR.out, <- D4]
     ·rw[<- HR.out]; exact D5
end Go.Proofs.Ytjfdomfendbhfaa
namespace Go.Proofs.Ytjfdomfendbhfaa
open Go.RowKit
def autE (letters:Int)(ps:List (List ByteArray)):Int:=if 300<ps.length then 3 else vP letters ps
theorem autos34_any (B:Nat)(w:World)(v:Value)(ps:List (List ByteArray))(letters:Int)(hB:B<=w.heap.size)(h:PatsIn B w v ps)(hl:ps.length<=4096)(h14:∀ p∈ps,patW p letters=0->sG p<=14):Calls Try.prog 51 #[v,.int .i64 letters] w (qFE w (autE letters ps) (autD ps letters)):=by
 obtain⟨a,c,rfl⟩:=h.shape;obtain⟨n,hn⟩:∃ n,n=ps.length:=⟨_,rfl⟩;have HN:=Kh hn;have H:=Kh h;have e4:=Kh h14;rw[<- hn]at hl H ⊢;clear h hn h14;go_enter Try.func51,Try.ntmps51;by_cases h3:300<n
 ·have d4:(300:Int)<n:=by omega
  have c6:Hid (autE letters ps=3):=Kh (by unfold autE;rw[if_pos (by rw[<- HN.out];exact h3)]);go_wp2;refine bodyPost_ret (v:=.tuple #[.slice none 0 0,.int .i64 3]) (by simp[results,Try.results51,go_sem]) rfl ?_;exact⟨none,0,0,by rw[c6.out],zL _ _,.inl (by rw[c6.out];decide)⟩
 have d4:¬ (300:Int)<n:=by omega
 have a0:Hid (autE letters ps=vP letters ps):=Kh (by unfold autE;rw[if_neg (by rw[<- HN.out];exact h3)]);go_wp2
 go_loopg [7,8,19] n (fun gh s7 s8 i wr=>∃ k:Nat,gh+k=n/\i=.int .i64 k/\vP letters (ps.drop k)=vP letters ps/\w.grownBy wr none)
 case atStart=>exact⟨0,rfl,rfl,rfl,zL _ _⟩
 case round =>
  obtain⟨k,H5,rfl,b4,hg⟩:=hrel;have h8:=Kh H5;have HG:=Kh hg;have h5:=Kh b4;clear H5 b4;by_cases hk:k<n
  ·have b7:(k:Int)<n:=by omega
   have H4:=H.out.kept hg (by simp);obtain⟨b,off,cap,e,c9,h7,a7,h4⟩:=H4.at_ (by rw[<- HN.out];omega);rw[<- HN.out]at e h7 h4;simp only[Value.slice.injEq,true_and]at e;obtain⟨rfl,rfl⟩:=e;obtain⟨sa,sc,c1,h2,H0⟩:=h4 k hk;obtain⟨q,hq⟩:∃ q,q=ps.getD k []:=⟨_,rfl⟩;rw[<- hq]at c1 h2 H0;have c7:c<=9223372036854775807:=by unfold maxLen at a7;omega
   have HV:Hid (∀ W:World,wr.grownBy W none->Calls Try.prog 33 #[.agg #[.slice sa q.length sc],.int .i64 letters] W fun e w'=>e=.returned (.int .i64 (patW q letters))/\w.grownBy w' none):=Kh (fun W hW=>(gR B W _ q letters (h2.kept hW (by simp)) H0).mono fun e w' ⟨he,hg'⟩=>⟨he,zA HG.out (zD hW hg') (by simp)⟩);have HQ:=Kh hq;obtain⟨E,hE⟩:∃ E,E=patW q letters:=⟨_,rfl⟩;rw[<- hE]at HV;have HE:=Kh hE;obtain⟨ql,H3⟩:∃ n,n=q.length:=⟨_,rfl⟩;rw[<- H3]at c1 HV;clear H4 h4 h2 H0 hq hg hE H3;go_wp2_with fail;refine(HV.out _ (Ga wr _ none)).mono ?_;rintro e w1 ⟨rfl,H6⟩;have h9:=Kh H6;clear H6 HV;by_cases hE:E=0
   ·have e1:(E != 0)=false:=by simp[hE]
    have b1:=Kh hE;clear hE;go_wp2;go_roundg (n - (k+1))
    case measure=>have:=h8.out;omega
    case rel=>exact⟨k+1,by have:=h8.out;omega,by go_num,(jO (by rw[<- HN.out];exact hk) (by rw[<- HQ.out,<- HE.out];exact b1.out)).trans h5.out,h9.out⟩
   ·have e1:(E != 0)=true:=by rw[bne_iff_ne];exact hE
    have b1:=Kh hE;have c5:Hid (vP letters ps=E):=Kh (by rw[<- h5.out,gZ (by rw[<- HN.out];exact hk) (by rw[<- HQ.out,<- HE.out];exact hE),<- HQ.out,<- HE.out]);clear hE;go_wp2;refine bodyPost_ret (v:=.tuple #[.slice none 0 0,.int .i64 E]) (by simp[results,Try.results51,go_sem]) rfl ?_;exact⟨none,0,0,by rw[a0.out,c5.out],h9.out,.inl (by rw[a0.out,c5.out];exact b1.out)⟩
  ·have a4:k=n:=by have:=h8.out;omega
   have a9:Hid (vP letters ps=0):=Kh (by rw[<- h5.out];exact gY (by rw[<- HN.out];exact hk));have c8:¬ (k:Int)<n:=by omega
   have d6:Hid (∀ j,j<n->patW (ps.getD j []) letters=0):=Kh (fun j hj=>by
    have:=uM.1 a9.out;rw[zG (by rw[<- HN.out];exact hj)]
    exact this _ (List.getElem_mem _))
   clear a4 h5 h8;obtain⟨wo,rfl⟩:∃ wo:World,wo=wr:=⟨_,rfl⟩;have c4:Hid (DsUp w.heap.size wo (.slice none 0 0) []):=Kh ⟨World.ownsRow_nil _ _ _ _,fun x hx=>absurd hx (by simp)⟩;have h9:=Kh hg;clear hg HG;go_wp2
   go_loopg [9,11,12,13,32] n (fun gh v9 s11 s12 s13 i wr=>∃ (k:Nat) (sa:Option Addr) (sc:Nat) (l:List (DfaV×Value×Value)),gh+k=n/\i=.int .i64 k/\v9=.slice sa k sc/\l.map (·.1)=autD (ps.take k) letters/\DsUp w.heap.size wr (.slice sa k sc) l/\l.length=k/\w.grownBy wr none)
   case atStart=>exact⟨0,_,_,[],rfl,rfl,rfl,rfl,c4.out,rfl,h9.out⟩
   case round =>
    clear c4 h9;obtain⟨k,sa,sc,l,H5,rfl,rfl,b6,b8,b5,hg⟩:=hrel;have h8:=Kh H5;have HG:=Kh hg;have H9:=Kh b6;have b2:=Kh b8;have H8:=Kh b5;clear H5 b6 b8 b5;by_cases hk:k<n
    ·have b7:(k:Int)<n:=by omega
     have H4:=H.out.kept hg (by simp);obtain⟨b,off,cap,e,c9,h7,a7,h4⟩:=H4.at_ (by rw[<- HN.out];omega);rw[<- HN.out]at e h7 h4;simp only[Value.slice.injEq,true_and]at e;obtain⟨rfl,rfl⟩:=e;obtain⟨ea,ec,c1,h2,H0⟩:=h4 k hk;have a3:=d6.out k hk
     have a8:Hid (autD (ps.take (k+1)) letters=autD (ps.take k) letters++[xF (ps.getD k []) letters]):=Kh (by
      rw[zR (d:=[]) (by rw[<- HN.out];exact hk),autD,List.map_append];rfl)
     obtain⟨q,hq⟩:∃ q,q=ps.getD k []:=⟨_,rfl⟩;rw[<- hq]at c1 h2 H0 a3 a8;have c7:c<=9223372036854775807:=by unfold maxLen at a7;omega
     have b3:q∈ps:=by rw[hq,zG (by rw[<- HN.out];exact hk)];exact List.getElem_mem _
     have HV:Hid (∀ W:World,wr.grownBy W none->Calls Try.prog 79 #[.agg #[.slice ea q.length ec],.int .i64 letters] W (aW W 0 (xF q letters))):=Kh (fun W hW=>by
      have:=rdfa_anyT B W _ q letters (h2.kept hW (by simp)) H0 (e4.out q b3);rw[a3]at this
      exact this)
     obtain⟨ql,H3⟩:∃ n,n=q.length:=⟨_,rfl⟩;obtain⟨D,hD⟩:∃ D,D=xF q letters:=⟨_,rfl⟩;rw[<- H3]at c1 HV;rw[<- hD]at HV a8;have e5:=hg.size;clear H4 h4 h2 H0 hq hg H3 a3 hD b3;go_wp2_with fail;refine(HV.out _ (Ga wr _ none)).mono ?_;rintro e w1 ⟨f1,x1,rfl,a2,H6⟩;obtain⟨fa1,fl1,fc1,na1,nl1,nc1,rfl,rfl⟩:=a2.shapes;have h9:=Kh (zA (Ga wr (.cells #[.slice ea ql ec] 28) none) H6 (by simp));have c0:=Kh a2;obtain⟨dl,a6⟩:∃ x,x=D.letters:=⟨_,rfl⟩;obtain⟨dst,H1⟩:∃ x,x=D.start:=⟨_,rfl⟩;rw[<- a6,<- H1];have e2:=Kh a6;have e0:=Kh H1;clear H6 a2 HV c1 a6 H1;obtain⟨w2,a1⟩:∃ w2,w2=w1.alloc (.cells #[.int .i64 dl,.int .i64 dst,.slice fa1 fl1 fc1,.slice na1 nl1 nc1] 42):=⟨_,rfl⟩;have H7:=Ga w1 (.cells #[.int .i64 dl,.int .i64 dst,.slice fa1 fl1 fc1,.slice na1 nl1 nc1] 42) none;have h7:=heap_alloc_new w1 (.cells #[.int .i64 dl,.int .i64 dst,.slice fa1 fl1 fc1,.slice na1 nl1 nc1] 42);obtain⟨R,hR⟩:∃ R,R=w1.heap.size:=⟨_,rfl⟩;rw[<- a1]at H7 h7;rw[<- hR]at h7;have d7:=Kh (c0.out.grow H7);have b0:=Kh (zA h9.out H7 (by simp));have H2:=Kh (b2.out.grow b0.out);have d5:=Kh a1;have d8:=Kh hR;obtain⟨d0,d1,d2,d3⟩:=zF h7;have e6:=b0.out.size;clear a1 hR H7 h7 b2 h9 c0;go_upto_region 15 with fail;rw[<- d5.out,<- d8.out];go_wp2_with (first|(at_builtin;refine lW rfl _ _ _ rfl qU w.heap.size (.slice sa k sc) k (nC l) rfl ?h0 [.int .i64 dl,.int .i64 dst,.slice fa1 fl1 fc1,.slice na1 nl1 nc1] rfl rfl ?h1 ?c1 ?c2 ?c3 ?_)|fail)
     case h0=>have:=H2.out.own;rw[H8.out]at this;exact this
     case h1=>intro u hu;simp at hu;rcases hu with rfl|rfl|rfl|rfl<;>rfl
     case c1=>unfold maxLen;omega
     case c2=>omega
     case c3=>have:=HG.out.size;omega
     intro sa' sc' w3 h6 a5;have b9:=H2.out.push (v':=.slice sa' (k+1) sc') (x:=(D,.slice fa1 fl1 fc1,.slice na1 nl1 nc1)) d7.out (by rw[H8.out];unfold dval;rw[<- e2.out,<- e0.out];exact h6) a5;have e3:=Kh b9;have d9:Hid (w.grownBy w3 none):=Kh (zA (zA HG.out b0.out (by simp)) a5 (fun x e=>(H2.out.own.lt x e).1));clear h6 a5 b9;go_wp2;go_roundg (n - (k+1))
     case measure=>have:=h8.out;omega
     case rel=>exact⟨k+1,sa',sc',l++[(D,.slice fa1 fl1 fc1,.slice na1 nl1 nc1)],by have:=h8.out;omega,by go_num,rfl,by rw[a8.out,List.map_append,H9.out];rfl,e3.out,by rw[List.length_append,H8.out];rfl,d9.out⟩
    ·have a4:k=n:=by have:=h8.out;omega
     have b7:¬ (k:Int)<n:=(by omega);have HE:Hid (ps.take k=ps):=Kh (List.take_of_length_le (by rw[<- HN.out];omega));rw[HE.out]at H9;clear hg a4;go_wp2;refine bodyPost_ret (v:=.tuple #[.slice sa k sc,.int .i64 0]) (by simp[results,Try.results51,go_sem]) rfl ?_;exact⟨sa,k,sc,by rw[a0.out,a9.out],HG.out,.inr ⟨by rw[a0.out,a9.out],by rw[<- H9.out,List.length_map,H8.out],l,H9.out,b2.out⟩⟩
end Go.Proofs.Ytjfdomfendbhfaa
namespace Go.Proofs.Ytjfdomfendbhfaa
theorem oJ {α:Type}{l m:List α}{x:α}(h:l <+: m){i:Nat}(hi:i<l.length):m.getD i x=l.getD i x:=by
 obtain⟨r,rfl⟩:=h;simp[List.getD,List.getElem?_append_left hi]
theorem qEV {np:Nat}{cs cs':List ChoV}(h:cs <+: cs'){i:Nat}(hi:i<cs.length):choB np cs' i=choB np cs i:=by
 have e:∀ p r,refB cs' i p r=refB cs i p r:=fun p r=>by
  unfold refB;by_cases h1:0<=r/\r<=1+(i:Int)
  ·by_cases h2:r<2
   ·simp[h2]
   ·rw[oJ h (show r.toNat - 2<cs.length by omega)]
  ·simp[h1]
 unfold choB;rw[oJ h hi,e,e]
theorem chosTo_pre {np k:Nat}{cs cs':List ChoV}(h:cs <+: cs')(hk:k<=cs.length):vD np cs' k ↔ vD np cs k :=
 ⟨fun hc i hi=>by rw[<- qEV h (by omega)];exact hc i hi,fun hc i hi=>by rw[qEV h (by omega)];exact hc i hi⟩
theorem aO {np:Nat}{cs cs':List ChoV}{m:Nat->Bool}(h:cs <+: cs')(hc:vD np cs cs.length):∀ (f:Nat) (r:Int),r<=1+(cs.length:Int)->decF cs' m f r=decF cs m f r
 | 0,r,_=>rfl
 | f+1,r,hr=>by
  rw[decF,decF]
  split
  ·rfl
  ·rename_i h2
   have hi:r.toNat - 2<cs.length:=by omega
   rw[oJ h hi]
   have hf:=nZ (hc _ hi)
   split
   ·exact aO h hc f _ (by omega)
   ·exact aO h hc f _ (by omega)
theorem qEO {np:Nat}{cs cs':List ChoV}{m:Nat->Bool}(h:cs <+: cs')(hc:vD np cs cs.length){r:Int}(hr:r<=1+(cs.length:Int)):decG cs' m r=decG cs m r:=aO h hc _ r hr
structure ClaV where
 m:List Bool
 yes:Int
 no:Int
deriving Inhabited
def ClaV.b (c:ClaV):Bool:=decide (0<=c.yes)
def jJ (l:List ClaV)(p:Nat):Prop:=∀ c∈l,∀ c'∈l,∀ q,q<p->c.m.getD q false=c'.m.getD q false
structure ClsOk (np:Nat)(l:List ClaV):Prop where
 len:∀ c∈l,c.m.length=np
 nd:(l.map ClaV.m).Nodup
def yesL (l:List ClaV)(p:Nat):List ClaV:=l.filter fun c=>c.m.getD p false
def noL (l:List ClaV)(p:Nat):List ClaV:=l.filter fun c=>!c.m.getD p false
theorem qAA (l:List ClaV)(p:Nat):(yesL l p).length+(noL l p).length=l.length:=by
 induction l with
 | nil=>rfl
 | cons c l ih =>
  unfold yesL noL at ih ⊢;rw[List.filter_cons,List.filter_cons]
  generalize c.m.getD p false=b
  cases b
  ·rw[if_neg (by decide),if_pos (by decide),List.length_cons,List.length_cons];omega
  ·rw[if_pos (by decide),if_neg (by decide),List.length_cons,List.length_cons];omega
theorem ClsOk.sub {np:Nat}{l l':List ClaV}(h:ClsOk np l)(hs:l'.Sublist l):ClsOk np l' :=
 ⟨fun c hc=>h.len c (hs.mem hc),h.nd.sublist (hs.map _)⟩
theorem jJ.yes {l:List ClaV}{p:Nat}(h:jJ l p):jJ (yesL l p) (p+1):=fun c hc c' hc' q hq=>by
 have h1:=List.mem_filter.1 hc
 have h2:=List.mem_filter.1 hc'
 rcases Nat.lt_succ_iff_lt_or_eq.1 hq with hq|rfl
 ·exact h c h1.1 c' h2.1 q hq
 ·rw[h1.2,h2.2]
theorem jJ.no {l:List ClaV}{p:Nat}(h:jJ l p):jJ (noL l p) (p+1):=fun c hc c' hc' q hq=>by
 have h1:=List.mem_filter.1 hc
 have h2:=List.mem_filter.1 hc'
 rcases Nat.lt_succ_iff_lt_or_eq.1 hq with hq|rfl
 ·exact h c h1.1 c' h2.1 q hq
 ·have e1:=h1.2;have e2:=h2.2
  simp only[Bool.not_eq_true']at e1 e2
  rw[e1,e2]
theorem jJ.skip {l:List ClaV}{p:Nat}(h:jJ l p)(he:(yesL l p).length=0\/(noL l p).length=0):jJ l (p+1):=fun c hc c' hc' q hq=>by
 rcases Nat.lt_succ_iff_lt_or_eq.1 hq with hq|rfl
 ·exact h c hc c' hc' q hq
 ·rcases he with he|he
  ·have h0:=List.eq_nil_of_length_eq_zero he
   have key:∀ c∈l,c.m.getD q false=false:=fun c hc=>by
    by_cases h1:c.m.getD q false=true
    ·have:c∈yesL l q:=List.mem_filter.2 ⟨hc,h1⟩
     rw[h0]at this;cases this
    ·simpa using h1
   rw[key c hc,key c' hc']
  ·have h0:=List.eq_nil_of_length_eq_zero he
   have key:∀ c∈l,c.m.getD q false=true:=fun c hc=>by
    by_cases h1:c.m.getD q false=true
    ·exact h1
    ·have:c∈noL l q:=List.mem_filter.2 ⟨hc,by simpa using h1⟩
     rw[h0]at this;cases this
   rw[key c hc,key c' hc']
theorem jJ.one {np:Nat}{l:List ClaV}(h:jJ l np)(hl:ClsOk np l):l.length<=1:=by
 match l,h,hl with
 | [],_,_=>simp
 | [c],_,_=>simp
 | c::c'::r,h,hl =>
  exfalso
  have e:c.m=c'.m:=by
   refine List.ext_getElem (by rw[hl.len c (by simp),hl.len c' (by simp)]) fun i h1 h2=>?_;have:=h c (by simp) c' (by simp) i (by rw[<- hl.len c (by simp)];exact h1)
   rwa [zG h1,zG h2]at this
  have:=hl.nd;simp[e]at this
def qA (l:List ClaV):Bool:=l.all fun c=>c.b == (l.headD default).b
def iA (b:Bool):Int:=if b then 1 else 0
theorem const_of_one {l:List ClaV}(h:l.length<=1):qA l=true:=by
 match l,h with
 | [],_=>rfl
 | [c],_=>simp[qA]
structure DecOk (np:Nat)(cs cs':List ChoV)(l:List ClaV)(p:Nat)(r:Int):Prop where
 pre:cs <+: cs'
 ok:vD np cs' cs'.length
 nd:cs'.Nodup
 lo:0<=r
 hi:r<=1+(cs'.length:Int)
 pat:2<=r->(p:Int)<=(cs'.getD (r.toNat - 2) default).p
 dec:∀ c∈l,decG cs' (fun i=>c.m.getD i false) r=c.b
 few:cs'.length+1<=cs.length+l.length
theorem DecOk.const {np:Nat}{cs:List ChoV}{l:List ClaV}{p:Nat}(hc:vD np cs cs.length)(hn:cs.Nodup)(h0:0<l.length){b:Bool}(h:∀ c∈l,c.b=b):DecOk np cs cs l p (iA b):=by
 have hb:iA b=0\/iA b=1:=by cases b<;>simp[iA]
 refine⟨List.prefix_refl _,hc,hn,by omega,by omega,fun h2=>by omega,fun c hc=>?_,by omega⟩;rw[qEP _ _ (by omega),h c hc];cases b<;>rfl
theorem jV {np:Nat}{cs cs':List ChoV}{l:List ClaV}{p q:Nat}{r:Int}(h:DecOk np cs cs' l p r)(hq:q<=p):DecOk np cs cs' l q r :=
 ⟨h.pre,h.ok,h.nd,h.lo,h.hi,fun h2=>by have:=h.pat h2;omega,h.dec,h.few⟩
section
variable {np:Nat} {cs c1 c2:List ChoV} {l:List ClaV} {p:Nat} {rn ry:Int}
theorem eD (hn:DecOk np cs c1 (noL l p) (p+1) rn)(hy:DecOk np c1 c2 (yesL l p) (p+1) ry):∀ c∈l,decG c2 (fun i=>c.m.getD i false) (if c.m.getD p false then ry else rn)=c.b:=fun c hc=>by
 by_cases h:c.m.getD p false=true
 ·rw[if_pos h];exact hy.dec c (List.mem_filter.2 ⟨hc,h⟩)
 ·rw[if_neg h,qEO hy.pre hn.ok hn.hi]
  exact hn.dec c (List.mem_filter.2 ⟨hc,by simpa using h⟩)
theorem DecOk.same (hn:DecOk np cs c1 (noL l p) (p+1) rn)(hy:DecOk np c1 c2 (yesL l p) (p+1) ry)(e:ry=rn):DecOk np cs c2 l p ry:=by
 have h1:=hn.few;have h2:=hy.few;have h3:=qAA l p;refine⟨hn.pre.trans hy.pre,hy.ok,hy.nd,hy.lo,hy.hi,fun h=>by have:=hy.pat h;omega,fun c hc=>?_,by omega⟩;have:=eD hn hy c hc
 rwa [<- e,ite_self]at this
theorem cho_ok (hp:p<np)(hn:DecOk np cs c1 (noL l p) (p+1) rn)(hy:DecOk np c1 c2 (yesL l p) (p+1) ry):refB c2 c2.length (p:Int) ry=true/\refB c2 c2.length (p:Int) rn=true:=by
 have hl:=hy.pre.length_le;have h1:=hn.hi;have h2:=hy.hi;have h3:=hn.lo;have h4:=hy.lo;constructor
 ·simp only[refB,Bool.and_eq_true,decide_eq_true_eq]
  refine⟨by omega,?_⟩;rcases Int.lt_or_le ry 2 with h|h
  ·exact .inl h
  ·have:=hy.pat h;exact .inr (by omega)
 ·simp only[refB,Bool.and_eq_true,decide_eq_true_eq]
  refine⟨by omega,?_⟩;rcases Int.lt_or_le rn 2 with h|h
  ·exact .inl h
  ·have h5:=hn.pat h
   rw[oJ hy.pre (by omega)];exact .inr (by omega)
theorem DecOk.old (hp:p<np)(hn:DecOk np cs c1 (noL l p) (p+1) rn)(hy:DecOk np c1 c2 (yesL l p) (p+1) ry){i:Nat}(hi:i<c2.length)(e:c2.getD i default=⟨p,ry,rn⟩):DecOk np cs c2 l p (2+(i:Int)):=by
 have h1:=hn.few;have h2:=hy.few;have h3:=qAA l p;have e0:(2+(i:Int)).toNat - 2=i:=by omega
 refine⟨hn.pre.trans hy.pre,hy.ok,hy.nd,by omega,by omega,fun h=>by rw[e0,e];exact Int.le_refl _,fun c hc=>?_,by omega⟩;have:=eD hn hy c hc;rw[eE hy.ok (by omega) (by omega),e0,e];exact this
theorem DecOk.new (hp:p<np)(hn:DecOk np cs c1 (noL l p) (p+1) rn)(hy:DecOk np c1 c2 (yesL l p) (p+1) ry)(hm:(⟨p,ry,rn⟩:ChoV) ∉ c2)(hY:0<(yesL l p).length)(hN:0<(noL l p).length):DecOk np cs (c2++[⟨p,ry,rn⟩]) l p (2+(c2.length:Int)):=by
 have h1:=hn.few;have h2:=hy.few;have h3:=qAA l p;have h0:c2 <+: c2++[⟨p,ry,rn⟩]:=List.prefix_append _ _;have e0:(2+(c2.length:Int)).toNat - 2=c2.length:=by omega
 have e1:(c2++[(⟨p,ry,rn⟩:ChoV)]).getD c2.length default=⟨p,ry,rn⟩:=by rw[List.getD_eq_getElem?_getD];simp
 have h8:vD np (c2++[⟨p,ry,rn⟩]) (c2++[(⟨p,ry,rn⟩:ChoV)]).length:=by
  rw[List.length_append,List.length_singleton];refine eL ((chosTo_pre h0 (Nat.le_refl _)).2 hy.ok) ?_;obtain⟨h4,h5⟩:=cho_ok hp hn hy
  have e2:∀ r,refB c2 c2.length (p:Int) r=true->refB (c2++[(⟨p,ry,rn⟩:ChoV)]) c2.length (p:Int) r=true:=fun r h=>by
   simp only[refB,Bool.and_eq_true,decide_eq_true_eq]at h ⊢;refine⟨h.1,?_⟩;rcases Int.lt_or_le r 2 with h6|h6
   ·exact .inl h6
   ·rcases h.2 with h7|h7
    ·omega
    ·rw[oJ h0 (by omega)];exact .inr h7
  unfold choB;rw[e1];simp only[Bool.and_eq_true,decide_eq_true_eq];exact⟨by omega,e2 _ h4,e2 _ h5⟩
 refine⟨(hn.pre.trans hy.pre).trans h0,h8,?_,by omega,by simp;omega,fun h=>by rw[e0,e1];exact Int.le_refl _,fun c hc=>?_,by simp;omega⟩
 ·rw[List.nodup_append]
  exact⟨hy.nd,by simp,fun a ha b hb e=>by simp at hb;subst hb;subst e;exact hm ha⟩
 ·have h6:=eD hn hy c hc
  rw[eE h8 (by omega) (by simp;omega),e0,e1];show decG _ _ (if c.m.getD (p:Int).toNat false then ry else rn)=_;rw[Int.toNat_natCast]
  have hr:(if c.m.getD p false then ry else rn)<=1+(c2.length:Int):=by
   have:=hy.hi;have:=hn.hi;have:=hy.pre.length_le
   split<;>omega
  rw[qEO h0 hy.ok hr];exact h6
end
def FstI (M:Nat->List Bool)(A:Nat->Bool)(s:Nat)(m:List Bool)(y:Int):Prop :=
 (y = -1/\∀ i,i<s->M i=m->A i=false)\/∃ j:Nat,y=(j:Int)/\j<s/\M j=m/\A j=true
theorem FstI.keep {M:Nat->List Bool}{A:Nat->Bool}{s:Nat}{m:List Bool}{y:Int}(h:FstI M A s m y)(hA:M s=m->A s=true->0<=y):FstI M A (s+1) m y:=by
 rcases h with ⟨rfl,h⟩|⟨j,rfl,hj,h1,h2⟩
 ·refine .inl ⟨rfl,fun i hi hm=>?_⟩
  rcases Nat.lt_succ_iff_lt_or_eq.1 hi with hi|rfl
  ·exact h i hi hm
  ·cases hb:A i with
   | false=>rfl
   | true=>have:=hA hm hb;omega
 ·exact .inr ⟨j,rfl,by omega,h1,h2⟩
structure ClsI (M:Nat->List Bool)(A:Nat->Bool)(s t:Nat)(l:List ClaV):Prop where
 nd:(l.map ClaV.m).Nodup
 all:∀ i,i<t->M i∈l.map ClaV.m
 met:∀ c∈l,∃ i,i<t/\M i=c.m
 yes:∀ c∈l,FstI M A s c.m c.yes
 no:∀ c∈l,FstI M (fun i=>!A i) s c.m c.no
theorem ClsI.nil (M:Nat->List Bool)(A:Nat->Bool):ClsI M A 0 0 [] :=
 ⟨by simp,fun i hi=>by omega,fun c hc=>by simp at hc,fun c hc=>by simp at hc,fun c hc=>by simp at hc⟩
theorem ClsI.old {M : Nat -> List Bool}{A : Nat -> Bool}{s : Nat}{l : List ClaV}(h : ClsI M A s s l)(hm : M s ∈ l.map ClaV.m): ClsI M A s (s + 1) l :=
 ⟨h.nd, fun i hi => by
  rcases Nat.lt_succ_iff_lt_or_eq.1 hi with hi | rfl
  ·exact h.all i hi
  ·exact hm, fun c hc => by obtain⟨i, hi, e⟩ := h.met c hc; exact⟨i, by omega, e⟩, h.yes, h.no⟩
theorem ClsI.new {M:Nat->List Bool}{A:Nat->Bool}{s:Nat}{l:List ClaV}(h:ClsI M A s s l)(hm:M s ∉ l.map ClaV.m):ClsI M A s (s+1) (l++[⟨M s,-1,-1⟩]):=by
 have h0:∀ i,i<s->M i=M s->False:=fun i hi e=>hm (e ▸ h.all i hi);refine⟨?_,fun i hi=>?_,fun c hc=>?_,fun c hc=>?_,fun c hc=>?_⟩
 ·rw[List.map_append,List.nodup_append]
  exact⟨h.nd,by simp,fun a ha b hb e=>by simp at hb;subst hb;subst e;exact hm ha⟩
 ·rw[List.map_append]
  rcases Nat.lt_succ_iff_lt_or_eq.1 hi with hi|rfl
  ·exact List.mem_append_left _ (h.all i hi)
  ·exact List.mem_append_right _ (by simp)
 ·rcases List.mem_append.1 hc with hc|hc
  ·obtain⟨i,hi,e⟩:=h.met c hc;exact⟨i,by omega,e⟩
  ·simp at hc;subst hc;exact⟨s,by omega,rfl⟩
 ·rcases List.mem_append.1 hc with hc|hc
  ·exact h.yes c hc
  ·simp at hc;subst hc;exact .inl ⟨rfl,fun i hi e=>(h0 i hi e).elim⟩
 ·rcases List.mem_append.1 hc with hc|hc
  ·exact h.no c hc
  ·simp at hc;subst hc;exact .inl ⟨rfl,fun i hi e=>(h0 i hi e).elim⟩
def putC (c:ClaV)(a:Bool)(s:Nat):ClaV:=if a=true then (if c.yes<0 then ⟨c.m,s,c.no⟩ else c) else (if c.no<0 then ⟨c.m,c.yes,s⟩ else c)
theorem qDP (c:ClaV)(a:Bool)(s:Nat):(putC c a s).m=c.m:=by
 unfold putC;split<;>split<;>rfl
theorem ClsI.put {M:Nat->List Bool}{A:Nat->Bool}{s n:Nat}{l:List ClaV}(h:ClsI M A s (s+1) l)(hn:n<l.length)(hm:(l.getD n default).m=M s):ClsI M A (s+1) (s+1) (l.set n (putC (l.getD n default) (A s) s)):=by
 have e0:l.getD n default=l[n]:=zG hn;rw[e0]at hm ⊢
 have h6:(l.set n (putC l[n] (A s) s)).map ClaV.m=l.map ClaV.m:=by
  rw[List.map_set,qDP];refine List.ext_getElem (by simp) fun i h1 h2=>?_;rw[List.getElem_set]
  split
  ·rename_i e;subst e;simp
  ·rfl
 have h0:∀ c∈l.set n (putC l[n] (A s) s),c=putC l[n] (A s) s\/(c∈l/\c.m≠M s):=fun c hc=>by
  obtain⟨i,hi,rfl⟩:=List.getElem_of_mem hc;rw[List.length_set]at hi;rw[List.getElem_set]
  split
  ·exact .inl rfl
  ·rename_i e
   refine .inr ⟨List.getElem_mem hi,fun e2=>e ?_⟩;have h3:=h.nd;have h4:(l.map ClaV.m)[n]'(by simpa using hn)=(l.map ClaV.m)[i]'(by simpa using hi):=by simp only[List.getElem_map];rw[hm,e2]
   exact(List.getElem_inj h3).1 h4
 have h5:=List.getElem_mem hn;refine⟨by rw[h6];exact h.nd,fun i hi=>by rw[h6];exact h.all i hi,fun c hc=>?_,fun c hc=>?_,fun c hc=>?_⟩
 ·rcases h0 c hc with rfl|⟨hc,_⟩
  ·rw[qDP];exact h.met _ h5
  ·exact h.met c hc
 ·rcases h0 c hc with rfl|⟨hc,hne⟩
  ·rw[qDP]
   have h1:=h.yes _ h5;unfold putC
   split
   ·rename_i ha
    split
    ·exact .inr ⟨s,rfl,by omega,hm.symm,ha⟩
    ·rename_i h2;exact h1.keep (fun _ _=>by omega)
   ·rename_i ha
    split
    ·exact h1.keep (fun _ hb=>absurd hb ha)
    ·exact h1.keep (fun _ hb=>absurd hb ha)
  ·exact(h.yes c hc).keep (fun e _=>absurd e.symm hne)
 ·rcases h0 c hc with rfl|⟨hc,hne⟩
  ·rw[qDP]
   have h1:=h.no _ h5;unfold putC
   split
   ·rename_i ha
    split
    ·exact h1.keep (fun _ hb=>by rw[ha]at hb;cases hb)
    ·exact h1.keep (fun _ hb=>by rw[ha]at hb;cases hb)
   ·rename_i ha
    split
    ·exact .inr ⟨s,rfl,by omega,hm.symm,by simp only[Bool.not_eq_true]at ha;simp[ha]⟩
    ·rename_i h2;exact h1.keep (fun _ _=>by omega)
  ·exact(h.no c hc).keep (fun e _=>absurd e.symm hne)
def lV (c:ClaV):Bool:=decide (0<=c.yes/\0<=c.no)
section
variable {M:Nat->List Bool} {A:Nat->Bool} {s:Nat} {l:List ClaV}
theorem ClsI.both (h:ClsI M A s s l){c:ClaV}(hc:c∈l)(hb:lV c=true):∃ y n:Nat,c.yes=(y:Int)/\c.no=(n:Int)/\y<s/\n<s/\M y=M n/\A y=true/\A n=false:=by
 simp only[lV,decide_eq_true_eq]at hb;rcases h.yes c hc with ⟨e,_⟩|⟨y,e1,hy,hy1,hy2⟩
 ·omega
 rcases h.no c hc with ⟨e,_⟩|⟨n,e2,hn,hn1,hn2⟩
 ·omega
 exact⟨y,n,e1,e2,hy,hn,hy1.trans hn1.symm,hy2,by simpa using hn2⟩
theorem ClsI.clash (h:ClsI M A s s l)(hb:∀ c∈l,lV c=false){i j:Nat}(hi:i<s)(hj:j<s)(hm:M i=M j)(h1:A i=true)(h2:A j=false):False:=by
 obtain⟨c,hc,e⟩:=List.mem_map.1 (h.all i hi);have h3:=hb c hc
 have h4:0<=c.yes:=by
  rcases h.yes c hc with ⟨_,h5⟩|⟨y,e1,_⟩
  ·have:=h5 i hi e.symm;rw[h1]at this;cases this
  ·omega
 have h5:0<=c.no:=by
  rcases h.no c hc with ⟨_,h5⟩|⟨y,e1,_⟩
  ·have:=h5 j hj (hm ▸ e.symm);simp[h2]at this
  ·omega
 simp[lV,h4,h5]at h3
theorem ClsI.dec (h:ClsI M A s s l)(hb:∀ c∈l,lV c=false){i:Nat}(hi:i<s):∃ c∈l,c.m=M i/\c.b=A i:=by
 obtain⟨c,hc,e⟩:=List.mem_map.1 (h.all i hi);refine⟨c,hc,e,?_⟩;unfold ClaV.b;rcases h.yes c hc with ⟨h4,h5⟩|⟨y,e1,hy,hy1,hy2⟩
 ·rw[h5 i hi e.symm,h4];rfl
 ·have:A i=true:=by
   cases hA:A i with
   | true=>rfl
   | false=>exact(h.clash hb hy hi (hy1.trans e) hy2 hA).elim
  rw[this,decide_eq_true_eq];omega
theorem ClsI.len_le (h:ClsI M A s s l):l.length<=s:=by
 have h1:(l.map ClaV.m).length<=((List.range s).map M).length:=List.Nodup.length_le_of_subset h.nd (fun x hx=>by
  obtain⟨c,hc,rfl⟩:=List.mem_map.1 hx;obtain⟨i,hi,e⟩:=h.met c hc
  exact List.mem_map.2 ⟨i,List.mem_range.2 hi,e⟩)
 simpa using h1
end
structure GrpI (M:Nat->List Bool)(A:Nat->Bool)(s t:Nat)(sets:List (List Bool))(ys ns:List Bool):Prop where
 nd:sets.Nodup
 all:∀ i,i<t->M i∈sets
 met:∀ x∈sets,∃ i,i<t/\M i=x
 leny:ys.length=sets.length
 lenn:ns.length=sets.length
 yes:∀ k,k<sets.length->(ys.getD k false=true ↔ ∃ i,i<s/\M i=sets.getD k []/\A i=true)
 no:∀ k,k<sets.length->(ns.getD k false=true ↔ ∃ i,i<s/\M i=sets.getD k []/\A i=false)
theorem GrpI.nil (M:Nat->List Bool)(A:Nat->Bool):GrpI M A 0 0 [] [] [] :=
 ⟨by simp,fun i hi=>by omega,fun c hc=>by simp at hc,rfl,rfl,fun k hk=>by simp at hk,fun k hk=>by simp at hk⟩
section
variable {M:Nat->List Bool} {A:Nat->Bool} {s:Nat} {sets:List (List Bool)} {ys ns:List Bool}
theorem GrpI.old (h : GrpI M A s s sets ys ns)(hm : M s ∈ sets): GrpI M A s (s + 1) sets ys ns :=
 ⟨h.nd, fun i hi => by
  rcases Nat.lt_succ_iff_lt_or_eq.1 hi with hi | rfl
  ·exact h.all i hi
  ·exact hm, fun c hc => by obtain⟨i, hi, e⟩ := h.met c hc; exact⟨i, by omega, e⟩, h.leny, h.lenn, h.yes, h.no⟩
theorem pN {α:Type}{l:List α}{x d:α}{k:Nat}(hk:k<l.length):(l++[x]).getD k d=l.getD k d:=by simp[List.getD,List.getElem?_append_left hk]
theorem rS {α:Type}{l:List α}{x d:α}{k:Nat}(hk:k=l.length):(l++[x]).getD k d=x:=by subst hk;simp[List.getD]
theorem GrpI.new (h:GrpI M A s s sets ys ns)(hm:M s ∉ sets):GrpI M A s (s+1) (sets++[M s]) (ys++[false]) (ns++[false]):=by
 have h0:∀ i,i<s->M i=M s->False:=fun i hi e=>hm (e ▸ h.all i hi);refine⟨?_,fun i hi=>?_,fun c hc=>?_,by simp[h.leny],by simp[h.lenn],fun k hk=>?_,fun k hk=>?_⟩
 ·rw[List.nodup_append]
  exact⟨h.nd,by simp,fun a ha b hb e=>by simp at hb;subst hb;subst e;exact hm ha⟩
 ·rcases Nat.lt_succ_iff_lt_or_eq.1 hi with hi|rfl
  ·exact List.mem_append_left _ (h.all i hi)
  ·exact List.mem_append_right _ (by simp)
 ·rcases List.mem_append.1 hc with hc|hc
  ·obtain⟨i,hi,e⟩:=h.met c hc;exact⟨i,by omega,e⟩
  ·simp at hc;subst hc;exact⟨s,by omega,rfl⟩
 ·rw[List.length_append,List.length_singleton]at hk
  rcases Nat.lt_succ_iff_lt_or_eq.1 hk with hk|hk
  ·rw[pN (by rw[h.leny];exact hk),pN hk];exact h.yes k hk
  ·rw[rS (by rw[h.leny];exact hk),rS hk]
   exact⟨fun e=>(by cases e),fun⟨i,hi,e,_⟩=>(h0 i hi e).elim⟩
 ·rw[List.length_append,List.length_singleton]at hk
  rcases Nat.lt_succ_iff_lt_or_eq.1 hk with hk|hk
  ·rw[pN (by rw[h.lenn];exact hk),pN hk];exact h.no k hk
  ·rw[rS (by rw[h.lenn];exact hk),rS hk]
   exact⟨fun e=>(by cases e),fun⟨i,hi,e,_⟩=>(h0 i hi e).elim⟩
theorem qBT {l:List Bool}{n k:Nat}{x:Bool}(hn:n<l.length):(l.set n x).getD k false=if k=n then x else l.getD k false:=by
 simp only[List.getD_eq_getElem?_getD,List.getElem?_set]
 split
 ·rename_i e;subst e;simp[hn]
 ·rename_i e;rw[if_neg (fun h=>e h.symm)]
theorem GrpI.put (h:GrpI M A s (s+1) sets ys ns){n:Nat}(hn:n<sets.length)(hm:sets.getD n []=M s):GrpI M A (s+1) (s+1) sets (ys.set n (ys.getD n false || A s)) (ns.set n (ns.getD n false || !A s)):=by
 have h0:∀ k,k<sets.length->k≠n->sets.getD k []≠M s:=fun k hk hne e=>hne (by
  rw[<- hm,zG hk,zG hn]at e
  exact(List.getElem_inj h.nd).1 e)
 refine⟨h.nd,h.all,h.met,by simp[h.leny],by simp[h.lenn],fun k hk=>?_,fun k hk=>?_⟩
 ·rw[qBT (by rw[h.leny];exact hn)]
  split
  ·rename_i e;subst e
   rw[Bool.or_eq_true,h.yes k hk];constructor
   ·rintro (⟨i,hi,e1,e2⟩|e)
    ·exact⟨i,by omega,e1,e2⟩
    ·exact⟨s,by omega,hm.symm,e⟩
   ·rintro ⟨i,hi,e1,e2⟩
    rcases Nat.lt_succ_iff_lt_or_eq.1 hi with hi|rfl
    ·exact .inl ⟨i,hi,e1,e2⟩
    ·exact .inr e2
  ·rename_i e
   rw[h.yes k hk];constructor
   ·rintro ⟨i,hi,e1,e2⟩;exact⟨i,by omega,e1,e2⟩
   ·rintro ⟨i,hi,e1,e2⟩
    rcases Nat.lt_succ_iff_lt_or_eq.1 hi with hi|rfl
    ·exact⟨i,hi,e1,e2⟩
    ·exact absurd e1.symm (h0 k hk e)
 ·rw[qBT (by rw[h.lenn];exact hn)]
  split
  ·rename_i e;subst e
   rw[Bool.or_eq_true,h.no k hk];constructor
   ·rintro (⟨i,hi,e1,e2⟩|e)
    ·exact⟨i,by omega,e1,e2⟩
    ·exact⟨s,by omega,hm.symm,by simpa using e⟩
   ·rintro ⟨i,hi,e1,e2⟩
    rcases Nat.lt_succ_iff_lt_or_eq.1 hi with hi|rfl
    ·exact .inl ⟨i,hi,e1,e2⟩
    ·exact .inr (by simp[e2])
  ·rename_i e
   rw[h.no k hk];constructor
   ·rintro ⟨i,hi,e1,e2⟩;exact⟨i,by omega,e1,e2⟩
   ·rintro ⟨i,hi,e1,e2⟩
    rcases Nat.lt_succ_iff_lt_or_eq.1 hi with hi|rfl
    ·exact⟨i,hi,e1,e2⟩
    ·exact absurd e1.symm (h0 k hk e)
end
structure BackI (ds:List DfaV)(k:Nat)(L:List (List Nat))(s0 s:Nat)(t:List Nat):Prop where
 ok:yJ k t
 walk:sI (nxtT ds) (L.getD s []) t.reverse=L.getD s0 []
 len:t.length+s<=s0
theorem BackI.start (ds:List DfaV)(k:Nat)(L:List (List Nat))(s:Nat):BackI ds k L s s []:=⟨fun a ha=>by simp at ha,rfl,by simp⟩
theorem BackI.step {ds : List DfaV}{k : Nat}{L : List (List Nat)}{s0 s f b : Nat}{t : List Nat}(h : BackI ds k L s0 s t)(hb : b < k)(hf : f < s)(he : nxtT ds (L.getD f []) b = L.getD s []): BackI ds k L s0 f (t ++ [b]) :=
 ⟨fun a ha => by
  rcases List.mem_append.1 ha with ha | ha
  ·exact h.ok a ha
  ·simp at ha; subst ha; exact hb, by
  rw[List.reverse_append]
  show sI (nxtT ds) (nxtT ds (L.getD f []) b) t.reverse = _
  rw[he]; exact h.walk, by have := h.len; rw[List.length_append, List.length_singleton]; omega⟩
end Go.Proofs.Ytjfdomfendbhfaa
