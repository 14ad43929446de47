/- Part 29 of the proof: CDec, MatchW, CHold. -/
import Derived.Test.YtjfdomfendbhfaaQa28
import Derived.Deep.RegionHeld
set_option linter.unusedVariables false
set_option linter.unusedSimpArgs false
namespace Go.Proofs.Ytjfdomfendbhfaa
open Go.RowKit
set_option maxRecDepth 100000 in
set_option maxHeartbeats 800000 in
theorem cdecide_any (B : Nat) (w : World) (v : Value) (g : DiaV) (m : Nat → Bool) (fid : FuncId) (caps : Array Value) (h : rB B w v g) (hc : xH g.pats.length g.chos g.chos.length) (h0 : 0 ≤ g.root) (h1 : g.root ≤ 1 + (g.chos.length : Int))
  (hE : ∀ (args : Array Value) (W : World), Sem.run Try.prog (callFunc fid args) W = .ok (.enter fid args) W)
  (hF : ∀ (W : World) (p : Nat), w.grownBy W none → p < g.pats.length → Calls Try.prog fid (#[.int .i64 (p : Int)] ++ caps) W fun e w' => e = .returned (.bool (m p)) ∧ W.grownBy w' none) :
  Calls Try.prog 40 #[v, .func (.func fid) #[] caps] w fun e w' => e = .returned (.bool (decG g.chos m g.root)) ∧ w.grownBy w' none := by
 obtain ⟨pv, cv, rfl, hp, hcs⟩ := h
 obtain ⟨ca, cc, rfl⟩ := hcs.shape
 have hcl := hcs.len_le
 unfold maxLen at hcl
 obtain ⟨ps, cs, root⟩ := g
 simp only at hp hc hcs hcl h0 h1 hF ⊢
 obtain ⟨r0, rfl⟩ : ∃ n : Nat, root = (n : Int) := ⟨root.toNat, by omega⟩
 obtain ⟨nc, hnc⟩ : ∃ n, n = cs.length := ⟨_, rfl⟩
 rw [← hnc] at hcs hcl h1 ⊢
 have hg1 := World.grownBy_alloc w (.cells #[pv, .slice ca nc cc, .int .i64 (r0 : Int)] 25) none
 have hb1 := heap_alloc_new w (.cells #[pv, .slice ca nc cc, .int .i64 (r0 : Int)] 25)
 obtain ⟨wA, hWA⟩ : ∃ w1, w1 = w.alloc (.cells #[pv, .slice ca nc cc, .int .i64 (r0 : Int)] 25) := ⟨_, rfl⟩
 obtain ⟨P, hP⟩ : ∃ P, P = w.heap.size := ⟨_, rfl⟩
 rw [← hWA] at hg1 hb1
 rw [← hP] at hb1
 have hc1 := hcs.kept hg1 (by simp)
 obtain ⟨p0, p1, p2⟩ := zL hb1
 have HNC := Kh hnc
 have HCS := Kh hc1; have HB1 := Kh hb1; have HOK := Kh hc
 have HWA := Kh hWA; have HPE := Kh hP; have HGA := Kh hg1
 have HE := Kh hE
 have HF := Kh hF; have HR0 := Kh h1
 obtain ⟨ans, hans⟩ : ∃ b, b = decG cs m (r0 : Int) := ⟨_, rfl⟩
 rw [← hans]
 have HANS := Kh hans
 clear hp hcs hc1 hg1 hb1 hWA hP hnc hc h1 h0 hF hE hans
 go_enter Try.func40, Try.ntmps40
 go_upto_region 1 with fail
 rw [← HWA.out, ← HPE.out]
 go_wp2
 clear p0 p1 p2
 go_loopg [5, 6] r0 (fun gh r s6 wr => ∃ q : Nat, gh = q ∧ r = .int .i64 q ∧ q ≤ 1 + nc ∧ decG cs m q = ans ∧ wA.grownBy wr none)
 case atStart => exact ⟨r0, rfl, rfl, by have := HR0.out; omega, HANS.out.symm, zK _ _⟩
 case round =>
  obtain ⟨q, hgq, rfl, hq1, hdec, hg⟩ := hrel
  have HGQ := Kh hgq
  clear hgq
  have HG := Kh hg; have HDEC := Kh hdec
  clear hdec
  by_cases hq : 2 ≤ q
  ·have hq' : (2 : Int) ≤ q := by omega
   obtain ⟨i, rfl⟩ : ∃ i, q = i + 2 := ⟨q - 2, by omega⟩
   have hi : i < nc := by omega
   have hcsr := HCS.out.kept hg (by simp)
   obtain ⟨b, off, cap, e, hbB, hb2, hb3, hch⟩ := hcsr.at_ (by rw [← HNC.out]; omega)
   rw [← HNC.out] at e hb2
   simp only [Value.slice.injEq, true_and] at e
   obtain ⟨rfl, rfl⟩ := e
   have hmx : cc ≤ 9223372036854775807 := by unfold maxLen at hb3; omega
   have hic : i < cs.length := by rw [← HNC.out]; exact hi
   have c1 := hch.p i hic
   have c2 := hch.y i hic
   have c3 := hch.n i hic
   have hst := pZ (m := m) HOK.out (r := ((i + 2 : Nat) : Int)) (by omega) (by omega)
   have e0 : ((i + 2 : Nat) : Int).toNat - 2 = i := by omega
   rw [e0] at hst
   have hcf := uZ (HOK.out i hic)
   obtain ⟨c, hcc⟩ : ∃ c, c = cs.getD i default := ⟨_, rfl⟩
   rw [← hcc] at c1 c2 c3 hst hcf
   clear hcsr hch hic hcc
   obtain ⟨x, y, n⟩ := c
   simp only at c1 c2 c3 hst hcf
   obtain ⟨xn, rfl⟩ : ∃ k : Nat, x = (k : Int) := ⟨x.toNat, by omega⟩
   obtain ⟨yn, rfl⟩ : ∃ k : Nat, y = (k : Int) := ⟨y.toNat, by omega⟩
   obtain ⟨nn, rfl⟩ : ∃ k : Nat, n = (k : Int) := ⟨n.toNat, by omega⟩
   rw [Int.toNat_natCast] at hst
   have hxn : xn < ps.length := by omega
   have hyn : yn < i + 2 := by omega
   have hnn : nn < i + 2 := by omega
   have HST := Kh hst
   have HCALL := Kh (fun (W : World) (hW : wr.grownBy W none) => HF.out W xn (zA HGA.out (zA HG.out hW (by simp)) (by simp)) hxn)
   obtain ⟨b, hb⟩ : ∃ b, b = m xn := ⟨_, rfl⟩
   rw [← hb] at HST HCALL
   obtain ⟨p0, p1, p2⟩ := zL (zB HB1.out hg (by simp))
   have hb2 := heap_alloc_new wr (.cells #[.int .i64 (xn : Int), .int .i64 (yn : Int), .int .i64 (nn : Int)] 45)
   have hg2 := World.grownBy_alloc wr (.cells #[.int .i64 (xn : Int), .int .i64 (yn : Int), .int .i64 (nn : Int)] 45) none
   obtain ⟨w2, hw2⟩ : ∃ w2, w2 = wr.alloc (.cells #[.int .i64 (xn : Int), .int .i64 (yn : Int), .int .i64 (nn : Int)] 45) := ⟨_, rfl⟩
   obtain ⟨R, hR⟩ : ∃ R, R = wr.heap.size := ⟨_, rfl⟩
   rw [← hw2] at hb2 hg2
   rw [← hR] at hb2
   have HW2 := Kh hw2; have HRE := Kh hR; have HB2 := Kh hb2; have HG2 := Kh hg2
   obtain ⟨r0, r1, r2⟩ := zL hb2
   have e2 : IntKind.i64.wrap ((i + 2 : Nat) - 2 : Int) = (i : Int) := by rw [show ((i + 2 : Nat) - 2 : Int) = i by omega]; exact wU (by omega)
   have e3 : ((i + 2 : Nat) - 2 : Int) = (i : Int) := by omega
   have hi' : (i : Int) < nc := by omega
   clear hb hw2 hR hb2 hg2 hg hst hcf hq1
   go_upto_region 4 with fail
   rw [← HW2.out, ← HRE.out]
   clear c1 c2 c3
   go_wp2_with fail
   rw [HE.out, Oper.upon_enter]
   refine (HCALL.out _ HG2.out).mono ?_
   rintro e w3 ⟨rfl, hg3⟩
   have HG3 := Kh hg3
   obtain ⟨r0, r1, r2⟩ := zL (zB HB2.out hg3 (by simp))
   clear hg3 HCALL
   cases b with
   | true =>
    go_wp2
    go_roundg yn
    case measure => have := HGQ.out; omega
    case rel => exact ⟨yn, rfl, rfl, by omega, by rw [← HDEC.out]; exact HST.out.symm, zA (zA HG.out HG2.out (by simp)) HG3.out (by simp)⟩
   | false =>
    go_wp2
    go_roundg nn
    case measure => have := HGQ.out; omega
    case rel => exact ⟨nn, rfl, rfl, by omega, by rw [← HDEC.out]; exact HST.out.symm, zA (zA HG.out HG2.out (by simp)) HG3.out (by simp)⟩
  ·have hq' : ¬ (2 : Int) ≤ q := by omega
   have HA : Hid (decide ((q : Int) = 1) = ans) := Kh (by rw [← HDEC.out, decG_low _ _ (by omega)])
   clear hg
   go_wp2
   go_ret
   exact ⟨zT (by rw [← HA.out]; first | rfl | simp | decide), zA HGA.out HG.out (by simp)⟩
set_option maxRecDepth 100000 in
set_option maxHeartbeats 400000 in
theorem match_anyW (b off cap : Nat) (bs : List ByteArray) (s : ByteArray) (w : World) (hcap : bs.length ≤ cap) (hcm : cap ≤ maxLen)
  (hra : wO w b off (bs.map .string)) (hs : ∀ i (h : i < bs.length), bs[i].size ≤ maxLen) (hss : s.size ≤ maxLen) (hL : tA w) :
  Calls Try.prog 42 #[.agg #[.slice (some ⟨b, off, none⟩) bs.length cap], .string s] w fun e w' => e = .returned (.bool (zX bs s)) ∧ w.grownBy w' none := by
 have hss' : s.size ≤ 9223372036854775807 := by unfold maxLen at hss; omega
 have g0 := World.grownBy_alloc w (.cells #[.slice (some ⟨b, off, none⟩) bs.length cap] 28) none
 have ra0 := hra.kept g0 (by simp)
 go_enter Try.func42, Try.ntmps42
 go_wp2_with fail
 have bx0 := heap_alloc_new w (.cells #[.slice (some ⟨b, off, none⟩) bs.length cap] 28)
 have hrow : Row (b + 1) (w.alloc (.cells #[.slice (some ⟨b, off, none⟩) bs.length cap] 28)) (.slice (some ⟨b, off, none⟩) bs.length cap) (txtV bs) := .inr ⟨b, off, cap, by rw [zU], by omega, by rw [zU]; exact hcap, hcm, ra0⟩
 refine (pQ (b + 1) _ _ bs 6 hrow hs).mono ?_
 rintro e w1 ⟨rfl, g1⟩
 have ra1 := ra0.kept g1 (by simp)
 have hc1 := zI (zB bx0 g1 (by simp)) 0 (by simp)
 simp only [List.getElem_toArray, List.getElem_cons_zero] at hc1
 have hL1 := (hL.kept g0 (by simp)).kept g1 (by simp)
 have gw := zE g0 g1
 clear g0 ra0 bx0 g1 hra
 clear hrow
 have hEV : patW bs 6 = 0 ↔ yB bs 6 = 0 := xV
 obtain ⟨E, hEE⟩ : ∃ E, E = patW bs 6 := ⟨_, rfl⟩
 rw [← hEE] at hEV ⊢
 have HEE := Kh hEE
 clear hEE
 by_cases hV : yB bs 6 = 0
 ·have hE0 : E = 0 := hEV.2 hV
  subst hE0
  clear hEV
  have HV := Kh hV; clear hV
  go_wp2_with fail
  refine (sI s 6 _ (by unfold maxLen; omega)).mono ?_
  rintro e w2 ⟨rfl, rfl⟩
  have hz := xJ HV.out
  have hn0 : 0 < bs.length := hz.2.2.2.2.1
  have hn8 : bs.length ≤ 8 := hz.2.2.1
  have hc0 := ra1.map 0 hn0
  rw [Nat.add_zero] at hc0
  have hcm' : cap ≤ 9223372036854775807 := by unfold maxLen at hcm; omega
  have hCM := Kh hcm; clear hz hcm
  by_cases hW : zP s 6 = true
  ·by_cases h1 : bs.length = 1
   ·have h1' : ((bs.length : Int) - 1 == 0) = true := by simp [h1]
    have H1 := Kh h1; clear h1
    go_wp2
    go_ret
    exact ⟨zT (patMatch_one HV.out hW H1.out hn0).symm, gw⟩
   ·have h1' : ((bs.length : Int) - 1 == 0) = false := by rw [beq_eq_false_iff_ne]; omega
    go_wp2_with fail
    refine (Try.strings_CutPrefix _ _ _).mono ?_
    rintro e w2 ⟨rfl, rfl⟩
    by_cases hP : Lib.hasPrefix s.data.toList bs[0].data.toList = true
    ·go_wp2
     go_loopw [6, 46] (fun rs i wr => ∃ (k : Nat) (r : List UInt8), k ≤ bs.length - 1 - 1 ∧ i = .int .i64 k ∧ rs = .string ⟨r.toArray⟩ ∧ r.length ≤ 2048 ∧
       uD ((mid bs).drop k) r = uD (mid bs) (Lib.trimPrefix s.data.toList bs[0].data.toList) ∧
       wO wr b off (bs.map .string) ∧ wr.cell? ⟨w.heap.size, 0, none⟩ = some (.slice (some ⟨b, off, none⟩) bs.length cap) ∧ tA wr ∧ w.grownBy wr none)
      (fun _ i _ => bs.length - (intOf i).toNat)
     case atStart => exact ⟨0, _, Nat.zero_le _, rfl, rfl, trim_le HV.out hW, rfl, ra1, hc1, hL1, gw⟩
     case round =>
      clear ra1 hc1 hL1 gw hc0
      obtain ⟨k, r, hk, rfl, rfl, hrl, hfind, rar, hcr, hLr, gr⟩ := hrel
      have HF := Kh hfind; clear hfind
      by_cases hlt : k < bs.length - 1 - 1
      ·have hck := rar.map (1 + k) (by omega)
       rw [← Nat.add_assoc] at hck
       have hlt' : (k : Int) < ((bs.length - 1 - 1 : Nat) : Int) := by omega
       go_wp2_with fail
       obtain ⟨_, m, hm⟩ := id hLr
       refine (Try.strings_Cut _ _ m _ (by
        have : (ByteArray.mk r.toArray).size = r.toArray.size := rfl
        rw [this, List.size_toArray]; omega) hm).mono ?_
       rintro e w3 ⟨rfl, m', rfl⟩
       have hcl := cut_le r bs[1 + k].data.toList
       by_cases hf : (Lib.cut r bs[1 + k].data.toList).2.2 = true
       ·go_wp2
        go_roundw
        case rel =>
         exact ⟨k + 1, _, by omega, by go_num, rfl, by omega, by rw [← HF.out]; exact findAll_step bs r k hlt hf, rar.of_heap rfl, hcr, hLr.kept (zV _ _ none) (by simp), zE gr (zV _ _ _)⟩
        case measure => simp [intOf]; omega
       ·go_wp2
        go_ret
        exact ⟨zT (by rw [eq_comm]; exact patMatch_none (by omega) (by omega) (by rw [← HF.out]; exact findAll_stop bs r k hlt hf)), zE gr (zV _ _ _)⟩
      ·have hcl := rar.map (bs.length - 1) (by omega)
       have hi1 : ((bs.length : Int) - 1).toNat = bs.length - 1 := by omega
       have hi2 : (bs.length : Int) - 1 < bs.length := by omega
       have hi3 : 0 ≤ (bs.length : Int) - 1 := by omega
       go_wp2_with fail
       refine (Try.strings_HasSuffix _ _ _ (by
        have : (ByteArray.mk r.toArray).size = r.toArray.size := rfl
        rw [this, List.size_toArray]; omega)).mono ?_
       rintro e w3 ⟨rfl, rfl⟩
       go_wp2
       go_ret
       refine ⟨zT ?_, gr⟩
       rw [eq_comm]
       refine patMatch_end HV.out hW (by omega) (by omega) hP ?_
       rw [← HF.out, List.drop_eq_nil_of_le (by rw [uN]; omega)]
       rfl
    ·go_wp2
     go_ret
     exact ⟨zT (by rw [eq_comm]; exact patMatch_nopre (by omega) (by omega) hP), gw⟩
  ·go_wp2
   go_ret
   exact ⟨zT (by simp [zX, hW]), gw⟩
 ·have hV'' : (E != 0) = true := by rw [bne_iff_ne]; exact fun e => hV (hEV.1 e)
  have hV' : (E == 0) = false := by rw [beq_eq_false_iff_ne]; exact fun e => hV (hEV.1 e)
  clear hEV
  have HV := Kh hV; clear hV
  go_wp2
  go_ret
  exact ⟨zT (by simp [zX, HV.out]), gw⟩
def diaH (g : DiaV) (s : ByteArray) : Bool := decide (diaE g 6 = 0) && (zP s 6 && decG g.chos (fun p => zX (g.pats.getD p []) s) g.root)
theorem patW_pos {bs : List ByteArray} {letters : Int} (h : patW bs letters = 0) : 0 < bs.length := (xJ (xV.1 h)).2.2.2.2.1
set_option maxRecDepth 100000 in
set_option maxHeartbeats 800000 in
theorem holds1_any (B : Nat) (w : World) (P Q : Nat) (pv cv rv : Value) (ps : List (List ByteArray)) (s : ByteArray) (p : Nat) (hb : w.heap[P]? = some (.cells #[pv, cv, rv] 25 (0, 0))) (hq : w.heap[Q]? = some (.cells #[.string s] 9 (0, 0)))
  (h : PatsIn B w pv ps) (hp : p < ps.length) (h0 : 0 < (ps.getD p []).length) (hs : s.size ≤ maxLen) (hL : tA w) :
  Calls Try.prog 41 #[.int .i64 (p : Int), .pointer (some ⟨P, 0, none⟩), .pointer (some ⟨Q, 0, none⟩)] w fun e w' => e = .returned (.bool (zX (ps.getD p []) s)) ∧ w.grownBy w' none := by
 obtain ⟨b, off, cap, rfl, hbB, hb2, hb3, hall⟩ := h.at_ (by omega)
 obtain ⟨sa, sc, c1, hrow, hsz⟩ := hall p hp
 obtain ⟨q, hq'⟩ : ∃ q, q = ps.getD p [] := ⟨_, rfl⟩
 rw [← hq'] at c1 hrow hsz h0 ⊢
 obtain ⟨kb, ko, kc, e, _, hk1, hk2, hkr⟩ := hrow.some_ (by rw [zU]; exact h0)
 rw [zU] at e hk1
 simp only [Value.slice.injEq] at e
 obtain ⟨rfl, _, rfl⟩ := e
 obtain ⟨r0, r1, r2⟩ := zL hb
 have c2 : w.cell? ⟨Q, 0, none⟩ = some (.string s) := by simpa using zI hq 0 (by simp)
 have HM : Hid (∀ W : World, w.grownBy W none → Calls Try.prog 42 #[.agg #[.slice (some ⟨kb, ko, none⟩) q.length sc], .string s] W fun e w' => e = .returned (.bool (zX q s)) ∧ w.grownBy w' none) := Kh (fun W hW =>
  (match_anyW kb ko sc q s W hk1 hk2 (hkr.kept hW (by simp)) hsz hs (hL.kept hW (by simp))).mono fun e w' ⟨he, hg⟩ => ⟨he, zE hW hg⟩)
 have HC : Hid (∀ W : World, w.grownBy W none → W.cell? ⟨P, 0, none⟩ = some (.slice (some ⟨b, off, none⟩) ps.length cap) ∧ W.cell? ⟨b, off + p, none⟩ = some (.slice (some ⟨kb, ko, none⟩) q.length sc) ∧ W.cell? ⟨Q, 0, none⟩ = some (.string s)) := Kh (fun W hW => ⟨xA r0 hW, xA c1 hW, xA c2 hW⟩)
 obtain ⟨n, hn⟩ : ∃ n, n = ps.length := ⟨_, rfl⟩
 obtain ⟨ql, hql⟩ : ∃ n, n = q.length := ⟨_, rfl⟩
 obtain ⟨mm, hmm⟩ : ∃ m, m = zX q s := ⟨_, rfl⟩
 rw [← hn] at hp r0 HC
 rw [← hql] at c1 HM HC
 rw [← hmm] at HM ⊢
 have hcm : cap ≤ 9223372036854775807 := by unfold maxLen at hb3; omega
 have hnm : n ≤ 9223372036854775807 := by omega
 have hp' : (p : Int) < n := by omega
 have GA : w.grownBy w.drew none := zM _ _
 clear hall hrow hsz hk1 hk2 hkr hb hq hq' hn hql hmm h h0 hL
 go_enter Try.func41, Try.ntmps41
 go_upto_region 1 with fail
 go_region_held3 (fun w' => w'.cell? ⟨P, 0, none⟩ = some (.slice (some ⟨b, off, none⟩) n cap) ∧ w'.cell? ⟨b, off + p, none⟩ = some (.slice (some ⟨kb, ko, none⟩) ql sc) ∧ w'.cell? ⟨Q, 0, none⟩ = some (.string s))
  (first | go_keep | exact HC.out _ hG7 | fail)
  (first | (go_at_call 42; (with_reducible refine (HM.out _ GA).mono ?_); rintro e w7 ⟨rfl, hG7⟩) | fail)
 all_goals
  go_wp2
  go_ret
  exact ⟨rfl, by first | assumption | exact hG7⟩
set_option maxRecDepth 100000 in
set_option maxHeartbeats 800000 in
theorem jQ (B : Nat) (w : World) (v : Value) (g : DiaV) (s : ByteArray) (hB : B ≤ w.heap.size) (h : rB B w v g) (hs : s.size ≤ maxLen) (hL : tA w) :
  Calls Try.prog 11 #[v, .string s] w fun e w' => e = .returned (.bool (diaH g s)) ∧ w.grownBy w' none := by
 obtain ⟨pv, cv, rfl, hp, hc⟩ := h
 obtain ⟨ps, cs, root⟩ := g
 simp only at hp hc ⊢
 obtain ⟨w0, hw0⟩ : ∃ w0 : World, w0 = w := ⟨w, rfl⟩
 have hg1 := World.grownBy_alloc w (.cells #[pv, cv, .int .i64 root] 25) none
 have hb1 := heap_alloc_new w (.cells #[pv, cv, .int .i64 root] 25)
 obtain ⟨w1, hw1⟩ : ∃ w1, w1 = w.alloc (.cells #[pv, cv, .int .i64 root] 25) := ⟨_, rfl⟩
 obtain ⟨P, hP⟩ : ∃ P, P = w.heap.size := ⟨_, rfl⟩
 have hz1 : w1.heap.size = P + 1 := by rw [hw1, hP, zN]
 rw [← hw1] at hg1 hb1
 rw [← hP] at hb1
 have hg2 := World.grownBy_alloc w1 (.cells #[.string s] 9) none
 have hb2 := heap_alloc_new w1 (.cells #[.string s] 9)
 obtain ⟨wA, hWA⟩ : ∃ w2, w2 = w1.alloc (.cells #[.string s] 9) := ⟨_, rfl⟩
 rw [← hWA] at hg2 hb2
 rw [hz1] at hb2
 have hbP := zB hb1 hg2 (by simp)
 have hGA := zA hg1 hg2 (by simp)
 rw [hw1] at hWA
 have HWA := Kh hWA; have HPE := Kh hP; have HGA := Kh hGA
 have HBP := Kh hbP; have HBQ := Kh hb2
 have HP := Kh (hp.kept hGA (by simp)); have HC := Kh (hc.kept hGA (by simp))
 have HLA := Kh (hL.kept hGA (by simp))
 have HV : Hid (∀ W : World, wA.grownBy W none → Calls Try.prog 9 #[.agg #[pv, cv, .int .i64 root], .int .i64 6] W fun e w' => e = .returned (.int .i64 (diaE ⟨ps, cs, root⟩ 6)) ∧ W.grownBy w' none) := Kh (fun W hW =>
  jO B W _ ⟨ps, cs, root⟩ 6 (by have := hGA.size; have := hW.size; omega) ⟨pv, cv, rfl, HP.out.kept hW (by simp), HC.out.kept hW (by simp)⟩)
 have HWV := Kh (fun W => sI s 6 W hs)
 obtain ⟨E, hE⟩ : ∃ E, E = diaE ⟨ps, cs, root⟩ 6 := ⟨_, rfl⟩
 obtain ⟨vb, hvb⟩ : ∃ b, b = zP s 6 := ⟨_, rfl⟩
 rw [← hE] at HV
 rw [← hvb] at HWV
 have HE := Kh hE; have HVB := Kh hvb
 obtain ⟨p0, p1, p2⟩ := zL hbP
 have c2 : wA.cell? ⟨P + 1, 0, none⟩ = some (.string s) := by simpa using zI hb2 0 (by simp)
 obtain ⟨Q, hQ⟩ : ∃ Q, Q = P + 1 := ⟨_, rfl⟩
 rw [← hQ] at c2 HBQ
 have HQE := Kh hQ
 clear hp hc hg1 hb1 hg2 hb2 hbP hGA hw1 hWA hP hE hvb hQ hz1
 go_enter Try.func11, Try.ntmps11
 go_upto_region 1 with fail
 rw [← HPE.out, ← HQE.out]
 rw [← HWA.out]
 go_wp2_with fail
 refine (HV.out _ (zK _ _)).mono ?_
 rintro e w3 ⟨rfl, hg3⟩
 have HG3 := Kh hg3
 have HBP3 := Kh (zB HBP.out hg3 (by simp)); have HBQ3 := Kh (zB HBQ.out hg3 (by simp))
 obtain ⟨p0, p1, p2⟩ := zL HBP3.out
 have c2 : w3.cell? ⟨Q, 0, none⟩ = some (.string s) := by simpa using zI HBQ3.out 0 (by simp)
 clear hg3 HV
 by_cases hE : E = 0
 case neg =>
  have e1 : (E != 0) = true := by rw [bne_iff_ne]; exact hE
  have HR : Hid (diaH ⟨ps, cs, root⟩ s = false) := Kh (by
   unfold diaH; rw [show decide (diaE ⟨ps, cs, root⟩ 6 = 0) = false by rw [decide_eq_false_iff_not, ← HE.out]; exact hE]; rfl)
  clear hE
  go_wp2
  go_ret
  exact ⟨zT HR.out.symm, zA HGA.out HG3.out (by simp)⟩
 have e1 : (E != 0) = false := by simp [hE]
 have HD := Kh (lV (g := ⟨ps, cs, root⟩) (letters := 6) (by rw [← HE.out]; exact hE))
 have HR : Hid (diaH ⟨ps, cs, root⟩ s = (vb && decG cs (fun p => zX (ps.getD p []) s) root)) := Kh (by
  unfold diaH; rw [show decide (diaE ⟨ps, cs, root⟩ 6 = 0) = true by rw [decide_eq_true_eq, ← HE.out]; exact hE, HVB.out]; rfl)
 clear hE
 go_wp2_with fail
 refine (HWV.out _).mono ?_
 rintro e w4 ⟨rfl, rfl⟩
 cases vb with
 | false =>
  go_wp2
  go_ret
  exact ⟨zT HR.out.symm, zA HGA.out HG3.out (by simp)⟩
 | true =>
  rw [Bool.true_and] at HR
  have HDC : Hid (Calls Try.prog 40 #[.agg #[pv, cv, .int .i64 root], .func (.func 41) #[] #[.pointer (some ⟨P, 0, none⟩), .pointer (some ⟨Q, 0, none⟩)]] w3 fun e w' => e = .returned (.bool (decG cs (fun p => zX (ps.getD p []) s) root)) ∧ w3.grownBy w' none) := Kh (by
   obtain ⟨_, _, _, _, h5, h6, h7, h8⟩ := HD.out
   refine cdecide_any B w3 _ ⟨ps, cs, root⟩ (fun p => zX (ps.getD p []) s) _ _ ⟨pv, cv, rfl, HP.out.kept HG3.out (by simp), HC.out.kept HG3.out (by simp)⟩ h6 h7 h8 (fun _ _ => rfl) (fun W p hW hp => ?_)
   exact holds1_any B W P Q pv cv _ ps s p (zB HBP3.out hW (by simp)) (zB HBQ3.out hW (by simp)) ((HP.out.kept HG3.out (by simp)).kept hW (by simp)) hp (patW_pos (by rw [zF hp]; exact h5 _ (List.getElem_mem hp))) hs ((HLA.out.kept HG3.out (by simp)).kept hW (by simp)))
  go_wp2_with fail
  refine HDC.out.mono ?_
  rintro e w5 ⟨rfl, hg5⟩
  have HG5 := Kh hg5
  clear hg5 HDC
  go_wp2
  go_ret
  exact ⟨zT HR.out.symm, zA (zA HGA.out HG3.out (by simp)) HG5.out (by simp)⟩
end Go.Proofs.Ytjfdomfendbhfaa
