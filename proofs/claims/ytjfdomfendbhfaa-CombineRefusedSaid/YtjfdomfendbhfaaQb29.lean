/- Part 29 of the proof: CHold, KnP, Zb, MapStr, CKey. -/
import Derived.Test.YtjfdomfendbhfaaQb28
import Derived.Deep.RegionHeld
import Derived.StringKeys
set_option linter.unusedVariables false
set_option linter.unusedSimpArgs false
namespace Go.Proofs.Ytjfdomfendbhfaa
open Go.RowKit
def diaH (g : DiaV) (s : ByteArray) : Bool := decide (diaE g 6 = 0) && (zU s 6 && decG g.chos (fun p => yG (g.pats.getD p []) s) g.root)
theorem patW_pos {bs : List ByteArray} {letters : Int} (h : patW bs letters = 0) : 0 < bs.length := (wD (wO.1 h)).2.2.2.2.1
set_option maxRecDepth 100000 in
set_option maxHeartbeats 800000 in
theorem holds1_any (B : Nat) (w : World) (P Q : Nat) (pv cv rv : Value) (ps : List (List ByteArray)) (s : ByteArray) (p : Nat) (hb : w.heap[P]? = some (.cells #[pv, cv, rv] 25 (0, 0))) (hq : w.heap[Q]? = some (.cells #[.string s] 9 (0, 0)))
  (h : vJ B w pv ps) (hp : p < ps.length) (h0 : 0 < (ps.getD p []).length) (hs : s.size ≤ maxLen) (hL : SomeLen w) :
  Calls Try.prog 41 #[.int .i64 (p : Int), .pointer (some ⟨P, 0, none⟩), .pointer (some ⟨Q, 0, none⟩)] w fun e w' => e = .returned (.bool (yG (ps.getD p []) s)) ∧ w.grownBy w' none := by
 obtain ⟨b, off, cap, rfl, hbB, hb2, hb3, hall⟩ := h.at_ (by omega)
 obtain ⟨sa, sc, c1, hrow, hsz⟩ := hall p hp
 obtain ⟨q, hq'⟩ : ∃ q, q = ps.getD p [] := ⟨_, rfl⟩
 rw [← hq'] at c1 hrow hsz h0 ⊢
 obtain ⟨kb, ko, kc, e, _, hk1, hk2, hkr⟩ := hrow.some_ (by rw [yA]; exact h0)
 rw [yA] at e hk1
 simp only [Value.slice.injEq] at e
 obtain ⟨rfl, _, rfl⟩ := e
 obtain ⟨r0, r1, r2⟩ := zW hb
 have c2 : w.cell? ⟨Q, 0, none⟩ = some (.string s) := by simpa using zO hq 0 (by simp)
 have HM : Hid (∀ W : World, w.grownBy W none → Calls Try.prog 42 #[.agg #[.slice (some ⟨kb, ko, none⟩) q.length sc], .string s] W fun e w' => e = .returned (.bool (yG q s)) ∧ w.grownBy w' none) := Kh (fun W hW =>
  (match_anyW kb ko sc q s W hk1 hk2 (hkr.kept hW (by simp)) hsz hs (hL.kept hW (by simp))).mono fun e w' ⟨he, hg⟩ => ⟨he, zF hW hg⟩)
 have HC : Hid (∀ W : World, w.grownBy W none → W.cell? ⟨P, 0, none⟩ = some (.slice (some ⟨b, off, none⟩) ps.length cap) ∧ W.cell? ⟨b, off + p, none⟩ = some (.slice (some ⟨kb, ko, none⟩) q.length sc) ∧ W.cell? ⟨Q, 0, none⟩ = some (.string s)) := Kh (fun W hW => ⟨wB r0 hW, wB c1 hW, wB c2 hW⟩)
 obtain ⟨n, hn⟩ : ∃ n, n = ps.length := ⟨_, rfl⟩
 obtain ⟨ql, hql⟩ : ∃ n, n = q.length := ⟨_, rfl⟩
 obtain ⟨mm, hmm⟩ : ∃ m, m = yG q s := ⟨_, rfl⟩
 rw [← hn] at hp r0 HC
 rw [← hql] at c1 HM HC
 rw [← hmm] at HM ⊢
 have hcm : cap ≤ 9223372036854775807 := by unfold maxLen at hb3; omega
 have hnm : n ≤ 9223372036854775807 := by omega
 have hp' : (p : Int) < n := by omega
 have GA : w.grownBy w.drew none := zP _ _
 clear hall hrow hsz hk1 hk2 hkr hb hq hq' hn hql hmm h h0 hL
 go_enter Try.func41, Try.ntmps41
 go_upto_region 1 with fail
 go_region_held3 (fun w' => w'.cell? ⟨P, 0, none⟩ = some (.slice (some ⟨b, off, none⟩) n cap) ∧ w'.cell? ⟨b, off + p, none⟩ = some (.slice (some ⟨kb, ko, none⟩) ql sc) ∧ w'.cell? ⟨Q, 0, none⟩ = some (.string s))
  (first | go_keep | exact HC.out _ hG7 | fail)
  (first | (go_at_call 42; (with_reducible refine (HM.out _ GA).mono ?_); rintro e w7 ⟨rfl, hG7⟩) | fail)
 all_goals
  go_wp2
  go_ret
  exact ⟨rfl, by first | assumption | exact hG7⟩
set_option maxRecDepth 100000 in
set_option maxHeartbeats 800000 in
theorem cholds_any (B : Nat) (w : World) (v : Value) (g : DiaV) (s : ByteArray) (hB : B ≤ w.heap.size) (h : lH B w v g) (hs : s.size ≤ maxLen) (hL : SomeLen w) :
  Calls Try.prog 11 #[v, .string s] w fun e w' => e = .returned (.bool (diaH g s)) ∧ w.grownBy w' none := by
 obtain ⟨pv, cv, rfl, hp, hc⟩ := h
 obtain ⟨ps, cs, root⟩ := g
 simp only at hp hc ⊢
 obtain ⟨w0, hw0⟩ : ∃ w0 : World, w0 = w := ⟨w, rfl⟩
 have hg1 := World.grownBy_alloc w (.cells #[pv, cv, .int .i64 root] 25) none
 have hb1 := heap_alloc_new w (.cells #[pv, cv, .int .i64 root] 25)
 obtain ⟨w1, hw1⟩ : ∃ w1, w1 = w.alloc (.cells #[pv, cv, .int .i64 root] 25) := ⟨_, rfl⟩
 obtain ⟨P, hP⟩ : ∃ P, P = w.heap.size := ⟨_, rfl⟩
 have hz1 : w1.heap.size = P + 1 := by rw [hw1, hP, zJ]
 rw [← hw1] at hg1 hb1
 rw [← hP] at hb1
 have hg2 := World.grownBy_alloc w1 (.cells #[.string s] 9) none
 have hb2 := heap_alloc_new w1 (.cells #[.string s] 9)
 obtain ⟨wA, hWA⟩ : ∃ w2, w2 = w1.alloc (.cells #[.string s] 9) := ⟨_, rfl⟩
 rw [← hWA] at hg2 hb2
 rw [hz1] at hb2
 have hbP := zB hb1 hg2 (by simp)
 have hGA := zA hg1 hg2 (by simp)
 rw [hw1] at hWA
 have HWA := Kh hWA; have HPE := Kh hP; have HGA := Kh hGA
 have HBP := Kh hbP; have HBQ := Kh hb2
 have HP := Kh (hp.kept hGA (by simp)); have HC := Kh (hc.kept hGA (by simp))
 have HLA := Kh (hL.kept hGA (by simp))
 have HV : Hid (∀ W : World, wA.grownBy W none → Calls Try.prog 9 #[.agg #[pv, cv, .int .i64 root], .int .i64 6] W fun e w' => e = .returned (.int .i64 (diaE ⟨ps, cs, root⟩ 6)) ∧ W.grownBy w' none) := Kh (fun W hW =>
  cvalid_any B W _ ⟨ps, cs, root⟩ 6 (by have := hGA.size; have := hW.size; omega) ⟨pv, cv, rfl, HP.out.kept hW (by simp), HC.out.kept hW (by simp)⟩)
 have HWV := Kh (fun W => tW s 6 W hs)
 obtain ⟨E, hE⟩ : ∃ E, E = diaE ⟨ps, cs, root⟩ 6 := ⟨_, rfl⟩
 obtain ⟨vb, hvb⟩ : ∃ b, b = zU s 6 := ⟨_, rfl⟩
 rw [← hE] at HV
 rw [← hvb] at HWV
 have HE := Kh hE; have HVB := Kh hvb
 obtain ⟨p0, p1, p2⟩ := zW hbP
 have c2 : wA.cell? ⟨P + 1, 0, none⟩ = some (.string s) := by simpa using zO hb2 0 (by simp)
 obtain ⟨Q, hQ⟩ : ∃ Q, Q = P + 1 := ⟨_, rfl⟩
 rw [← hQ] at c2 HBQ
 have HQE := Kh hQ
 clear hp hc hg1 hb1 hg2 hb2 hbP hGA hw1 hWA hP hE hvb hQ hz1
 go_enter Try.func11, Try.ntmps11
 go_upto_region 1 with fail
 rw [← HPE.out, ← HQE.out]
 rw [← HWA.out]
 go_wp2_with fail
 refine (HV.out _ (zL _ _)).mono ?_
 rintro e w3 ⟨rfl, hg3⟩
 have HG3 := Kh hg3
 have HBP3 := Kh (zB HBP.out hg3 (by simp)); have HBQ3 := Kh (zB HBQ.out hg3 (by simp))
 obtain ⟨p0, p1, p2⟩ := zW HBP3.out
 have c2 : w3.cell? ⟨Q, 0, none⟩ = some (.string s) := by simpa using zO HBQ3.out 0 (by simp)
 clear hg3 HV
 by_cases hE : E = 0
 case neg =>
  have e1 : (E != 0) = true := by rw [bne_iff_ne]; exact hE
  have HR : Hid (diaH ⟨ps, cs, root⟩ s = false) := Kh (by
   unfold diaH; rw [show decide (diaE ⟨ps, cs, root⟩ 6 = 0) = false by rw [decide_eq_false_iff_not, ← HE.out]; exact hE]; rfl)
  clear hE
  go_wp2
  go_ret
  exact ⟨zZ HR.out.symm, zA HGA.out HG3.out (by simp)⟩
 have e1 : (E != 0) = false := by simp [hE]
 have HD := Kh (diaE_zero (g := ⟨ps, cs, root⟩) (letters := 6) (by rw [← HE.out]; exact hE))
 have HR : Hid (diaH ⟨ps, cs, root⟩ s = (vb && decG cs (fun p => yG (ps.getD p []) s) root)) := Kh (by
  unfold diaH; rw [show decide (diaE ⟨ps, cs, root⟩ 6 = 0) = true by rw [decide_eq_true_eq, ← HE.out]; exact hE, HVB.out]; rfl)
 clear hE
 go_wp2_with fail
 refine (HWV.out _).mono ?_
 rintro e w4 ⟨rfl, rfl⟩
 cases vb with
 | false =>
  go_wp2
  go_ret
  exact ⟨zZ HR.out.symm, zA HGA.out HG3.out (by simp)⟩
 | true =>
  rw [Bool.true_and] at HR
  have HDC : Hid (Calls Try.prog 40 #[.agg #[pv, cv, .int .i64 root], .func (.func 41) #[] #[.pointer (some ⟨P, 0, none⟩), .pointer (some ⟨Q, 0, none⟩)]] w3 fun e w' => e = .returned (.bool (decG cs (fun p => yG (ps.getD p []) s) root)) ∧ w3.grownBy w' none) := Kh (by
   obtain ⟨_, _, _, _, h5, h6, h7, h8⟩ := HD.out
   refine cdecide_any B w3 _ ⟨ps, cs, root⟩ (fun p => yG (ps.getD p []) s) _ _ ⟨pv, cv, rfl, HP.out.kept HG3.out (by simp), HC.out.kept HG3.out (by simp)⟩ h6 h7 h8 (fun _ _ => rfl) (fun W p hW hp => ?_)
   exact holds1_any B W P Q pv cv _ ps s p (zB HBP3.out hW (by simp)) (zB HBQ3.out hW (by simp)) ((HP.out.kept HG3.out (by simp)).kept hW (by simp)) hp (patW_pos (by rw [zI hp]; exact h5 _ (List.getElem_mem hp))) hs ((HLA.out.kept HG3.out (by simp)).kept hW (by simp)))
  go_wp2_with fail
  refine HDC.out.mono ?_
  rintro e w5 ⟨rfl, hg5⟩
  have HG5 := Kh hg5
  clear hg5 HDC
  go_wp2
  go_ret
  exact ⟨zZ HR.out.symm, zA (zA HGA.out HG3.out (by simp)) HG5.out (by simp)⟩
def famB (l : List (List (List Int))) : List (List ByteArray) := l.map fun p => p.map strOfNums
theorem qW (l : List (List (List Int))) : (famB l).length = l.length := by simp [famB]
theorem strs_txtV (p : List (List Int)) : strs p = txtV (p.map strOfNums) := by simp [strs, txtV]
def bfsChk (ds : List DfaV) (k : Nat) (lw : List (List Nat × List Nat)) : Bool :=
 decide ((lw.map (·.2)).Nodup) && (decide ((lw.map (·.2))[0]? = some (st0T ds)) && (lw.all (fun p => (List.range k).all fun a => decide (nxtT ds p.2 a ∈ lw.map (·.2))) && lw.all (fun p => decide (∀ a ∈ p.1, a < k) && decide (rX (nxtT ds) (st0T ds) p.1 = p.2))))
theorem bfsD_of {ds : List DfaV} {k : Nat} {lw : List (List Nat × List Nat)} (h : bfsChk ds k lw = true) : BfsD (nxtT ds) k (st0T ds) (lw.map (·.2)) := by
 simp only [bfsChk, Bool.and_eq_true, decide_eq_true_eq, List.all_eq_true] at h
 obtain ⟨h1, h2, h3, h4⟩ := h
 refine ⟨h1, h2, fun x hx b hb => ?_, fun x hx => ?_⟩
 ·obtain ⟨p, hp, rfl⟩ := List.mem_map.1 hx
  exact h3 p hp b (List.mem_range.2 hb)
 ·obtain ⟨p, hp, rfl⟩ := List.mem_map.1 hx
  exact ⟨p.1, (h4 p hp).1, (h4 p hp).2⟩
def dK : DfaV := ⟨2, 0, [false, false, true], [[1, 0], [1, 2], [1, 2]]⟩
def psFL : List (List (List Int)) := [[[]], [[], [97]], [[], [98]], [[97], []], [[98], []], [[], [97], []], [[], [98], []]]
def psPL : List (List (List Int)) := [[[], [97], []], [[], [98], []]]
def psF : List (List ByteArray) := famB psFL
def psP : List (List ByteArray) := famB psPL
theorem famF : famL 5 2 1 0 = psFL := by decide +kernel
theorem famFE : famE 5 2 1 0 = 0 := by decide +kernel
theorem famPP : famL 6 2 1 0 = psPL := by decide +kernel
theorem famPE : famE 6 2 1 0 = 0 := by decide +kernel
theorem ofEF : ofE dK psF = 0 := by decide +kernel
theorem ofEP : ofE dK psP = 0 := by decide +kernel
def tupD (d : DfaV) : Int × Int × List Bool × List (List Int) := (d.letters, d.start, d.final, d.next)
def mkD (t : Int × Int × List Bool × List (List Int)) : DfaV := ⟨t.1, t.2.1, t.2.2.1, t.2.2.2⟩
theorem mk_tup {l : List DfaV} {t : List (Int × Int × List Bool × List (List Int))} (h : l.map tupD = t) : l = t.map mkD := by
 subst h
 rw [List.map_map]
 exact (List.map_id' l).symm
def tF : List DfaV := ([(2, 0, [true, false], [[1, 1], [1, 1]]), (2, 0, [false, true], [[1, 0], [1, 0]]),
 (2, 0, [false, true], [[0, 1], [0, 1]]), (2, 0, [false, true, false], [[1, 2], [1, 1], [2, 2]]),
 (2, 0, [false, false, true], [[1, 2], [1, 1], [2, 2]]), (2, 0, [false, true], [[1, 0], [1, 1]]),
 (2, 0, [false, true], [[0, 1], [1, 1]]), (2, 0, [false, false, true], [[1, 0], [1, 2], [1, 2]])] : List (Int × Int × List Bool × List (List Int))).map mkD
def tP : List DfaV := ([(2, 0, [false, true], [[1, 0], [1, 1]]), (2, 0, [false, true], [[0, 1], [1, 1]]), (2, 0, [false, false, true], [[1, 0], [1, 2], [1, 2]])] : List (Int × Int × List Bool × List (List Int))).map mkD
theorem ofTF : ofT dK psF = tF := mk_tup (by decide +kernel)
theorem ofTP : ofT dK psP = tP := mk_tup (by decide +kernel)
def lF : List (List Nat × List Nat) := [([], [0, 0, 0, 0, 0, 0, 0, 0]), ([0], [1, 1, 0, 1, 1, 1, 0, 1]), ([1], [1, 0, 1, 2, 2, 0, 1, 0]),
 ([0, 1], [1, 0, 1, 1, 1, 1, 1, 2]), ([1, 0], [1, 1, 0, 2, 2, 1, 1, 1]), ([0, 1, 0], [1, 1, 0, 1, 1, 1, 1, 1]),
 ([1, 0, 1], [1, 0, 1, 2, 2, 1, 1, 2])]
def lP : List (List Nat × List Nat) := [([], [0, 0, 0]), ([0], [1, 0, 1]), ([1], [0, 1, 0]), ([0, 1], [1, 1, 2]), ([1, 0], [1, 1, 1])]
theorem bfsF : BfsD (nxtT (ofT dK psF)) 2 (st0T (ofT dK psF)) (lF.map (·.2)) := by rw [ofTF]; exact bfsD_of (by decide +kernel)
theorem bfsP : BfsD (nxtT (ofT dK psP)) 2 (st0T (ofT dK psP)) (lP.map (·.2)) := by rw [ofTP]; exact bfsD_of (by decide +kernel)
theorem underF : Under (ofT dK psF) 2 := ⟨_, bfsF, by decide⟩
theorem underP : Under (ofT dK psP) 2 := ⟨_, bfsP, by decide⟩
theorem noConfF : ¬ Conf (ofT dK psF) 7 2 := by
 rw [kP (by rw [vM]; decide) bfsF, ofTF]
 have : (lF.map (·.2)).all (fun x => (lF.map (·.2)).all fun y => !(decide (mtsT tF 7 x = mtsT tF 7 y) && (accT tF x 7 && !accT tF y 7))) = true := by decide +kernel
 rw [List.all_eq_true] at this
 rintro ⟨x, y, hx, hy, h1, h2, h3⟩
 have h4 := this x hx
 rw [List.all_eq_true] at h4
 have h5 := h4 y hy
 simp [h1, h2, h3] at h5
theorem confP : Conf (ofT dK psP) 2 2 := by
 rw [kP (by rw [vM]; decide) bfsP, ofTP]
 exact ⟨[1, 1, 2], [1, 1, 1], by decide, by decide, by decide +kernel, by decide +kernel, by decide +kernel⟩
theorem dK_vd : VD dK 3 2 := vd_of (d := dK) (by decide +kernel)
theorem runK_lt {u : List Nat} (hu : yD 2 u) : run dK 0 u < 3 := run_lt dK_vd u (by decide) hu
theorem patW_mono {bs : List ByteArray} {k : Int} (h : patW bs k = 0) (hk : k ≤ 6) : patW bs 6 = 0 := wO.2 (pB (wO.1 h) hk (Int.le_refl 6))
theorem of_dia {d : DfaV} {ps : List (List ByteArray)} {g : DiaV} (hE : ofE d ps = 0) (h1 : g.pats = ps) (h2 : wF ps.length g.chos g.chos.length) (h3 : 0 ≤ g.root) (h4 : g.root ≤ 1 + (g.chos.length : Int)) (hl : g.chos.length ≤ 20000) : diaE g 6 = 0 ∧ diaE g d.letters = 0 := by
 obtain ⟨e1, e2, e3⟩ := qM hE
 have hv := vd_of e1
 have hk := hv.hk; have k1 := hv.k1; have k6 := hv.k6
 have hp := vK.1 e3
 exact ⟨diaE_of (by omega) (by omega) (by rw [h1]; exact e2) hl (fun p hp2 => patW_mono (hp p (by rw [← h1]; exact hp2)) (by omega)) (by rw [h1]; exact h2) h3 h4, diaE_of (by omega) (by omega) (by rw [h1]; exact e2) hl (fun p hp2 => hp p (by rw [← h1]; exact hp2)) (by rw [h1]; exact h2) h3 h4⟩
theorem of_holds {d : DfaV} {ps : List (List ByteArray)} {g : DiaV} (hE : ofE d ps = 0) (h1 : g.pats = ps) (h2 : wF ps.length g.chos g.chos.length) (h3 : 0 ≤ g.root) (h4 : g.root ≤ 1 + (g.chos.length : Int)) (hl : g.chos.length ≤ 20000)
  (h5 : ∀ u, yD d.letters.toNat u → decG g.chos (fun i => acc (xE (ps.getD i []) d.letters) (st0 (xE (ps.getD i []) d.letters)) u) g.root = acc d (st0 d) u) {s : ByteArray} (hs : zU s d.letters = true) : diaH g s = acc d (st0 d) (zK s) := by
 obtain ⟨e1, e2, e3⟩ := qM hE
 have hv := vd_of e1
 have hk := hv.hk; have k1 := hv.k1; have k6 := hv.k6
 have hp := vK.1 e3
 obtain ⟨k, hkk⟩ : ∃ k, k = d.letters.toNat := ⟨_, rfl⟩
 have hkd : d.letters = (k : Int) := by rw [hkk]; exact hk
 rw [hkd] at hs
 have hwo := (uA hs).1
 have h6 := h5 (zK s) (by rw [← hkk]; exact hwo)
 rw [← h6, diaH, (of_dia hE h1 h2 h3 h4 hl).1, rR hs (by omega) (Int.le_refl 6)]
 simp only [decide_true, Bool.true_and]
 refine decG_np h2 (fun i hi => ?_) h4
 have hpi : patW (ps.getD i []) (k : Int) = 0 := by rw [← hkd, zI hi]; exact hp _ (List.getElem_mem hi)
 rw [h1, hkd]
 exact (mS (wO.1 hpi) hs).symm
def zb (l : List Nat) : List Int := l.map fun (x : Nat) => (x : Int)
def txtT (f : List Nat) : ByteArray := strOfNums (zb f)
theorem zb_length (l : List Nat) : (zb l).length = l.length := by simp [zb]
def u8s (l : List Nat) : List Value := (zb l).map (Value.int .u8)
theorem u8s_length (l : List Nat) : (u8s l).length = l.length := by simp [u8s, zb]
theorem kT (l : List Nat) (i x : Nat) : (u8s l).set i (.int .u8 (x : Int)) = u8s (l.set i x) := by simp [u8s, zb, List.map_set]
theorem u8s_replicate (n : Nat) : u8s (List.replicate n 0) = List.replicate n (.int .u8 0) := by simp [u8s, zb]
theorem u8s_cell {w : World} {g : Nat} {l : List Nat} (h : Arr w g 5 (u8s l)) (i : Nat) (hi : i < l.length) : w.cell? ⟨g, i, none⟩ = some (.int .u8 ((l.getD i 0 : Nat) : Int)) := by
 rw [h.cell i (by rw [u8s_length]; exact hi), zI hi]; simp [u8s, zb]
theorem zb_inj {f g : List Nat} (hf : ∀ x ∈ f, x < 256) (hg : ∀ x ∈ g, x < 256) (h : txtT f = txtT g) : f = g := by
 have h1 : (zb f).map (fun n => UInt8.ofNat n.toNat) = (zb g).map (fun n => UInt8.ofNat n.toNat) := by
  have := congrArg (fun s : ByteArray => s.data.toList) h
  simpa [txtT, strOfNums] using this
 simp only [zb, List.map_map] at h1
 refine List.ext_getElem (by have := congrArg List.length h1; simpa using this) fun i h2 h3 => ?_
 have h4 := congrArg (fun l => l[i]?) h1
 simp only [List.getElem?_map, List.getElem?_eq_getElem h2, List.getElem?_eq_getElem h3, Option.map_some, Option.some.injEq, Function.comp, Int.toNat_natCast] at h4
 have h5 := congrArg UInt8.toNat h4
 have h6 := hf _ (List.getElem_mem h2)
 have h7 := hg _ (List.getElem_mem h3)
 simp only [UInt8.toNat_ofNat'] at h5
 omega
end Go.Proofs.Ytjfdomfendbhfaa
namespace Go.Proofs.Ytjfdomfendbhfaa
open Go.RowKit Go.Maps
theorem lS : Try.prog.underlying 129 = some (.map 9 3) := by kernel_rfl
theorem kZ : Try.prog.underlying 9 = some .string := by kernel_rfl
theorem key_string : Keyed Try.prog 9 := string_keyed kZ
end Go.Proofs.Ytjfdomfendbhfaa
namespace Go.Proofs.Ytjfdomfendbhfaa
open Go.RowKit Go.Maps
def kb (l : List Nat) : List Nat := l.flatMap fun q => [q / 256, q % 256]
theorem kb_length (l : List Nat) : (kb l).length = 2 * l.length := by
 induction l with
 | nil => rfl
 | cons x l ih => simp only [kb, List.flatMap_cons, List.length_append, List.length_cons, List.length_nil] at ih ⊢; omega
theorem kb_snoc (l : List Nat) (x : Nat) : kb (l ++ [x]) = kb l ++ [x / 256, x % 256] := by simp [kb]
theorem kb_inj : ∀ {l m : List Nat}, kb l = kb m → l = m
 | [], [], _ => rfl
 | [], y :: m, h => by simp [kb] at h
 | x :: l, [], h => by simp [kb] at h
 | x :: l, y :: m, h => by
  simp only [kb, List.flatMap_cons, List.cons_append, List.nil_append, List.cons.injEq] at h
  obtain ⟨h1, h2, h3⟩ := h
  rw [kb_inj (l := l) (m := m) h3, show x = y by omega]
def Small (n : Nat) (l : List Nat) : Prop := l.length = n ∧ ∀ x ∈ l, x < 512
theorem kb_small {n : Nat} {l : List Nat} (h : Small n l) : ∀ x ∈ kb l, x < 256 := by
 intro x hx
 simp only [kb, List.mem_flatMap, List.mem_cons, List.not_mem_nil, or_false] at hx
 obtain ⟨q, hq, hx⟩ := hx
 have := h.2 q hq
 omega
theorem txtT_size (l : List Nat) : (txtT l).size = l.length := by
 have : (txtT l).size = (txtT l).data.toList.length := by rw [Array.length_toList]; rfl
 rw [this]
 unfold txtT
 rw [strOfNums_data]
 simp [zb]
theorem key_kb {n : Nat} (h : n ≤ 400) : KeyK 129 9 (Small n) (fun l => .string (txtT (kb l))) where
 key := key_string
 und := lS
 of := fun a ha => by rw [Go.WideMaps.keyOf_string_mk kZ (by rw [txtT_size, kb_length, ha.1]; unfold maxLen; omega)]; rfl
 inj := fun a b ha hb e => kb_inj (zb_inj (kb_small ha) (kb_small hb) (by simpa using e))
theorem u8s_append (l m : List Nat) : u8s (l ++ m) = u8s l ++ u8s m := by simp [u8s, zb]
theorem rowLit {w : World} {b e n : Nat} {cs : Array Value} {m : Nat × Nat} (h : w.heap[b]? = some (.cells cs e m)) (hn : cs.size = n) (hm : n ≤ maxLen) : Row (b + 1) w (.slice (some ⟨b, 0, none⟩) n n) cs.toList :=
 .inr ⟨b, 0, n, by simp [hn], by omega, by simp [hn], hm, zN h, fun i hi => by
  rw [Nat.zero_add, cell_of_row w b i _ _ _ h]
  have : i < cs.size := by simpa using hi
  simp [this]⟩
set_option maxHeartbeats 800000 in
theorem ckey_any (B : Nat) (w : World) (v : Value) (l : List Nat) (n : Nat) (hB : B ≤ w.heap.size) (h : Row B w v (nats l)) (hs : Small n l) (hn : n ≤ 400) :
  Calls Try.prog 84 #[v] w fun e w' => e = .returned (.string (txtT (kb l))) ∧ w.grownBy w' none := by
 obtain ⟨a, c, rfl⟩ := h.shape
 have hcm := h.len_le
 rw [yF, hs.1] at hcm ⊢
 have H := Kh h; have HS := Kh hs
 clear h hs
 go_enter Try.func84, Try.ntmps84
 go_wp2_with (first | (at_make; refine make0 rfl _ _ _ rfl elem_u8 .i64 .i64 _ (2 * n) rfl rfl ?m1 ?m2 ?m3 ?_) | fail)
 case m1 => omega
 case m2 => omega
 case m3 => unfold maxLen; omega
 intro w1 hown1 hg1
 have HO1 := Kh hown1; have HG1 := Kh hg1
 clear hown1 hg1
 go_wp2
 go_loopg [3, 5, 12] n (fun gh v3 a5 i wr => ∃ (k : Nat) (sa : Option Addr) (sc : Nat), gh + k = n ∧ i = .int .i64 k ∧ v3 = .slice sa (2 * k) sc ∧ wr.ownsRow w.heap.size 5 1 (.slice sa (2 * k) sc) (2 * k) (u8s (kb (l.take k))) ∧ w.grownBy wr none)
 case atStart => exact ⟨0, _, _, rfl, rfl, rfl, HO1.out, HG1.out⟩
 case round =>
  clear HO1 HG1
  obtain ⟨k, sa, sc, hg, rfl, rfl, hown, hgr⟩ := hrel
  have HG := Kh hg; have HO := Kh hown; have HGR := Kh hgr
  clear hg hown
  by_cases hk : k < n
  ·have hk' : (k : Int) < n := by omega
   obtain ⟨kb_, ko, kc, e, _, hk1, hk2, hkr⟩ := (H.out.kept hgr (by simp)).some_ (by rw [yF, HS.out.1]; omega)
   rw [yF, HS.out.1] at e hk1
   simp only [Value.slice.injEq] at e
   obtain ⟨rfl, _, rfl⟩ := e
   have hmx : c ≤ 9223372036854775807 := by unfold maxLen at hk2; omega
   have c1 := hkr.nat k (by rw [HS.out.1]; exact hk)
   have HST : Hid (u8s (kb (l.take (k + 1))) = u8s (kb (l.take k)) ++ [.int .u8 ((l.getD k 0 / 256 : Nat) : Int), .int .u8 ((l.getD k 0 % 256 : Nat) : Int)]) := Kh (by
    rw [yH (d := 0) (by rw [HS.out.1]; exact hk), kb_snoc, u8s_append]; rfl)
   have hx5 : l.getD k 0 < 512 := HS.out.2 _ (by rw [zI (by rw [HS.out.1]; exact hk)]; exact List.getElem_mem _)
   obtain ⟨x, hx⟩ : ∃ x, x = l.getD k 0 := ⟨_, rfl⟩
   rw [← hx] at c1 HST hx5
   obtain ⟨y, hy⟩ : ∃ y, y = x / 256 := ⟨_, rfl⟩
   obtain ⟨z, hz⟩ : ∃ z, z = x % 256 := ⟨_, rfl⟩
   rw [← hy, ← hz] at HST
   have e1 : (x : Int) / 2 ^ 8 = (y : Int) := by rw [hy]; omega
   have e2 : (x : Int) / 256 = (y : Int) := by rw [hy]; omega
   have e3 : IntKind.u8.wrap (y : Int) = y := IntWalk.u8_in _ (by omega)
   have e4 : IntKind.u8.wrap (x : Int) = z := by
    have : IntKind.u8.wrap (x : Int) = (x : Int) % 256 := by simp [IntKind.wrap, IntKind.bits, IntKind.signed]
    rw [this, hz]; omega
   have hz0 := hgr.size
   have HOL : Hid (∀ W : World, wr.grownBy W none → W.ownsRow w.heap.size 5 1 (.slice sa (2 * k) sc) (2 * k) (u8s (kb (l.take k)))) := Kh (fun W hW => zV HO.out hW)
   clear hkr hk1 hk2 hgr hx hy hz
   go_wp2_with (first | (at_builtin; refine appR rfl _ _ _ rfl elem_u8 w.heap.size (.slice sa (2 * k) sc) (2 * k) _ rfl (HOL.out _ (World.grownBy_alloc wr _ none)) (.slice (some ⟨wr.heap.size, 0, none⟩) 2 2) [.int .u8 (y : Int), .int .u8 (z : Int)] rfl ⟨wr.heap.size + 1, ?r0⟩ ?r1 (2 * (k + 1)) ?a1 ?a2 ?a3 ?a4 ?_) | fail)
   case r0 => exact rowLit (heap_alloc_new wr _) rfl (by unfold maxLen; omega)
   case r1 => intro u hu; simp at hu; rcases hu with rfl | rfl <;> rfl
   case a1 => simp; omega
   case a2 => unfold maxLen; omega
   case a3 => omega
   case a4 => rw [zJ]; omega
   intro sa' sc' w8 hown8 hg8
   have HO8 : Hid (w8.ownsRow w.heap.size 5 1 (.slice sa' (2 * (k + 1)) sc') (2 * (k + 1)) (u8s (kb (l.take (k + 1))))) := Kh (by rw [HST.out]; exact hown8)
   have HG8 : Hid (w.grownBy w8 none) := Kh (zA (zA HGR.out (World.grownBy_alloc wr _ none) (by simp)) hg8 (fun x e => (HO.out.lt x e).1))
   clear hown8 hg8
   go_wp2
   go_roundg (n - (k + 1))
   case measure => have := HG.out; omega
   case rel => exact ⟨k + 1, sa', sc', by have := HG.out; omega, by go_num, rfl, HO8.out, HG8.out⟩
  ·have hkn : k = n := by have := HG.out; omega
   have hk' : ¬ (k : Int) < n := by omega
   have HE : Hid (l.take k = l) := Kh (by rw [hkn, ← HS.out.1]; exact List.take_length)
   rw [HE.out] at HO
   have hcv := qJ 106 5 Try.underlying106 Try.underlying5 9 Try.underlying9 HO.out
   obtain ⟨X, hX⟩ : ∃ X, X = txtT (kb l) := ⟨_, rfl⟩
   rw [show strOfNums (zb (kb l)) = X from hX.symm] at hcv
   have HX := Kh hX
   clear hkn hgr hX
   go_wp2
   go_ret
   exact ⟨by rw [HX.out]; rfl, HGR.out⟩
end Go.Proofs.Ytjfdomfendbhfaa
