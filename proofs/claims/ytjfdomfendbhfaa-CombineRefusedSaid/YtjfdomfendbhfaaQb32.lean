/- Part 32 of the proof: CMul. -/
import Derived.Test.YtjfdomfendbhfaaQb31
set_option linter.unusedVariables false
set_option linter.unusedSimpArgs false
namespace Go.Proofs.Ytjfdomfendbhfaa
open Go.RowKit Go.Maps
def qB (l : List Nat) (np j : Nat) : List Nat := l.take j ++ List.replicate (np - j) 0
theorem rP {l : List Nat} {np j : Nat} (h : l.length = np) (hj : j ≤ np) : (qB l np j).length = np := by simp [qB]; omega
theorem mE {l : List Nat} {np j : Nat} (h : l.length = np) (hj : j < np) : (qB l np j).set j (l.getD j 0) = qB l np (j + 1) := by
 have hl : (l.take j).length = j := by rw [List.length_take]; omega
 obtain ⟨m, hm⟩ : ∃ m, np - j = m + 1 := ⟨np - j - 1, by omega⟩
 rw [qB, List.set_append_right _ _ (by omega), hl, Nat.sub_self, hm, List.replicate_succ, List.set_cons_zero, qB, yH (d := 0) (by omega), List.append_assoc, show np - (j + 1) = m by omega]; rfl
theorem jY {l : List Nat} {np j : Nat} (h : l.length = np) (hj : j = np) : qB l np j = l := by
 subst hj; rw [qB, Nat.sub_self, List.replicate_zero, List.append_nil, List.take_of_length_le (by omega)]
theorem mY (l : List Nat) (np : Nat) : qB l np 0 = List.replicate np 0 := by simp [qB]
def NxOk (ds : List DfaV) (k : Nat) (L : List (List Nat)) (nxl : List Nat) (s a : Nat) : Prop :=
 nxl.length = s * k + a ∧ ∀ i b, b < k → (i < s ∨ (i = s ∧ b < a)) → nxl.getD (i * k + b) 0 = L.idxOf (nxtT ds (L.getD i []) b) ∧ nxtT ds (L.getD i []) b ∈ L
theorem NxOk.more {ds : List DfaV} {k s a : Nat} {L : List (List Nat)} {nxl : List Nat} (h : NxOk ds k L nxl s a) (hs : s < L.length) (x : List Nat) : NxOk ds k (L ++ [x]) nxl s a := by
 refine ⟨h.1, fun i b hb hi => ?_⟩
 have hil : i < L.length := by rcases hi with hi | ⟨hi, _⟩ <;> omega
 obtain ⟨h1, h2⟩ := h.2 i b hb hi
 rw [wU hil]
 exact ⟨by rw [h1, List.idxOf_append, if_pos h2], List.mem_append_left _ h2⟩
theorem NxOk.push {ds : List DfaV} {k s a : Nat} {L : List (List Nat)} {nxl : List Nat} (h : NxOk ds k L nxl s a) (ha : a < k) (hm : nxtT ds (L.getD s []) a ∈ L) : NxOk ds k L (nxl ++ [L.idxOf (nxtT ds (L.getD s []) a)]) s (a + 1) := by
 refine ⟨by rw [List.length_append, h.1]; rfl, fun i b hb hi => ?_⟩
 by_cases e : i = s ∧ b = a
 ·obtain ⟨rfl, rfl⟩ := e
  refine ⟨?_, hm⟩
  rw [List.getD_eq_getElem?_getD, List.getElem?_append_right (by rw [h.1]; exact Nat.le_refl _), h.1, Nat.sub_self]; rfl
 ·have hi2 : i < s ∨ (i = s ∧ b < a) := by omega
  obtain ⟨h1, h2⟩ := h.2 i b hb hi2
  have hlt : i * k + b < nxl.length := by
   rw [h.1]
   rcases hi2 with hi2 | ⟨rfl, hb2⟩
   ·have : i * k + k ≤ s * k := by rw [← Nat.succ_mul]; exact Nat.mul_le_mul_right k hi2
    omega
   ·omega
  rw [wU hlt]
  exact ⟨h1, h2⟩
theorem NxOk.next {ds : List DfaV} {k s : Nat} {L : List (List Nat)} {nxl : List Nat} (h : NxOk ds k L nxl s k) : NxOk ds k L nxl (s + 1) 0 :=
 ⟨by rw [h.1, Nat.succ_mul]; rfl, fun i b hb hi => h.2 i b hb (by omega)⟩
theorem NxOk.pushNew {ds : List DfaV} {k s a : Nat} {L : List (List Nat)} {nxl : List Nat} (h : NxOk ds k L nxl s a) (hs : s < L.length) (ha : a < k) (hz : nxtT ds (L.getD s []) a ∉ L) : NxOk ds k (L ++ [nxtT ds (L.getD s []) a]) (nxl ++ [L.length]) s (a + 1) := by
 have e1 : (L ++ [nxtT ds (L.getD s []) a]).getD s [] = L.getD s [] := wU hs
 have h1 := (h.more hs (nxtT ds (L.getD s []) a)).push ha (by rw [e1]; simp)
 rw [e1] at h1
 have e2 : (L ++ [nxtT ds (L.getD s []) a]).idxOf (nxtT ds (L.getD s []) a) = L.length := by rw [List.idxOf_append, if_neg hz]; simp
 rw [e2] at h1
 exact h1
def FromOk (ds : List DfaV) (k : Nat) (L : List (List Nat)) (fr bl : List Nat) : Prop :=
 fr.length = L.length ∧ bl.length = L.length ∧ ∀ i, 0 < i → i < L.length → fr.getD i 0 < i ∧ bl.getD i 0 < k ∧ nxtT ds (L.getD (fr.getD i 0) []) (bl.getD i 0) = L.getD i []
theorem FromOk.push {ds : List DfaV} {k s a : Nat} {L : List (List Nat)} {fr bl : List Nat} (h : FromOk ds k L fr bl) (hs : s < L.length) (ha : a < k) : FromOk ds k (L ++ [nxtT ds (L.getD s []) a]) (fr ++ [s]) (bl ++ [a]) := by
 refine ⟨by simp [h.1], by simp [h.2.1], fun i h0 hi => ?_⟩
 rw [List.length_append, List.length_singleton] at hi
 by_cases e : i = L.length
 ·subst e
  have e1 : (fr ++ [s]).getD L.length 0 = s := by rw [← h.1, List.getD_eq_getElem?_getD]; simp
  have e2 : (bl ++ [a]).getD L.length 0 = a := by rw [← h.2.1, List.getD_eq_getElem?_getD]; simp
  rw [e1, e2, wU hs]
  exact ⟨hs, ha, by rw [List.getD_eq_getElem?_getD]; simp⟩
 ·have hi2 : i < L.length := by omega
  obtain ⟨h1, h2, h3⟩ := h.2.2 i h0 hi2
  rw [wU (by rw [h.1]; exact hi2), wU (by rw [h.2.1]; exact hi2), wU (by omega), wU hi2]
  exact ⟨h1, h2, h3⟩
theorem nats_setM (l : List Nat) (i x : Nat) : (nats l).set i (.int .i64 (x : Int)) = nats (l.set i x) := by simp [nats]
theorem bfs_inT {ds : List DfaV} {k s a : Nat} {L : List (List Nat)} (h : BfsI (nxtT ds) k (st0T ds) L s a) (ho : OkT ds k) (hs : s < L.length) : InT ds (L.getD s []) := by
 obtain ⟨u, hu, e⟩ := h.re (L.getD s []) (by rw [zI hs]; exact List.getElem_mem hs)
 rw [← e]; exact ho.walk u ho.in0 hu
theorem cells4M {w : World} {p e : Nat} {x0 x1 x2 x3 : Value} (h : w.heap[p]? = some (.cells #[x0, x1, x2, x3] e (0, 0))) :
  w.cell? ⟨p, 0, none⟩ = some x0 ∧ w.cell? ⟨p, 1, none⟩ = some x1 ∧ w.cell? ⟨p, 2, none⟩ = some x2 ∧ w.cell? ⟨p, 3, none⟩ = some x3 := by
 have c0 := zO h 0 (by simp)
 have c1 := zO h 1 (by simp)
 have c2 := zO h 2 (by simp)
 have c3 := zO h 3 (by simp)
 simp only [List.getElem_toArray, List.getElem_cons_zero, List.getElem_cons_succ] at c0 c1 c2 c3
 exact ⟨c0, c1, c2, c3⟩
def MulRet (w : World) (pv : Value) (ds : List DfaV) (k : Nat) (e : Ending) (w' : World) : Prop :=
 (Over ds k ∧ e = .returned (.tuple #[.pointer none, .bool false]) ∧ w.grownBy w' none) ∨ ∃ o mb L nxl fr bl, e = .returned (.tuple #[.pointer (some ⟨o, 0, none⟩), .bool true]) ∧ ProdS w w.heap.size o mb k ds.length pv L nxl fr bl L.length (L.length * k) [] w' ∧ BfsD (nxtT ds) k (st0T ds) L ∧ L.length ≤ 4000 ∧ NxOk ds k L nxl L.length 0 ∧ FromOk ds k L fr bl ∧ w.grownBy w' none
set_option maxRecDepth 100000 in
set_option maxHeartbeats 4000000 in
theorem multiply_any (Bd : Nat) (w : World) (v : Value) (ds : List DfaV) (k : Nat) (hB : Bd ≤ w.heap.size) (h : DsIn Bd w v ds) (hok : OkT ds k) (hk1 : 1 ≤ k) (hk6 : k ≤ 6) (hl : ds.length ≤ 400) :
  Calls Try.prog 57 #[v, .int .i64 (k : Int)] w (MulRet w v ds k) := by
 obtain ⟨da, dc, rfl⟩ := h.shape
 obtain ⟨np, hnp⟩ : ∃ n, n = ds.length := ⟨_, rfl⟩
 have HNP := Kh hnp; have H := Kh h; have HOK := Kh hok; have HKB := Kh (key_kb (n := np) (by omega))
 have hlk : ds.length ≤ 400 := hl
 rw [← hnp] at hl H ⊢
 have hmm := @run_makeMap Try.prog
 clear h hok hnp hlk
 go_enter Try.func57, Try.ntmps57
 go_upto_region 2 with (first | (at_make; refine make1 rfl _ _ _ rfl xP rfl .i64 .i64 _ _ np rfl rfl rfl rfl ?b1 ?b2 ?_; (case b1 => omega); (case b2 => (unfold maxLen; omega)); intro w1 ha1 hg1 hlt1) | fail)
 obtain ⟨G, hG⟩ : ∃ b, b = w.heap.size := ⟨_, rfl⟩
 rw [← hG] at ha1 ⊢
 have hGl : w.heap.size ≤ G := by omega
 have HGE := Kh hG; have HA1 := Kh ha1; have HG1 := Kh hg1
 clear ha1 hg1 hG hlt1
 have HST : Hid ((st0T ds).length = np) := Kh (by rw [qI, HNP.out])
 go_wp2
 go_loopg [7, 8, 24] np (fun gh a7 a8 i wr => ∃ j : Nat, gh + j = np ∧ i = .int .i64 j ∧ Arr wr G 3 (nats (qB (st0T ds) np j)) ∧ w.grownBy wr none)
 case atStart => exact ⟨0, rfl, rfl, by rw [mY, xU]; exact HA1.out, HG1.out⟩
 case round =>
  clear HA1 HG1
  obtain ⟨j, hgh, rfl, ha, hg⟩ := hrel
  have HGH := Kh hgh; have HAR := Kh ha; have HG := Kh hg
  clear hgh
  by_cases hj : j < np
  ·have hj' : (j : Int) < np := by omega
   obtain ⟨b, off, cap, e, hc1, hc2, hd⟩ := (H.out.kept hg (by simp)).head (by rw [← HNP.out]; omega)
   rw [← HNP.out] at e hc1
   simp only [Value.slice.injEq, true_and] at e
   obtain ⟨rfl, rfl⟩ := e
   have hmx : dc ≤ 9223372036854775807 := by unfold maxLen at hc2; omega
   obtain ⟨n, fb, fo, fc, nb, no, nc, RB, RO, RC, hv, h5, c1, c2, c3, c4, hat⟩ := hd.dfa HOK.out (by rw [← HNP.out]; exact hj)
   have hset := mE HST.out hj
   rw [st0T_get (by rw [← HNP.out]; exact hj)] at hset
   have hst5 : st0 (ds.getD j dN) < 512 := by have := pF hv; omega
   obtain ⟨x, hx⟩ : ∃ x, x = st0 (ds.getD j dN) := ⟨_, rfl⟩
   rw [← hx] at c2 hset hst5
   have HSET := Kh hset
   have fG := ha.frozen j
   have cG := Arr.nat ha j (by rw [rP HST.out (by omega)]; exact hj)
   have hGlt := ha.lt
   clear hd hat hv hx hset ha
   go_wp2
   go_roundg (np - (j + 1))
   case measure => have := HGH.out; omega
   case rel =>
    have hgs := zD wr ⟨G, j, none⟩ (.int .i64 (x : Int))
    have hga := World.grownBy_alloc (wr.setCell ⟨G, j, none⟩ (.int .i64 (x : Int))) (.cells #[.int .i64 (k : Int), .int .i64 (x : Int), .slice (some ⟨fb, fo, none⟩) n fc, .slice (some ⟨nb, no, none⟩) n nc] 42) none
    refine ⟨j + 1, by have := HGH.out; omega, by go_num, ?_, zA (zA HG.out hgs (fun y e => by have e : G = y := Option.some.inj e; omega)) hga (by simp)⟩
    rw [← HSET.out]
    exact (HAR.out.nat_set j (by rw [rP HST.out (by omega)]; exact hj) x).kept hga (by simp)
  ·have hjn : j = np := by have := HGH.out; omega
   have hj' : ¬ (j : Int) < np := by omega
   rw [jY HST.out hjn] at ha
   have HX0 := Kh ha
   obtain ⟨wo, rfl⟩ : ∃ wo : World, wo = wr := ⟨_, rfl⟩
   obtain ⟨w5, hw5⟩ : ∃ w5, w5 = (((wo.alloc (.cells #[.slice (some ⟨G, 0, none⟩) np np] 34)).alloc (.cells #[.int .i64 0] 3)).alloc (.cells #[.int .i64 0] 3)).alloc (.cells #[.int .i64 (k : Int), .slice da np dc, .slice (some ⟨wo.heap.size, 0, none⟩) 1 1, .slice none 0 0, .slice (some ⟨wo.heap.size + 1, 0, none⟩) 1 1, .slice (some ⟨wo.heap.size + 1 + 1, 0, none⟩) 1 1] 111) := ⟨_, rfl⟩
   obtain ⟨hbx, hrw, hg5⟩ := prod_start (k := k) (pv := .slice da np dc) hg ha hGl HST.out (by omega) hw5
   obtain ⟨s2, hs2⟩ : ∃ s, s = wo.heap.size := ⟨_, rfl⟩
   obtain ⟨s3, hs3⟩ : ∃ s, s = wo.heap.size + 1 := ⟨_, rfl⟩
   obtain ⟨s4, hs4⟩ : ∃ s, s = wo.heap.size + 1 + 1 := ⟨_, rfl⟩
   obtain ⟨o, ho⟩ : ∃ s, s = wo.heap.size + 1 + 1 + 1 := ⟨_, rfl⟩
   have HW5 := Kh hw5; have HO := Kh ho
   rw [← ho, ← hs4, ← hs3, ← hs2] at hbx
   have HBX := Kh hbx; have HRW := Kh hrw; have HG5 := Kh hg5
   clear hjn hg ha hw5 ho hs2 hs3 hs4 hbx hrw hg5
   go_upto_region 8 with fail
   rw [← HW5.out, ← HO.out]
   have hg6 := World.grownBy_alloc w5 (.map #[] 0) none
   have hm6 := MapK.made 9 (Small np) (fun l => .string (txtT (kb l))) w5
   obtain ⟨w6, hw6⟩ : ∃ w6, w6 = w5.alloc (.map #[] 0) := ⟨_, rfl⟩
   obtain ⟨mb, hmb⟩ : ∃ b, b = w5.heap.size := ⟨_, rfl⟩
   rw [← hw6, ← hmb] at hm6
   rw [← hw6] at hg6
   have HW6 := Kh hw6; have HMB := Kh hmb; have HG6 := Kh hg6; have HM6 := Kh hm6
   have HS0 : Hid (Small np (st0T ds)) := Kh (by
    refine ⟨HST.out, fun x hx => ?_⟩
    obtain ⟨i, hi, rfl⟩ := List.getElem_of_mem hx
    have := HOK.out.small HOK.out.in0 i (by rw [qI] at hi; exact hi)
    rwa [zI hi] at this)
   have HROW : Hid (Row w5.heap.size w5 (.slice (some ⟨G, 0, none⟩) np np) (nats (st0T ds))) := Kh (HRW.out.2 0 (by simp) (by simp)).1.row
   have HKEY : Hid (Calls Try.prog 84 #[.slice (some ⟨G, 0, none⟩) np np] w6 fun e w' => e = .returned (.string (txtT (kb (st0T ds)))) ∧ w6.grownBy w' none) := Kh (ckey_any w5.heap.size w6 _ (st0T ds) np hg6.size (HROW.out.kept hg6 (by simp)) HS0.out (by omega))
   obtain ⟨T0, hT0⟩ : ∃ t, t = txtT (kb (st0T ds)) := ⟨_, rfl⟩
   rw [← hT0] at HKEY
   have HT0 := Kh hT0
   clear hg6 hm6 hw6 hmb hT0
   go_wp2_with fail
   rw [← HMB.out, ← HW6.out]
   refine HKEY.out.mono ?_
   rintro e w7 ⟨rfl, hg7⟩
   have HM7 := Kh (HM6.out.kept hg7 (by simp))
   have HG67 := Kh (zA HG6.out hg7 (by simp))
   clear hg7 HKEY
   obtain ⟨w8, r8, hrun, hm8, hg8⟩ := HM7.out.upd HKB.out (z := st0T ds) (y := 0) (by unfold maxLen; omega) HS0.out (by omega)
   have hrun' : Sem.run Try.prog (Instr.mapUpdate 129 (.map (some mb)) (.string T0) (.int .i64 0)) w7 = .ok r8 w8 := by rw [HT0.out]; exact hrun
   clear hrun
   go_wp2
   clear hrun'
   have hne0 : (fun q => if q = st0T ds then some 0 else (none : Option Nat)) = numE [st0T ds] := by
    funext q
    unfold numE
    by_cases e : q = st0T ds
    ·rw [if_pos e, if_pos (by simp [e]), e]; simp
    ·rw [if_neg e, if_neg (by simpa using e)]
   have hm8' : MapK 9 (Small np) (fun l => .string (txtT (kb l))) w8 mb 1 1 (numE [st0T ds]) := by rw [← hne0]; exact hm8
   have hbx7 := HBX.out.grow HG67.out
   have hmbl : w5.heap.size ≤ mb := by rw [HMB.out]; exact Nat.le_refl _
   have homb : o < w5.heap.size := zN HBX.out.box
   have hGmb := HX0.out.lt
   have hwz := HBX.out.mem.lt G rfl
   have hbx8 := hbx7.far hg8 (fun r hr => wH (es := #[]) (clock := 0) (hbx7.mem.own r hr) HM7.out.obj) (fun e => by have e : mb = G := e; omega) (fun e => by omega) (by have := HG5.out.size; omega)
   have HP0 : Hid (ProdS w w.heap.size o mb k np (.slice da np dc) [st0T ds] [] [0] [0] 1 0 [] w8) := Kh ⟨_, _, _, _, _, _, _, _, _, _, 1, 1, hbx8.rebase, HRW.out.kept hbx8.kept hbx8.wk, hm8', fun e => by have e : mb = G := e; omega, by have := HG5.out.size; omega, by omega, ⟨rfl, rfl, rfl, rfl⟩, rfl⟩
   clear hm8 hm8' hg8 hne0 hbx7 hbx8 HBX HRW HM7 HG67 HROW HM6 HG6 HW6 HMB hmbl homb hGmb hwz HW5 HO HG5 HX0
   go_loopg [11, 12, 13, 14, 15, 16, 17, 18, 57, 65] 4000 (fun gh v11 a12 a13 a14 a15 a16 a17 a18 a57 a65 wr => ∃ (s : Nat) (L : List (List Nat)) (nxl fr bl : List Nat), gh + s = 4000 ∧ v11 = .int .i64 s ∧ ProdS w w.heap.size o mb k np (.slice da np dc) L nxl fr bl L.length (s * k) [] wr ∧ BfsI (nxtT ds) k (st0T ds) L s 0 ∧ L.length ≤ 4000 ∧ NxOk ds k L nxl s 0 ∧ FromOk ds k L fr bl)
   case atStart => exact ⟨0, [st0T ds], [], [0], [0], rfl, rfl, by rw [Nat.zero_mul]; exact HP0.out, BfsI.start, by simp, ⟨by simp, fun i b hb hi => by omega⟩, ⟨rfl, rfl, fun i h0 hi => by simp at hi; omega⟩⟩
   case round =>
    clear HP0
    obtain ⟨s, L, nxl, fr, bl, hgh, rfl, hp, hbf, hL4, hnx, hfr⟩ := hrel
    have HGH := Kh hgh; have HP := Kh hp; have HBF := Kh hbf; have HNX := Kh hnx; have HFR := Kh hfr
    have hsl := hbf.le
    obtain ⟨m, hm⟩ : ∃ m, m = L.length := ⟨_, rfl⟩
    rw [← hm] at hsl hL4 HP
    have HML := Kh hm
    obtain ⟨sS, cS, sN, cN, sF, cF, sB, cB, hbox, _⟩ := HP.out.cells
    obtain ⟨x0, x1, x2, x3, x4, x5⟩ := lD hbox
    clear hgh hp hbf hnx hfr hm hbox
    by_cases hs : s < m
    case neg =>
     have hs' : ¬ (s : Int) < m := by omega
     have hsm : s = m := by omega
     have HD : Hid (BfsD (nxtT ds) k (st0T ds) L) := Kh (HBF.out.done (by rw [← HML.out]; omega))
     subst hsm
     go_wp2
     refine bodyPost_ret (v := .tuple #[.pointer (some ⟨o, 0, none⟩), .bool true]) (by simp [results, Try.results57, go_sem]) rfl ?_
     refine .inr ⟨o, mb, L, nxl, fr, bl, rfl, ?_, HD.out, by rw [← HML.out]; exact hL4, ?_, HFR.out, HP.out.facts.1⟩
     ·have := HP.out; rw [HML.out, HNP.out] at this; rw [← HNP.out]; rw [HNP.out]; exact this
     ·have := HNX.out; rw [HML.out] at this; exact this
    have hs' : (s : Int) < m := by omega
    have HSM : Hid (s < L.length) := Kh (by rw [← HML.out]; exact hs)
    have HP1 : Hid (ProdS w w.heap.size o mb k np (.slice da np dc) L nxl fr bl L.length (s * k) [] wr) := Kh (by have := HP.out; rw [HML.out] at this; exact this)
    have HL4 : Hid (L.length ≤ 4000) := Kh (by rw [← HML.out]; exact hL4)
    go_wp2
    clear x0 x1 x2 x3 x4 x5 hs hs' hsl hL4 HP
    go_loopg [12, 13, 14, 15, 16, 17, 18, 57, 65] k (fun gh b12 b13 b14 b15 b16 b17 b18 b57 b65 w2 => ∃ (a : Nat) (L : List (List Nat)) (nxl fr bl : List Nat), gh + a = k ∧ b57 = .int .i64 a ∧ ProdS w w.heap.size o mb k np (.slice da np dc) L nxl fr bl L.length (s * k + a) [] w2 ∧ BfsI (nxtT ds) k (st0T ds) L s a ∧ s < L.length ∧ L.length ≤ 4000 ∧ NxOk ds k L nxl s a ∧ FromOk ds k L fr bl)
    case atStart => exact ⟨0, L, nxl, fr, bl, rfl, rfl, HP1.out, HBF.out, HSM.out, HL4.out, HNX.out, HFR.out⟩
    case round =>
     clear HP1 HBF HNX HFR HML HSM HL4
     obtain ⟨w2, rfl⟩ : ∃ w2 : World, w2 = wr := ⟨_, rfl⟩
     obtain ⟨a, L2, nx2, fr2, bl2, hga, rfl, hp, hbf, hsl, hL4, hnx, hfr⟩ := hrel
     have HGA := Kh hga; have HP := Kh hp; have HBF := Kh hbf; have HNX := Kh hnx; have HFR := Kh hfr
     have HSL := Kh hsl; have HL4 := Kh hL4
     by_cases ha : a < k
     case neg =>
      have ha' : ¬ (a : Int) < k := by omega
      have hak : a = k := by omega
      have HAK := Kh hak
      clear hga hp hbf hsl hL4 hnx hfr hak
      go_wp2
      go_roundg (4000 - (s + 1))
      case measure => have := HGH.out; have := HSL.out; have := HL4.out; omega
      case rel =>
       have h9 : s < 4000 := by have := HSL.out; have := HL4.out; omega
       refine ⟨s + 1, L2, nx2, fr2, bl2, by have := HGH.out; omega, by (refine congrArg _ ?_; rw [IntWalk.wrap64_in _ (by omega)]; omega), ?_, ?_, HL4.out, ?_, HFR.out⟩
       ·rw [Nat.succ_mul]; have := HP.out; rw [HAK.out] at this; exact this
       ·have := HBF.out; rw [HAK.out] at this; exact this.next HSL.out
       ·have := HNX.out; rw [HAK.out] at this; exact this.next
     have ha' : (a : Int) < k := by omega
     have HIN := Kh (bfs_inT hbf HOK.out hsl)
     obtain ⟨x, hx⟩ : ∃ x, x = L2.getD s [] := ⟨_, rfl⟩
     rw [← hx] at HIN
     have HX := Kh hx
     obtain ⟨q0, hq0⟩ : ∃ q, q = s * k + a := ⟨_, rfl⟩
     rw [← hq0] at HP
     have HQ0 := Kh hq0
     obtain ⟨m, hm⟩ : ∃ m, m = L2.length := ⟨_, rfl⟩
     rw [← hm] at HP hL4 hsl
     have HML := Kh hm
     clear hga hp hbf hnx hfr hx hq0 hm
     go_upto_region 16 with (first | (at_make; refine make1o rfl _ _ _ rfl xP rfl .i64 .i64 _ _ np rfl rfl rfl rfl ?b1 ?b2 ?_; (case b1 => omega); (case b2 => (unfold maxLen; omega)); intro w3 hown3 hg3 hlt3) | fail)
     obtain ⟨rb, hrb⟩ : ∃ b, b = w2.heap.size := ⟨_, rfl⟩
     have hp3 := HP.out.addRow hg3 hown3 (by decide)
     rw [← hrb] at hp3 ⊢
     rw [← xU, ← mY (nxtT ds x a)] at hp3
     have HP3 := Kh hp3
     have HNL : Hid ((nxtT ds x a).length = np) := Kh (by rw [nC, HNP.out])
     have HRB : Hid (w.heap.size ≤ rb) := Kh (by have := HP.out.facts; omega)
     clear hown3 hg3 hlt3 hp3 hrb HP
     go_wp2
     go_loopg [14, 15, 65] np (fun gh c14 c15 c65 w4 => ∃ i : Nat, gh + i = np ∧ c65 = .int .i64 i ∧ ProdS w w.heap.size o mb k np (.slice da np dc) L2 nx2 fr2 bl2 m q0 [⟨w.heap.size, 3, .slice (some ⟨rb, 0, none⟩) np np, np, nats (qB (nxtT ds x a) np i), 1⟩] w4)
     case atStart => exact ⟨0, rfl, rfl, HP3.out⟩
     case round =>
      clear HP3
      obtain ⟨w4, rfl⟩ : ∃ w4 : World, w4 = wr := ⟨_, rfl⟩
      obtain ⟨i, hgi, rfl, hp⟩ := hrel
      have HGI := Kh hgi; have HP := Kh hp
      clear hgi
      by_cases hi : i < np
      case pos =>
       have hi' : (i : Int) < np := by omega
       obtain ⟨b, off, cap, e, hc1, hc2, hd⟩ := (H.out.kept hp.facts.1 (by simp)).head (by rw [← HNP.out]; omega)
       rw [← HNP.out] at e hc1
       simp only [Value.slice.injEq, true_and] at e
       obtain ⟨rfl, rfl⟩ := e
       have hmx : dc ≤ 9223372036854775807 := by unfold maxLen at hc2; omega
       obtain ⟨n, fb, fo, fc, nb, no, nc, RB, RO, RC, hv, h5, c1, c2, c3, c4, hat⟩ := hd.dfa HOK.out (by rw [← HNP.out]; exact hi)
       have hq : x.getD i 0 < n := by have := HIN.out.2 i (by rw [← HNP.out]; exact hi); rw [hv.hn] at this; exact this
       have HAT := Kh hat; have HD := Kh hd
       obtain ⟨st, hst0⟩ : ∃ y, y = st0 (ds.getD i dN) := ⟨_, rfl⟩
       rw [← hst0] at c2
       have HQ := Kh hq
       clear hd hat hv hp hst0
       go_upto_region 19 with fail
       have hga := World.grownBy_alloc w4 (.cells #[.int .i64 (k : Int), .int .i64 (st : Int), .slice (some ⟨fb, fo, none⟩) n fc, .slice (some ⟨nb, no, none⟩) n nc] 42) none
       have hbk := heap_alloc_new w4 (.cells #[.int .i64 (k : Int), .int .i64 (st : Int), .slice (some ⟨fb, fo, none⟩) n fc, .slice (some ⟨nb, no, none⟩) n nc] 42)
       obtain ⟨w5, hw5⟩ : ∃ w5, w5 = w4.alloc (.cells #[.int .i64 (k : Int), .int .i64 (st : Int), .slice (some ⟨fb, fo, none⟩) n fc, .slice (some ⟨nb, no, none⟩) n nc] 42) := ⟨_, rfl⟩
       obtain ⟨db, hdb⟩ : ∃ b, b = w4.heap.size := ⟨_, rfl⟩
       rw [← hw5] at hga
       rw [← hw5, ← hdb] at hbk
       rw [← hw5, ← hdb]
       obtain ⟨_, _, _, d3⟩ := cells4M hbk
       have hp5 := HP.out.grow hga
       have HP5 := Kh hp5
       have hat5 := HAT.out.kept hga (by simp)
       have e1 := hat5.hd (x.getD i 0) HQ.out
       have e2 := hat5.el (x.getD i 0) a HQ.out ha
       have e3 := hat5.cap
       have e4 := hat5.rcap (x.getD i 0) HQ.out
       obtain ⟨sS, cS, sN, cN, sF, cF, sB, cB, hbox, hst⟩ := hp5.cells
       obtain ⟨x0, x1, x2, x3, x4, x5⟩ := lD hbox
       obtain ⟨sb, rfl, hcs1, hcs2, hst⟩ := hst (by omega)
       obtain ⟨g, go, gc, f1, f2, f3, f4⟩ := hst s hsl (by rw [← HX.out]; intro e; have := HIN.out.1; rw [e, ← HNP.out] at this; simp at this; omega)
       rw [← HX.out] at f1 f2 f4
       have f5 := f4 i (by rw [HIN.out.1, ← HNP.out]; exact hi)
       rw [HIN.out.1, ← HNP.out] at f1 f2
       have hR := hp5.arr
       have fR := hR.frozen i
       have cR := Arr.nat hR i (by rw [rP HNL.out (by omega)]; exact hi)
       have hRlt := hR.lt
       have hcS : cS ≤ 9223372036854775807 := by unfold maxLen at hcs2; omega
       have hgc : gc ≤ 9223372036854775807 := by unfold maxLen at f3; omega
       have hnc : nc ≤ 9223372036854775807 := by unfold maxLen at e3; omega
       have hrc : RC (x.getD i 0) ≤ 9223372036854775807 := by unfold maxLen at e4; omega
       have hset := mE HNL.out hi
       rw [nxtT_get (by rw [← HNP.out]; exact hi)] at hset
       obtain ⟨qq, hqq⟩ : ∃ q, q = x.getD i 0 := ⟨_, rfl⟩
       rw [← hqq] at e1 e2 e4 f5 hset hrc
       have hq' : (qq : Int) < n := by rw [hqq]; have := HQ.out; omega
       obtain ⟨rb2, hrb2⟩ : ∃ r, r = RB qq := ⟨_, rfl⟩
       obtain ⟨ro2, hro2⟩ : ∃ r, r = RO qq := ⟨_, rfl⟩
       obtain ⟨rc2, hrc2⟩ : ∃ r, r = RC qq := ⟨_, rfl⟩
       obtain ⟨y, hy⟩ : ∃ y, y = nx (ds.getD i dN) qq a := ⟨_, rfl⟩
       rw [← hrb2, ← hro2, ← hrc2] at e1
       rw [← hrb2, ← hro2, ← hy] at e2
       rw [← hrc2] at e4 hrc
       rw [← hy] at hset
       have HSET := Kh hset
       obtain ⟨e3a, _⟩ := e3
       obtain ⟨e4a, _⟩ := e4
       have hs' : (s : Int) < m := by omega
       clear hset hy hrb2 hro2 hrc2 hqq f4 hst hbox hp5 hat5 hbk hga hw5 hdb HIN hR hcs2 f3
       go_region
       all_goals (try go_frame)
       go_wp2
       go_roundg (np - (i + 1))
       case measure => have := HGI.out; omega
       case rel =>
        refine ⟨i + 1, by have := HGI.out; omega, by go_num, ?_⟩
        rw [← HSET.out, ← nats_setM]
        exact (HP5.out.put hi (.int .i64 (y : Int))).grow (zP _ none)
      case neg =>
       have hi' : ¬ (i : Int) < np := by omega
       have hin : i = np := by have := HGI.out; omega
       rw [jY HNL.out hin] at hp
       obtain ⟨z, hz⟩ : ∃ z, z = nxtT ds x a := ⟨_, rfl⟩
       have hzl : z.length = np := by rw [hz]; exact HNL.out
       have HSZ : Hid (Small np z) := Kh (by
        have h1 := HOK.out.next HIN.out ha
        rw [← hz] at h1
        refine ⟨hzl, fun y hy => ?_⟩
        obtain ⟨j, hj, rfl⟩ := List.getElem_of_mem hy
        have := HOK.out.small h1 j (by rw [← HNP.out, ← hzl]; exact hj)
        rwa [zI hj] at this)
       rw [← hz] at hp
       have HP7 := Kh hp
       have HROW : Hid (Row w4.heap.size w4 (.slice (some ⟨rb, 0, none⟩) np np) (nats z)) := Kh (arrRowX (X := fun _ => True) hp.arr hzl (by unfold maxLen; omega) trivial).row
       have HKEY : Hid (Calls Try.prog 84 #[.slice (some ⟨rb, 0, none⟩) np np] w4 fun e w' => e = .returned (.string (txtT (kb z))) ∧ w4.grownBy w' none) := Kh (ckey_any w4.heap.size w4 _ z np (Nat.le_refl _) HROW.out HSZ.out (by omega))
       obtain ⟨T, hT⟩ : ∃ t, t = txtT (kb z) := ⟨_, rfl⟩
       rw [← hT] at HKEY
       have HT := Kh hT; have HZ := Kh hz; have HZL := Kh hzl
       clear hin hp hz hT hzl HP HROW
       go_wp2_with fail
       refine HKEY.out.mono ?_
       rintro e w6 ⟨rfl, hg6⟩
       have hp8 := HP7.out.grow hg6
       obtain ⟨u, c, hu, hM⟩ := hp8.map
       have HP8 := Kh hp8; have HM := Kh hM; have HU := Kh hu
       obtain ⟨sS, cS, sN, cN, sF, cF, sB, cB, hbox, _⟩ := hp8.cells
       obtain ⟨x0, x1, x2, x3, x4, x5⟩ := lD hbox
       have hlk0 := hM.lookup HKB.out HSZ.out
       clear hg6 hp8 hM hu hbox HKEY HP7
       have HBY : Hid (L2[s]? = some x) := Kh (by rw [HX.out, List.getD_eq_getElem?_getD, List.getElem?_eq_getElem HSL.out]; rfl)
       by_cases hmem : z ∈ L2
       case pos =>
        obtain ⟨y, hy⟩ : ∃ y, y = L2.idxOf z := ⟨_, rfl⟩
        have hym : y < m := by rw [hy, HML.out]; exact List.idxOf_lt_length_of_mem hmem
        have hlk : Sem.run Try.prog (Instr.lookup 129 (.map (some mb)) (.string T) true) w6 = .ok (.tuple #[.int .i64 (y : Int), .bool true]) w6 := by
         rw [numE_of_mem hmem, ← hy] at hlk0
         rw [HT.out]; exact hlk0
        obtain ⟨X, hs, sS, sN, sF, sB, cS, cN, cF, cB, hB, hE1, hE, hmx, hmb, hl, hhs⟩ := HP8.out.open_ (zL w6 (some mb)) HM.out.obj
        obtain ⟨X1, hX1⟩ : ∃ X1, X1 = fun j => X j ∨ j = mb := ⟨_, rfl⟩
        rw [← hX1] at hB
        have HS := Kh hB; have HE := Kh hE; have HMX := Kh hmx; have HMB := Kh hmb; have HL := Kh hl; have HHS := Kh hhs; have HX1 := Kh hX1; have HY := Kh hy; have HMEM := Kh hmem
        have HQL : Hid (q0 ≤ 24000) := Kh (by rw [HQ0.out]; have h1 : s * k ≤ 3999 * 6 := Nat.mul_le_mul (by omega) hk6; omega)
        have hql := HQL.out
        clear x0 x1 x2 x3 x4 x5 hlk0 hB hE1 hE hmx hmb hl hhs hX1 hy hmem
        have q1 := zO HS.out.box 3 (by simp)
        simp only [List.getElem_toArray, List.getElem_cons_zero, List.getElem_cons_succ] at q1
        have ho1 := HS.out.own (r := ⟨w.heap.size, 3, .slice sN q0 cN, q0, nats nx2, 1⟩) (by simp)
        have hz1 := Nat.le_trans HS.out.base HS.out.wk
        go_upto_region 32 with (first | (at_builtin; refine rQ rfl _ _ _ rfl xP.toN w.heap.size (.slice sN q0 cN) (q0) (nats nx2) rfl ho1 [.int .i64 (y : Int)] rfl rfl ?z1 ?z2 ?z3 ?z4 ?_; (case z1 => (intro v hv; simp only [List.mem_cons, List.not_mem_nil, or_false] at hv; subst hv; rfl)); (case z2 => (unfold maxLen; omega)); (case z3 => (show (q0 + 1) * 8 ≤ 140737488355328; omega)); (case z4 => exact hz1); intro sn1 cn1 wM1 hown hgM hmM; (have HM1 : Hid (BoxS w.heap.size X1 o 111 w w6 (⟨w.heap.size, 34, .slice sS m cS, m, hs, 1⟩ :: ⟨w.heap.size, 3, .slice sn1 (q0 + 1) cn1, (q0 + 1), nats nx2 ++ [.int .i64 (y : Int)], 1⟩ :: ⟨w.heap.size, 3, .slice sF m cF, m, nats fr2, 1⟩ :: ⟨w.heap.size, 3, .slice sB m cB, m, nats bl2, 1⟩ :: []) #[.int .i64 (k : Int), .slice da np dc, .slice sS m cS, .slice sN q0 cN, .slice sF m cF, .slice sB m cB] wM1) := Kh (HS.out.appAt (j := 1) rfl hown hgM hmM)); (have p1 := zO HM1.out.box 3 (by simp)); simp only [List.getElem_toArray, List.getElem_cons_zero, List.getElem_cons_succ] at p1; (have f1 := zE HM1.out.box 3); clear hown hgM hmM q1) | fail)
        obtain ⟨wZ1, hwZ1⟩ : ∃ wZ, wZ = wM1.setCell ⟨o, 3, none⟩ (.slice sn1 (q0 + 1) cn1) := ⟨_, rfl⟩
        have HZ1 : Hid (BoxS w.heap.size X1 o 111 w w6 (⟨w.heap.size, 34, .slice sS m cS, m, hs, 1⟩ :: ⟨w.heap.size, 3, .slice sn1 (q0 + 1) cn1, (q0 + 1), nats nx2 ++ [.int .i64 (y : Int)], 1⟩ :: ⟨w.heap.size, 3, .slice sF m cF, m, nats fr2, 1⟩ :: ⟨w.heap.size, 3, .slice sB m cB, m, nats bl2, 1⟩ :: []) #[.int .i64 (k : Int), .slice da np dc, .slice sS m cS, .slice sn1 (q0 + 1) cn1, .slice sF m cF, .slice sB m cB] wZ1) := Kh (by rw [hwZ1]; exact HM1.out.set 3 (.slice sn1 (q0 + 1) cn1))
        rw [← hwZ1]
        clear hwZ1 ho1 hz1 HM1 p1 f1
        go_wp2
        go_roundg (k - (a + 1))
        case measure => have := HGA.out; omega
        case rel =>
         have hzz : z = nxtT ds (L2.getD s []) a := by rw [HZ.out, HX.out]
         refine ⟨a + 1, L2, nx2 ++ [y], fr2, bl2, by have := HGA.out; omega, by go_num, ?_, HBF.out.old HBY.out (by rw [← HX.out] at hzz; rw [← hzz]; exact HMEM.out), HSL.out, HL4.out, ?_, HFR.out⟩
         ·have e1 : s * k + (a + 1) = q0 + 1 := by rw [HQ0.out]; rfl
          rw [e1, ← HML.out]
          have hb := HZ1.out
          rw [← pK, HX1.out] at hb
          exact prod_close hb HE.out HM.out HMX.out HMB.out HU.out ⟨HL.out.1, by rw [List.length_append, HL.out.2.1]; rfl, HL.out.2.2⟩ HHS.out
         ·rw [HY.out, hzz]
          exact HNX.out.push ha (by rw [← hzz]; exact HMEM.out)
       case neg =>
        have hlk : Sem.run Try.prog (Instr.lookup 129 (.map (some mb)) (.string T) true) w6 = .ok (.tuple #[.int .i64 0, .bool false]) w6 := by
         rw [numE_not hmem] at hlk0
         rw [HT.out]; exact hlk0
        have hzz : z = nxtT ds (L2.getD s []) a := by rw [HZ.out, HX.out]
        have HZZ := Kh hzz; have HMEM := Kh hmem
        by_cases h4 : m = 4000
        case pos =>
         have HOV : Hid (Over ds k) := Kh (HBF.out.over (by rw [← HML.out]; exact h4) ha HBY.out (by rw [← HX.out] at hzz; rw [← hzz]; exact hmem))
         subst h4
         clear hlk0 hzz hmem
         go_wp2
         refine bodyPost_ret (v := .tuple #[.pointer none, .bool false]) (by simp [results, Try.results57, go_sem]) rfl ?_
         exact .inl ⟨HOV.out, rfl, HP8.out.facts.1⟩
        have h4' : ¬ (m : Int) = 4000 := by omega
        clear hlk0 hzz hmem
        go_upto_region 28 with (first | (at_mapUpdate; refine jA HKB.out rfl _ _ _ rfl mb u c (numE L2) z m rfl ?k1 rfl HM.out (by have := HU.out; unfold maxLen; omega) HSZ.out (by omega) ?_; (case k1 => (show _ = Value.string (txtT (kb z)); rw [← HT.out]; rfl)); intro w8 hm8 hg8) | fail)
        obtain ⟨c9, hm9⟩ : ∃ c9, MapK 9 (Small np) (fun l => .string (txtT (kb l))) w8 mb (u + 1) c9 (numE (L2 ++ [z])) := ⟨_, by rw [← numE_snoc HMEM.out, ← HML.out]; exact hm8⟩
        obtain ⟨X, hs, sS, sN, sF, sB, cS, cN, cF, cB, hB, hE, _, hmx, hmb, hl, hhs⟩ := HP8.out.open_ hg8 hm8.obj
        obtain ⟨X1, hX1⟩ : ∃ X1, X1 = fun j => X j ∨ j = mb := ⟨_, rfl⟩
        rw [← hX1] at hB
        have HS := Kh hB; have HE := Kh hE; have HMX := Kh hmx; have HMB := Kh hmb; have HL := Kh hl; have HHS := Kh hhs; have HX1 := Kh hX1; have HM9 := Kh hm9
        have HQL : Hid (q0 ≤ 24000) := Kh (by rw [HQ0.out]; have h1 : s * k ≤ 3999 * 6 := Nat.mul_le_mul (by omega) hk6; omega)
        have hql := HQL.out
        have hm4 : m < 4000 := by omega
        clear x0 x1 x2 x3 x4 x5 hB hE hmx hmb hl hhs hX1 hm8 hm9 hg8 h4 h4' hlk HP8 HM
        have q1 := zO HS.out.box 2 (by simp)
        simp only [List.getElem_toArray, List.getElem_cons_zero, List.getElem_cons_succ] at q1
        have ho1 := HS.out.own (r := ⟨w.heap.size, 34, .slice sS m cS, m, hs, 1⟩) (by simp)
        have hz1 := Nat.le_trans HS.out.base HS.out.wk
        go_upto_region 29 with (first | (at_builtin; refine rQ rfl _ _ _ rfl qY.toN w.heap.size (.slice sS m cS) (m) (hs) rfl ho1 [.slice (some ⟨rb, 0, none⟩) np np] rfl rfl ?z1 ?z2 ?z3 ?z4 ?_; (case z1 => (intro v hv; simp only [List.mem_cons, List.not_mem_nil, or_false] at hv; subst hv; rfl)); (case z2 => (unfold maxLen; omega)); (case z3 => (show (m + 1) * 24 ≤ 140737488355328; omega)); (case z4 => exact hz1); intro sn1 cn1 wM1 hown hgM hmM; (have HM1 : Hid (BoxS w.heap.size X1 o 111 w w8 (⟨w.heap.size, 34, .slice sn1 (m + 1) cn1, (m + 1), hs ++ [.slice (some ⟨rb, 0, none⟩) np np], 1⟩ :: ⟨w.heap.size, 3, .slice sN q0 cN, q0, nats nx2, 1⟩ :: ⟨w.heap.size, 3, .slice sF m cF, m, nats fr2, 1⟩ :: ⟨w.heap.size, 3, .slice sB m cB, m, nats bl2, 1⟩ :: []) #[.int .i64 (k : Int), .slice da np dc, .slice sS m cS, .slice sN q0 cN, .slice sF m cF, .slice sB m cB] wM1) := Kh (HS.out.appAt (j := 0) rfl hown hgM hmM)); (have p1 := zO HM1.out.box 2 (by simp)); simp only [List.getElem_toArray, List.getElem_cons_zero, List.getElem_cons_succ] at p1; (have f1 := zE HM1.out.box 2); clear hown hgM hmM q1) | fail)
        obtain ⟨wZ1, hwZ1⟩ : ∃ wZ, wZ = wM1.setCell ⟨o, 2, none⟩ (.slice sn1 (m + 1) cn1) := ⟨_, rfl⟩
        have HZ1 : Hid (BoxS w.heap.size X1 o 111 w w8 (⟨w.heap.size, 34, .slice sn1 (m + 1) cn1, (m + 1), hs ++ [.slice (some ⟨rb, 0, none⟩) np np], 1⟩ :: ⟨w.heap.size, 3, .slice sN q0 cN, q0, nats nx2, 1⟩ :: ⟨w.heap.size, 3, .slice sF m cF, m, nats fr2, 1⟩ :: ⟨w.heap.size, 3, .slice sB m cB, m, nats bl2, 1⟩ :: []) #[.int .i64 (k : Int), .slice da np dc, .slice sn1 (m + 1) cn1, .slice sN q0 cN, .slice sF m cF, .slice sB m cB] wZ1) := Kh (by rw [hwZ1]; exact HM1.out.set 2 (.slice sn1 (m + 1) cn1))
        rw [← hwZ1]
        clear hwZ1 ho1 hz1 HM1 p1 f1
        have q2 := zO HZ1.out.box 4 (by simp)
        simp only [List.getElem_toArray, List.getElem_cons_zero, List.getElem_cons_succ] at q2
        have ho2 := HZ1.out.own (r := ⟨w.heap.size, 3, .slice sF m cF, m, nats fr2, 1⟩) (by simp)
        have hz2 := Nat.le_trans HZ1.out.base HZ1.out.wk
        go_upto_region 30 with (first | (at_builtin; refine rQ rfl _ _ _ rfl xP.toN w.heap.size (.slice sF m cF) (m) (nats fr2) rfl ho2 [.int .i64 (s : Int)] rfl rfl ?z1 ?z2 ?z3 ?z4 ?_; (case z1 => (intro v hv; simp only [List.mem_cons, List.not_mem_nil, or_false] at hv; subst hv; rfl)); (case z2 => (unfold maxLen; omega)); (case z3 => (show (m + 1) * 8 ≤ 140737488355328; omega)); (case z4 => exact hz2); intro sn2 cn2 wM2 hown hgM hmM; (have HM2 : Hid (BoxS w.heap.size X1 o 111 w w8 (⟨w.heap.size, 34, .slice sn1 (m + 1) cn1, (m + 1), hs ++ [.slice (some ⟨rb, 0, none⟩) np np], 1⟩ :: ⟨w.heap.size, 3, .slice sN q0 cN, q0, nats nx2, 1⟩ :: ⟨w.heap.size, 3, .slice sn2 (m + 1) cn2, (m + 1), nats fr2 ++ [.int .i64 (s : Int)], 1⟩ :: ⟨w.heap.size, 3, .slice sB m cB, m, nats bl2, 1⟩ :: []) #[.int .i64 (k : Int), .slice da np dc, .slice sn1 (m + 1) cn1, .slice sN q0 cN, .slice sF m cF, .slice sB m cB] wM2) := Kh (HZ1.out.appAt (j := 2) rfl hown hgM hmM)); (have p2 := zO HM2.out.box 4 (by simp)); simp only [List.getElem_toArray, List.getElem_cons_zero, List.getElem_cons_succ] at p2; (have f2 := zE HM2.out.box 4); clear hown hgM hmM q2) | fail)
        obtain ⟨wZ2, hwZ2⟩ : ∃ wZ, wZ = wM2.setCell ⟨o, 4, none⟩ (.slice sn2 (m + 1) cn2) := ⟨_, rfl⟩
        have HZ2 : Hid (BoxS w.heap.size X1 o 111 w w8 (⟨w.heap.size, 34, .slice sn1 (m + 1) cn1, (m + 1), hs ++ [.slice (some ⟨rb, 0, none⟩) np np], 1⟩ :: ⟨w.heap.size, 3, .slice sN q0 cN, q0, nats nx2, 1⟩ :: ⟨w.heap.size, 3, .slice sn2 (m + 1) cn2, (m + 1), nats fr2 ++ [.int .i64 (s : Int)], 1⟩ :: ⟨w.heap.size, 3, .slice sB m cB, m, nats bl2, 1⟩ :: []) #[.int .i64 (k : Int), .slice da np dc, .slice sn1 (m + 1) cn1, .slice sN q0 cN, .slice sn2 (m + 1) cn2, .slice sB m cB] wZ2) := Kh (by rw [hwZ2]; exact HM2.out.set 4 (.slice sn2 (m + 1) cn2))
        rw [← hwZ2]
        clear hwZ2 ho2 hz2 HM2 p2 f2
        have q3 := zO HZ2.out.box 5 (by simp)
        simp only [List.getElem_toArray, List.getElem_cons_zero, List.getElem_cons_succ] at q3
        have ho3 := HZ2.out.own (r := ⟨w.heap.size, 3, .slice sB m cB, m, nats bl2, 1⟩) (by simp)
        have hz3 := Nat.le_trans HZ2.out.base HZ2.out.wk
        go_upto_region 31 with (first | (at_builtin; refine rQ rfl _ _ _ rfl xP.toN w.heap.size (.slice sB m cB) (m) (nats bl2) rfl ho3 [.int .i64 (a : Int)] rfl rfl ?z1 ?z2 ?z3 ?z4 ?_; (case z1 => (intro v hv; simp only [List.mem_cons, List.not_mem_nil, or_false] at hv; subst hv; rfl)); (case z2 => (unfold maxLen; omega)); (case z3 => (show (m + 1) * 8 ≤ 140737488355328; omega)); (case z4 => exact hz3); intro sn3 cn3 wM3 hown hgM hmM; (have HM3 : Hid (BoxS w.heap.size X1 o 111 w w8 (⟨w.heap.size, 34, .slice sn1 (m + 1) cn1, (m + 1), hs ++ [.slice (some ⟨rb, 0, none⟩) np np], 1⟩ :: ⟨w.heap.size, 3, .slice sN q0 cN, q0, nats nx2, 1⟩ :: ⟨w.heap.size, 3, .slice sn2 (m + 1) cn2, (m + 1), nats fr2 ++ [.int .i64 (s : Int)], 1⟩ :: ⟨w.heap.size, 3, .slice sn3 (m + 1) cn3, (m + 1), nats bl2 ++ [.int .i64 (a : Int)], 1⟩ :: []) #[.int .i64 (k : Int), .slice da np dc, .slice sn1 (m + 1) cn1, .slice sN q0 cN, .slice sn2 (m + 1) cn2, .slice sB m cB] wM3) := Kh (HZ2.out.appAt (j := 3) rfl hown hgM hmM)); (have p3 := zO HM3.out.box 5 (by simp)); simp only [List.getElem_toArray, List.getElem_cons_zero, List.getElem_cons_succ] at p3; (have f3 := zE HM3.out.box 5); clear hown hgM hmM q3) | fail)
        obtain ⟨wZ3, hwZ3⟩ : ∃ wZ, wZ = wM3.setCell ⟨o, 5, none⟩ (.slice sn3 (m + 1) cn3) := ⟨_, rfl⟩
        have HZ3 : Hid (BoxS w.heap.size X1 o 111 w w8 (⟨w.heap.size, 34, .slice sn1 (m + 1) cn1, (m + 1), hs ++ [.slice (some ⟨rb, 0, none⟩) np np], 1⟩ :: ⟨w.heap.size, 3, .slice sN q0 cN, q0, nats nx2, 1⟩ :: ⟨w.heap.size, 3, .slice sn2 (m + 1) cn2, (m + 1), nats fr2 ++ [.int .i64 (s : Int)], 1⟩ :: ⟨w.heap.size, 3, .slice sn3 (m + 1) cn3, (m + 1), nats bl2 ++ [.int .i64 (a : Int)], 1⟩ :: []) #[.int .i64 (k : Int), .slice da np dc, .slice sn1 (m + 1) cn1, .slice sN q0 cN, .slice sn2 (m + 1) cn2, .slice sn3 (m + 1) cn3] wZ3) := Kh (by rw [hwZ3]; exact HM3.out.set 5 (.slice sn3 (m + 1) cn3))
        rw [← hwZ3]
        clear hwZ3 ho3 hz3 HM3 p3 f3
        have q4 := zO HZ3.out.box 3 (by simp)
        simp only [List.getElem_toArray, List.getElem_cons_zero, List.getElem_cons_succ] at q4
        have ho4 := HZ3.out.own (r := ⟨w.heap.size, 3, .slice sN q0 cN, q0, nats nx2, 1⟩) (by simp)
        have hz4 := Nat.le_trans HZ3.out.base HZ3.out.wk
        go_upto_region 32 with (first | (at_builtin; refine rQ rfl _ _ _ rfl xP.toN w.heap.size (.slice sN q0 cN) (q0) (nats nx2) rfl ho4 [.int .i64 (m : Int)] rfl rfl ?z1 ?z2 ?z3 ?z4 ?_; (case z1 => (intro v hv; simp only [List.mem_cons, List.not_mem_nil, or_false] at hv; subst hv; rfl)); (case z2 => (unfold maxLen; omega)); (case z3 => (show (q0 + 1) * 8 ≤ 140737488355328; omega)); (case z4 => exact hz4); intro sn4 cn4 wM4 hown hgM hmM; (have HM4 : Hid (BoxS w.heap.size X1 o 111 w w8 (⟨w.heap.size, 34, .slice sn1 (m + 1) cn1, (m + 1), hs ++ [.slice (some ⟨rb, 0, none⟩) np np], 1⟩ :: ⟨w.heap.size, 3, .slice sn4 (q0 + 1) cn4, (q0 + 1), nats nx2 ++ [.int .i64 (m : Int)], 1⟩ :: ⟨w.heap.size, 3, .slice sn2 (m + 1) cn2, (m + 1), nats fr2 ++ [.int .i64 (s : Int)], 1⟩ :: ⟨w.heap.size, 3, .slice sn3 (m + 1) cn3, (m + 1), nats bl2 ++ [.int .i64 (a : Int)], 1⟩ :: []) #[.int .i64 (k : Int), .slice da np dc, .slice sn1 (m + 1) cn1, .slice sN q0 cN, .slice sn2 (m + 1) cn2, .slice sn3 (m + 1) cn3] wM4) := Kh (HZ3.out.appAt (j := 1) rfl hown hgM hmM)); (have p4 := zO HM4.out.box 3 (by simp)); simp only [List.getElem_toArray, List.getElem_cons_zero, List.getElem_cons_succ] at p4; (have f4 := zE HM4.out.box 3); clear hown hgM hmM q4) | fail)
        obtain ⟨wZ4, hwZ4⟩ : ∃ wZ, wZ = wM4.setCell ⟨o, 3, none⟩ (.slice sn4 (q0 + 1) cn4) := ⟨_, rfl⟩
        have HZ4 : Hid (BoxS w.heap.size X1 o 111 w w8 (⟨w.heap.size, 34, .slice sn1 (m + 1) cn1, (m + 1), hs ++ [.slice (some ⟨rb, 0, none⟩) np np], 1⟩ :: ⟨w.heap.size, 3, .slice sn4 (q0 + 1) cn4, (q0 + 1), nats nx2 ++ [.int .i64 (m : Int)], 1⟩ :: ⟨w.heap.size, 3, .slice sn2 (m + 1) cn2, (m + 1), nats fr2 ++ [.int .i64 (s : Int)], 1⟩ :: ⟨w.heap.size, 3, .slice sn3 (m + 1) cn3, (m + 1), nats bl2 ++ [.int .i64 (a : Int)], 1⟩ :: []) #[.int .i64 (k : Int), .slice da np dc, .slice sn1 (m + 1) cn1, .slice sn4 (q0 + 1) cn4, .slice sn2 (m + 1) cn2, .slice sn3 (m + 1) cn3] wZ4) := Kh (by rw [hwZ4]; exact HM4.out.set 3 (.slice sn4 (q0 + 1) cn4))
        rw [← hwZ4]
        clear hwZ4 ho4 hz4 HM4 p4 f4
        go_wp2
        go_roundg (k - (a + 1))
        case measure => have := HGA.out; omega
        case rel =>
         refine ⟨a + 1, L2 ++ [z], nx2 ++ [m], fr2 ++ [s], bl2 ++ [a], by have := HGA.out; omega, by go_num, ?_, ?_, by rw [List.length_append]; have := HSL.out; omega, by rw [List.length_append, ← HML.out]; show m + 1 ≤ 4000; omega, ?_, ?_⟩
         ·have e1 : s * k + (a + 1) = q0 + 1 := by rw [HQ0.out]; rfl
          have e2 : (L2 ++ [z]).length = m + 1 := by rw [List.length_append, ← HML.out]; rfl
          rw [e1, e2]
          have hb := HZ4.out
          rw [← pK, ← pK, ← pK, HX1.out] at hb
          exact prod_close hb HE.out HM9.out HMX.out HMB.out (by have := HU.out; omega) ⟨e2, by rw [List.length_append, HL.out.2.1]; rfl, by rw [List.length_append, HL.out.2.2.1]; rfl, by rw [List.length_append, HL.out.2.2.2]; rfl⟩ (by rw [List.length_append, HHS.out]; rfl)
         ·have h1 := HBF.out.new ha HBY.out (by rw [HX.out, ← HZZ.out]; exact HMEM.out)
          rw [HX.out, ← HZZ.out] at h1
          exact h1
         ·have h1 := HNX.out.pushNew HSL.out ha (by rw [← HZZ.out]; exact HMEM.out)
          rw [← HZZ.out, ← HML.out] at h1
          exact h1
         ·have h1 := HFR.out.push HSL.out ha
          rw [← HZZ.out] at h1
          exact h1
end Go.Proofs.Ytjfdomfendbhfaa
