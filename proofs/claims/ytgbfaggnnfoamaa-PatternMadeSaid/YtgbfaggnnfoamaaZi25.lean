/- Part 25 of the proof: Trim. -/
import Derived.Test.YtgbfaggnnfoamaaZi24
set_option linter.unusedVariables false
set_option linter.unusedSimpArgs false
namespace Go.Proofs.Ytgbfaggnnfoamaa
open Go.RowKit
def vJ (n : Nat) (l : List Nat) : List Int := (List.range n).map fun q => uG l q
theorem xU (n : Nat) (l : List Nat) : (vJ n l).length = n := by simp [vJ]
theorem lU {n : Nat} {l : List Nat} {q : Nat} (h : q < n) : (vJ n l).getD q 0 = uG l q := by
 rw [zI (by rw [xU]; exact h)]; simp [vJ]
theorem lT (n : Nat) : vJ n [] = List.replicate n (-1) := by
 refine List.ext_getElem (by simp [vJ]) fun i h1 h2 => by simp [vJ, uG]
theorem lS {n : Nat} {l : List Nat} {q : Nat} (hq : q ∉ l) : (vJ n l).set q (l.length : Int) = vJ n (l ++ [q]) := by
 refine List.ext_getElem (by simp [vJ]) fun i h1 h2 => ?_
 rw [List.getElem_set]
 simp only [vJ, List.getElem_map, List.getElem_range, uG]
 by_cases e : q = i
 ·subst e
  rw [if_pos rfl, if_pos (by simp), List.idxOf_append, if_neg hq]; simp
 ·rw [if_neg e]
  by_cases hi : i ∈ l
  ·rw [if_pos hi, if_pos (by simp [hi]), List.idxOf_append, if_pos hi]
  ·rw [if_neg hi, if_neg (by simp [hi, Ne.symm e])]
def oS (n k : Nat) : List Int := List.replicate k (-1) ++ List.replicate (n - k) 0
theorem tI {n k : Nat} (h : k ≤ n) : (oS n k).length = n := by simp [oS]; omega
theorem fillM_set {n k : Nat} (h : k < n) : (oS n k).set k (-1) = oS n (k + 1) := by
 unfold oS
 rw [List.set_append_right _ _ (by simp), List.length_replicate, Nat.sub_self, show n - k = (n - (k + 1)) + 1 by omega, List.replicate_succ, List.set_cons_zero, List.replicate_succ', List.append_assoc]
 rfl
def TrimOk (w : World) (m : DfaV) (e : Ending) (w' : World) : Prop := ∃ v p, e = .returned (.tuple #[v, p]) ∧ uK w w' v m ∧ w.grownBy w' none
def sM (d : DfaV) (l : List Nat) (i : Nat) : List Bool := (l.take i).map fun q => d.final.getD q false
def sL (d : DfaV) (l : List Nat) (i : Nat) : List (List Int) := (l.take i).map fun q => yU l (d.next.getD q [])
theorem trimFs_succ {d : DfaV} {l : List Nat} {i : Nat} (h : i < l.length) : sM d l (i + 1) = sM d l i ++ [d.final.getD (l.getD i 0) false] := by
 simp only [sM, zY (d := 0) h, List.map_append, List.map_cons, List.map_nil]
theorem trimTs_succ {d : DfaV} {l : List Nat} {i : Nat} (h : i < l.length) : sL d l (i + 1) = sL d l i ++ [yU l (d.next.getD (l.getD i 0) [])] := by
 simp only [sL, zY (d := 0) h, List.map_append, List.map_cons, List.map_nil]
theorem trimFs_length {d : DfaV} {l : List Nat} {i : Nat} (h : i ≤ l.length) : (sM d l i).length = i := by simp [sM]; omega
theorem trimTs_length {d : DfaV} {l : List Nat} {i : Nat} (h : i ≤ l.length) : (sL d l i).length = i := by simp [sL]; omega
theorem trimRow_get {d : DfaV} {n k : Nat} (hd : VD d n k) {l : List Nat} {q a : Nat} (hq : q < n) (ha : a < k) : (yU l (d.next.getD q [])).getD a 0 = uG l (nx d q a) := by
 rw [yU, vD (x := 0) (by rw [hd.row q hq]; exact ha)]
 rfl
theorem qL {d : DfaV} {n k : Nat} (hd : VD d n k) {l : List Nat} {q : Nat} (hq : q < n) : (yU l (d.next.getD q [])).length = k := by rw [yU, List.length_map, hd.row q hq]
theorem ints_snoc (l : List Int) (x : Int) : ints (l ++ [x]) = ints l ++ [.int .i64 x] := by simp [ints]
set_option maxRecDepth 100000 in
set_option maxHeartbeats 2000000 in
theorem trim_any (B : Nat) (w : World) (v : Value) (d : DfaV) (n k : Nat) (hB : B ≤ w.heap.size) (h : vR B w v d) (hd : VD d n k) :
  Calls Try.prog 70 #[v] w (TrimOk w (yW d k)) := by
 have hdok := h
 obtain ⟨fb, fo, fc, b, off, cap, RB, RO, RC, rfl, hat⟩ := h.at hd
 have hn := hd.hn
 have hn1 := hd.n1
 have hnbig := hd.nbig
 have hk6 := hd.k6
 have hk1 := hd.k1
 have hfc := hat.fcap.1
 have hfc2 := hat.fcap.2
 have hcp := hat.cap.1
 have hcp2 := hat.cap.2
 have hmx1 : fc ≤ 9223372036854775807 := by unfold maxLen at hfc2; omega
 have hmx2 : cap ≤ 9223372036854775807 := by unfold maxLen at hcp2; omega
 obtain ⟨S, hS⟩ : ∃ S, S = st0 d := ⟨_, rfl⟩
 have HSE := Kh hS
 have hvd : dAgg k (st0 d) fb fo fc b off cap n = .agg #[.int .i64 (k : Int), .int .i64 (S : Int), .slice (some ⟨fb, fo, none⟩) n fc, .slice (some ⟨b, off, none⟩) n cap] := by rw [hS]; rfl
 rw [hvd] at hdok ⊢
 obtain ⟨hb1, hb2, hgA, hzA⟩ := uR w #[.int .i64 (k : Int), .int .i64 (S : Int), .slice (some ⟨fb, fo, none⟩) n fc, .slice (some ⟨b, off, none⟩) n cap] #[.int .i64 0, .int .i64 0, .slice none 0 0, .slice none 0 0] 49
 obtain ⟨wA, hWA⟩ : ∃ wA, wA = (w.alloc (.cells #[.int .i64 (k : Int), .int .i64 (S : Int), .slice (some ⟨fb, fo, none⟩) n fc, .slice (some ⟨b, off, none⟩) n cap] 49)).alloc (.cells #[.int .i64 0, .int .i64 0, .slice none 0 0, .slice none 0 0] 49) := ⟨_, rfl⟩
 rw [← hWA] at hb1 hb2 hgA hzA
 obtain ⟨c0, c1, c2, c3⟩ := zG hb1
 obtain ⟨P, hP⟩ : ∃ P, P = w.heap.size := ⟨_, rfl⟩
 have HPE := Kh hP
 rw [← hP] at hb1 hb2 c0 c1 c2 c3 hzA hB
 have HB1 := Kh hb1; have HB2 := Kh hb2; have HGA := Kh hgA; have HWA := Kh hWA; have HAT := Kh (hat.kept hgA (by simp)); have HN := Kh hn; have HD := Kh hd
 have HAC := Kh (access_any B wA _ d n k (by omega) (hdok.kept hgA (by simp)) hd)
 clear hb1 hb2 hgA hWA hat hn hd h hdok hvd hfc2 hcp2 hS
 go_enter Try.func70, Try.ntmps70
 go_upto_region 1 with fail
 rw [← HWA.out, ← HPE.out]
 clear hP
 go_wp2_with fail
 refine HAC.out.mono ?_
 rintro e w1 ⟨sa, sc, vw, rfl, hown1, hg1⟩
 obtain ⟨hacc, hln⟩ := yT HD.out
 obtain ⟨l, hl⟩ : ∃ l, l = zP d k := ⟨_, rfl⟩
 have HL := Kh hl
 rw [← hl] at hown1 hacc hln ⊢
 have hl0 := hacc.hd.1
 obtain ⟨gl, rfl, hlc, hlm, harl⟩ := tV hown1 hl0
 have hgl := (hown1.lt gl rfl).1
 have HAL := Kh harl; have HG1 := Kh hg1; have HACC := Kh hacc
 have hz1 := hg1.size
 obtain ⟨d0, d1, d2, d3⟩ := zG (zA HB1.out hg1 (by simp))
 clear hl hown1 harl hg1 hacc HAC c0 c1 c2 c3
 go_wp2_with (first | (at_make; refine pV rfl _ _ _ rfl xI rfl .i64 .i64 _ _ n rfl rfl rfl rfl ?b1 ?b2 ?_; (case b1 => omega); (case b2 => (unfold maxLen; omega)); intro w2 harr hg2 hlt2) | fail)
 obtain ⟨G, hG⟩ : ∃ G, G = w1.heap.size := ⟨_, rfl⟩
 rw [← hG] at harr hlt2 ⊢
 have HA2 := Kh harr; have HG2 := Kh hg2; have HGE := Kh hG
 have hGP : P + 1 < G := by omega
 clear harr hg2 hG d0 d1 d2 d3
 go_loopg [7, 27] n (fun gh a7 i wr => ∃ q : Nat, gh + q = n ∧ i = .int .i64 q ∧ Arr wr G 3 (ints (oS n q)) ∧ w1.grownBy wr none)
 case atStart => exact ⟨0, rfl, rfl, by simpa [oS, tO] using HA2.out, HG2.out⟩
 case round =>
  clear HA2 HG2
  obtain ⟨q, hg, rfl, harr, hgr⟩ := hrel
  have HG := Kh hg; have HA := Kh harr; have HGR := Kh hgr
  clear hg
  by_cases hq : q < n
  ·have hq' : (q : Int) < n := by omega
   have cgk := harr.int q (by rw [tI (by omega)]; exact hq)
   have fgk := harr.frozen q
   have HS := Kh (fillM_set hq)
   clear harr hgr
   go_wp2
   go_roundg (n - (q + 1))
   case measure => have := HG.out; omega
   case rel =>
    refine ⟨q + 1, by omega, by go_num, ?_, zB HGR.out (zC wr ⟨G, q, none⟩ _) (fun q e => by have h7 : G = q := Option.some.inj e; have := HGE.out; omega)⟩
    rw [← HS.out]
    exact HA.out.int_set q (by rw [tI (by omega)]; exact hq) (-1)
  ·have hqn : q = n := by have := HG.out; omega
   have HF : Hid (oS n q = vJ n (l.take 0)) := Kh (by rw [hqn, List.take_zero, lT]; simp [oS])
   rw [HF.out] at HA
   have HGR2 := HGR
   clear hqn harr hgr HG
   obtain ⟨w3, rfl⟩ : ∃ w3 : World, w3 = wr := ⟨_, rfl⟩
   go_wp2
   go_loopg [8, 9, 36] l.length (fun gh a8 a9 i wr => ∃ q : Nat, gh + q = l.length ∧ i = .int .i64 q ∧ Arr wr G 3 (ints (vJ n (l.take q))) ∧ w1.grownBy wr none)
   case atStart => exact ⟨0, rfl, rfl, HA.out, HGR.out⟩
   case round =>
    clear HA HGR HF
    obtain ⟨q, hg, rfl, harr, hgr⟩ := hrel
    have HG := Kh hg; have HA := Kh harr; have HGR := Kh hgr
    clear hg
    by_cases hq : q < l.length
    ·have hq' : (q : Int) < l.length := by omega
     have cl := (HAL.out.kept hgr (by simp)).nat q hq
     have hsn : l.getD q 0 < n := HACC.out.lt _ (by rw [zI hq]; exact List.getElem_mem _)
     have hst : l.take (q + 1) = l.take q ++ [l.getD q 0] := zY hq
     have hnot : l.getD q 0 ∉ l.take q := by
      have h1 := HACC.out.nd
      have h2 : (l.take (q + 1)).Nodup := h1.sublist (List.take_sublist _ _)
      rw [hst, List.nodup_append] at h2
      exact fun hm => h2.2.2 _ hm _ (by simp) rfl
     obtain ⟨s, hs⟩ : ∃ s, s = l.getD q 0 := ⟨_, rfl⟩
     rw [← hs] at cl hsn hst hnot
     have hsn' : (s : Int) < n := by omega
     have cgk := harr.int s (by rw [xU]; exact hsn)
     have fgk := harr.frozen s
     have HS : Hid ((vJ n (l.take q)).set s (q : Int) = vJ n (l.take (q + 1))) := Kh (by
      have := lS (n := n) hnot
      rw [List.length_take, Nat.min_eq_left (by omega)] at this
      rw [this, hst])
     clear harr hgr hst hnot hs
     go_wp2
     go_roundg (l.length - (q + 1))
     case measure => have := HG.out; omega
     case rel =>
      refine ⟨q + 1, by omega, by go_num, ?_, zB HGR.out (zC wr ⟨G, s, none⟩ _) (fun q e => by have h7 : G = q := Option.some.inj e; have := HGE.out; omega)⟩
      rw [← HS.out]
      exact HA.out.int_set s (by rw [xU]; exact hsn) (q : Int)
    ·have hql : q = l.length := by have := HG.out; omega
     have hpl : l.take q = l := by rw [hql]; exact List.take_length
     rw [hpl] at HA harr
     have HPL := Kh harr; have HGR3 := Kh hgr
     clear hql hpl harr HA HG hgr HGR2
     obtain ⟨w4, rfl⟩ : ∃ w4 : World, w4 = wr := ⟨_, rfl⟩
     obtain ⟨d0, d1, d2, d3⟩ := zG (zA (zA HB1.out HG1.out (by simp)) HGR3.out (by simp))
     go_upto_region 14 with fail
     obtain ⟨O, hO⟩ : ∃ O, O = w4.heap.size := ⟨_, rfl⟩
     obtain ⟨w6, hw6⟩ : ∃ w6, w6 = w4.alloc (.cells #[.int .i64 (k : Int), .int .i64 0, .slice none 0 0, .slice none 0 0] 49) := ⟨_, rfl⟩
     rw [← hw6, ← hO]
     have hg46 : w4.grownBy w6 none := by rw [hw6]; exact World.grownBy_alloc w4 _ none
     have hbO : w6.heap[O]? = some (.cells #[.int .i64 (k : Int), .int .i64 0, .slice none 0 0, .slice none 0 0] 49 (0, 0)) := by rw [hw6, hO]; exact heap_alloc_new w4 _
     have hB6 : Built O w6 O k 0 [] [] [] none 0 none 0 := ⟨hbO, World.ownsRow_nil _ _ _ _, World.ownsRow_nil _ _ _ _, uF.nil, rfl⟩
     have HB6 := Kh hB6; have HG46 := Kh hg46; have HOE := Kh hO
     have hGO : G < O := by rw [hO]; have := HPL.out.lt; omega
     have hPO : P + 1 < O := by omega
     have hz46 := hg46.size
     clear d0 d1 d2 d3 hbO hB6 hg46 hw6 hO
     go_wp2
     go_loopg [51] l.length (fun gh i wr => ∃ (i' : Nat) (hs : List Value) (sf : Option Addr) (cf : Nat) (sn : Option Addr) (cn : Nat), gh + i' = l.length ∧ i = .int .i64 i' ∧ Built O wr O k 0 (sM d l i') (sL d l i') hs sf cf sn cn ∧ w4.grownBy wr (some O))
     case atStart => exact ⟨0, [], none, 0, none, 0, rfl, rfl, HB6.out, yY HG46.out⟩
     case round =>
      clear HB6 HG46
      obtain ⟨i, hs, sf, cf, sn, cn, hg, rfl, hbt, hgr⟩ := hrel
      have HGI := Kh hg
      have HBT0 := Kh hbt; have HGR := Kh hgr
      have hzr := hgr.size
      clear hg
      by_cases hi : i < l.length
      ·have hi' : (i : Int) < l.length := by omega
       have hP1 : O ≠ P := by omega
       have hgl2 : O ≠ gl := by have := HAL.out.lt; have := HGE.out; omega
       have hgall : ∀ x, Hid (x < w4.heap.size → x ≠ O) := fun x => Kh (fun h e => by have := HOE.out; omega)
       have cl := ((HAL.out.kept HGR3.out (by simp)).kept hgr (fun e => hgl2 (Option.some.inj e))).nat i hi
       have hq0 : l.getD i 0 < n := HACC.out.lt _ (by rw [zI hi]; exact List.getElem_mem _)
       have HFS := Kh (trimFs_succ (d := d) hi); have HTS := Kh (trimTs_succ (d := d) hi)
       have hfl := trimFs_length (d := d) (Nat.le_of_lt hi)
       have htl := trimTs_length (d := d) (Nat.le_of_lt hi)
       obtain ⟨q0, hqe⟩ : ∃ q0, q0 = l.getD i 0 := ⟨_, rfl⟩
       rw [← hqe] at cl hq0 HFS HTS
       have hq0' : (q0 : Int) < n := by omega
       have hBO : B ≤ O := by omega
       have hA := ((HAT.out.kept HG1.out (by simp)).kept HGR3.out (by simp)).kept hgr (fun k e => by have := Option.some.inj e; omega)
       have ch := hA.hd q0 hq0
       obtain ⟨d0, d1, d2, d3⟩ := zG (zA (zA (zA HB1.out HG1.out (by simp)) HGR3.out (by simp)) hgr (fun e => hP1 (Option.some.inj e)))
       obtain ⟨wo, rfl⟩ : ∃ wo : World, wo = wr := ⟨_, rfl⟩
       have HAO := Kh hA
       clear hA hbt hgr hqe
       go_wp2
       go_loopg [13, 61] k (fun gh ov i wr => ∃ (a : Nat) (sr : Option Addr) (cr : Nat), gh + a = k ∧ i = .int .i64 a ∧ ov = .slice sr a cr ∧ wr.ownsRow wo.heap.size 3 1 (.slice sr a cr) a (ints ((yU l (d.next.getD q0 [])).take a)) ∧ wo.grownBy wr none)
       case atStart => exact ⟨0, none, 0, rfl, rfl, rfl, by simpa [ints] using World.ownsRow_nil _ _ _ _, zO _ _⟩
       case round =>
        obtain ⟨a, sr, cr, hg, rfl, rfl, hown, hgr⟩ := hrel
        have HGQ := Kh hg; have HOWN := Kh hown; have HGRQ := Kh hgr
        clear hg hown d0 d1 d2 d3
        by_cases ha : a < k
        ·have ha' : (a : Int) < k := by omega
         have hA := HAO.out.kept hgr (by simp)
         have ce := hA.el q0 a hq0 ha
         have hrc := (hA.rcap q0 hq0).1
         have hnx := qI HD.out hq0 ha
         have cp := (((HPL.out.kept HGR.out (fun e => by have := Option.some.inj e; omega)).kept hgr (by simp))).int (nx d q0 a) (by rw [xU]; exact hnx)
         rw [lU hnx] at cp
         have HRT : Hid ((yU l (d.next.getD q0 [])).take (a + 1) = (yU l (d.next.getD q0 [])).take a ++ [uG l (nx d q0 a)]) := Kh (by
          rw [zY (d := 0) (by rw [qL HD.out hq0]; exact ha), trimRow_get HD.out hq0 ha])
         obtain ⟨s, hs⟩ : ∃ s, s = nx d q0 a := ⟨_, rfl⟩
         rw [← hs] at ce hnx cp HRT
         obtain ⟨c, hc⟩ : ∃ c, c = uG l s := ⟨_, rfl⟩
         rw [← hc] at cp HRT
         have hgs := hgr.size
         have hnx' : (s : Int) < n := by omega
         clear hA hs hc hgr
         go_wp2_with (first | (at_builtin; refine app1 rfl _ _ _ rfl xI wo.heap.size _ a (ints ((yU l (d.next.getD q0 [])).take a)) rfl HOWN.out _ rfl rfl ?c1 ?c2 ?c3 ?_) | fail)
         case c1 => unfold maxLen; omega
         case c2 => omega
         case c3 => exact hgs
         intro sa' sc' w6 hown6 hg6 hlt6
         have HO6 := Kh hown6; have HG6 := Kh hg6
         clear hown6 hg6
         go_wp2
         go_roundg (k - (a + 1))
         case measure => have := HGQ.out; omega
         case rel =>
          refine ⟨a + 1, sa', sc', by omega, by go_num, rfl, ?_, zB HGRQ.out HG6.out (fun q e => (HOWN.out.lt q e).1)⟩
          rw [HRT.out, ints_snoc]
          exact HO6.out
        ·have hak : a = k := by have := HGQ.out; omega
         have hrk : (yU l (d.next.getD q0 [])).take a = yU l (d.next.getD q0 []) := by rw [hak, ← qL HD.out (l := l) hq0]; exact List.take_length
         rw [hrk] at HOWN
         obtain ⟨w5, hw5⟩ : ∃ w5, w5 = wr.drew := ⟨_, rfl⟩
         have HW5 := Kh hw5
         have hg5 : wr.grownBy w5 none := by rw [hw5]; exact zX wr none
         have HBT := Kh ((HBT0.out.grow hgr).grow hg5)
         have HROW : Hid (RowT w5.heap.size 3 w5 (.slice sr a cr) (ints (yU l (d.next.getD q0 [])))) := Kh (RowT.of_owns (yQ HOWN.out hg5 (by simp)))
         have HG5 := Kh (zE HGR.out (yY (zE hgr hg5) (row := some O)))
         have hBX := HBT.out.box
         have HBX5 := Kh hBX; have HNB := Kh HBT.out.notbox
         have hz5 : O ≤ w5.heap.size := by have := hgr.size; have := hg5.size; have := HOE.out; omega
         have cq := (((HAO.out.kept hgr (by simp)).kept hg5 (by simp))).fin hq0
         obtain ⟨_, _, d2, _⟩ := zG (zA (zA (zA (zA (zA HB1.out HG1.out (by simp)) HGR3.out (by simp)) HGR.out (fun e => hP1 (Option.some.inj e))) hgr (by simp)) hg5 (by simp))
         have hfw := HAO.out.flt
         have hfO : O ≠ fb := by omega
         obtain ⟨bq, hbq⟩ : ∃ bq, bq = d.final.getD q0 false := ⟨_, rfl⟩
         rw [← hbq] at cq HFS
         obtain ⟨fsl, hfsl⟩ : ∃ x, x = sM d l i := ⟨_, rfl⟩
         obtain ⟨tsl, htsl⟩ : ∃ x, x = sL d l i := ⟨_, rfl⟩
         rw [← hfsl] at HBT HBX5 HFS hfl
         rw [← htsl] at HBT HBX5 HTS htl
         have HFL := Kh hfl; have HTL := Kh htl
         obtain ⟨m, hm⟩ : ∃ m, m = i := ⟨_, rfl⟩
         rw [← hm] at hfl htl
         have HTL2 := Kh htl
         have hM0 := HBT.out.many
         have hM : Many w5 (FB sf sn) w5 [⟨O, 30, .slice sn m cn, m, hs, 1⟩, ⟨O, 4, .slice sf m cf, m, bls fsl, 1⟩] [] [] := by
          have h1 := hM0
          simp only [rN, rF, hfl, htl] at h1
          exact h1
         have HAF : Hid (∀ W : World, (W.cell? ⟨P, 2, none⟩ = some (.slice (some ⟨fb, fo, none⟩) n fc) ∧ W.cell? ⟨fb, fo + q0, none⟩ = some (.bool bq)) → ∀ (c : Nat) (X : Value), (W.setCell ⟨O, c, none⟩ X).cell? ⟨P, 2, none⟩ = some (.slice (some ⟨fb, fo, none⟩) n fc) ∧ (W.setCell ⟨O, c, none⟩ X).cell? ⟨fb, fo + q0, none⟩ = some (.bool bq)) := Kh (fun W h c X =>
          ⟨by rw [World.cell?_setCell_far W ⟨O, c, none⟩ ⟨P, 2, none⟩ X hP1]; exact h.1, by rw [World.cell?_setCell_far W ⟨O, c, none⟩ ⟨fb, fo + q0, none⟩ X hfO]; exact h.2⟩)
         have HAB : Hid (∀ W rs ls, Many w5 (FB sf sn) W rs ls [] → (W.cell? ⟨P, 2, none⟩ = some (.slice (some ⟨fb, fo, none⟩) n fc) ∧ W.cell? ⟨fb, fo + q0, none⟩ = some (.bool bq)) ∧ (W.cell? ⟨O, 3, none⟩ = some (.slice sn m cn) ∧ W.cell? ⟨O, 2, none⟩ = some (.slice sf m cf))) := Kh (fun W rs ls h => by
          have hge := HBT.out.ge
          have hb := h.but.heap HBX5.out HNB.out
          rw [hfl, htl] at hb
          obtain ⟨_, _, e2, e3⟩ := zG hb
          exact ⟨⟨h.but.cell d2 (fun hf => by have := hge _ hf; simp only at this; omega), h.but.cell cq (fun hf => by have := hge _ hf; simp only at this; omega)⟩, e3, e2⟩)
         rw [hfl, htl] at HBX5
         have hmi : Hid (m = i) := Kh hm
         have hm9 : m ≤ 4194304 := by omega
         clear hM0 hBX hrk hak hw5 hg5 hgr hbq hfsl htsl hm hfl htl cl ch hgall d2 cq
         go_upto_region 23 with fail
         refine wp_region_noPanic ?_
         refine oE (G := tY 15 (fun W => W.cell? ⟨P, 2, none⟩ = some (.slice (some ⟨fb, fo, none⟩) n fc) ∧ W.cell? ⟨fb, fo + q0, none⟩ = some (.bool bq)) (fun W => W.cell? ⟨O, 3, none⟩ = some (.slice sn m cn) ∧ W.cell? ⟨O, 2, none⟩ = some (.slice sf m cf))) (by kernel_rfl) ?_
         rw [← HW5.out]
         refine takeC (i := 0) (v := ?_) rfl rfl (Or.inl ⟨by rfl, ?_⟩) ⟨(HAB.out _ _ _ hM).1, fun _ => (HAB.out _ _ _ hM).2⟩ ?_
         rotate_left
         ·(intro wz hz; (try dsimp only at hz); go_simp; (try with_reducible rfl))
         try simp only [Act.put, sPa, sPb, sPc]
         refine takeD (i := 1) (v := ?_) rfl rfl (Or.inl ⟨by rfl, ?_⟩) ⟨(HAB.out _ _ _ hM).1, fun _ => (HAB.out _ _ _ hM).2⟩ ?_
         rotate_left
         ·(intro wz hz; (try dsimp only at hz); go_simp; (try with_reducible rfl))
         try simp only [Act.put, sPa, sPb, sPc]
         refine takeC (i := 2) (v := ?_) rfl rfl (Or.inl ⟨by rfl, ?_⟩) ⟨(HAB.out _ _ _ hM).1, fun _ => (HAB.out _ _ _ hM).2⟩ ?_
         rotate_left
         ·(intro wz hz; (try dsimp only at hz); go_simp; (try with_reducible rfl))
         try simp only [Act.put, sPa, sPb, sPc]
         refine takeC (i := 5) (v := ?_) rfl rfl (Or.inl ⟨by rfl, ?_⟩) ⟨(HAB.out _ _ _ hM).1, fun _ => (HAB.out _ _ _ hM).2⟩ ?_
         rotate_left
         ·(intro wz hz; (try dsimp only at hz); go_simp; (try with_reducible rfl))
         try simp only [Act.put, sPa, sPb, sPc]
         refine takeD (i := 6) (v := ?_) rfl rfl (Or.inl ⟨by rfl, ?_⟩) ⟨(HAB.out _ _ _ hM).1, fun _ => (HAB.out _ _ _ hM).2⟩ ?_
         rotate_left
         ·(intro wz hz; (try dsimp only at hz); go_simp; (try with_reducible rfl))
         try simp only [Act.put, sPa, sPb, sPc]
         refine takeC (i := 7) (v := ?_) rfl rfl (Or.inl ⟨by rfl, ?_⟩) ⟨(HAB.out _ _ _ hM).1, fun _ => (HAB.out _ _ _ hM).2⟩ ?_
         rotate_left
         ·(intro wz hz; (try dsimp only at hz); go_simp; (try with_reducible rfl))
         try simp only [Act.put, sPa, sPb, sPc]
         refine takeC (i := 8) (v := ?_) rfl rfl (Or.inl ⟨by rfl, ?_⟩) ⟨(HAB.out _ _ _ hM).1, fun _ => (HAB.out _ _ _ hM).2⟩ ?_
         rotate_left
         ·(intro wz hz; (try dsimp only at hz); go_simp; (try with_reducible rfl))
         try simp only [Act.put, sPa, sPb, sPc]
         refine takeC (i := 9) (v := ?_) rfl rfl (Or.inl ⟨by rfl, ?_⟩) ⟨(HAB.out _ _ _ hM).1, fun _ => (HAB.out _ _ _ hM).2⟩ ?_
         rotate_left
         ·(intro wz hz; (try dsimp only at hz); go_simp; (try with_reducible rfl))
         try simp only [Act.put, sPa, sPb, sPc]
         refine takeC (i := 10) (v := ?_) rfl rfl (Or.inl ⟨by rfl, ?_⟩) ⟨(HAB.out _ _ _ hM).1, fun _ => (HAB.out _ _ _ hM).2⟩ ?_
         rotate_left
         ·(intro wz hz; (try dsimp only at hz); go_simp; (try with_reducible rfl))
         try simp only [Act.put, sPa, sPb, sPc]
         refine takeC (i := 11) (v := ?_) rfl rfl (Or.inl ⟨by rfl, ?_⟩) ⟨(HAB.out _ _ _ hM).1, fun _ => (HAB.out _ _ _ hM).2⟩ ?_
         rotate_left
         ·(intro wz hz; (try dsimp only at hz); go_simp; (try with_reducible rfl))
         try simp only [Act.put, sPa, sPb, sPc]
         refine twoG (i := 3) (j := 12) (by kernel_rfl) rfl rfl (fun K hK => ?_) (fun K hK => ?_)
         ·skip
          go_simp
          refine hK.out _ _ ⟨(HAB.out _ _ _ (hM.alloc _)).1, fun _ => (HAB.out _ _ _ (hM.alloc _)).2⟩ ?_
          clear hK K
          try simp only [Act.put, sPa, sPb, sPc]
          refine twoG (i := 4) (j := 12) (by kernel_rfl) rfl rfl (fun K hK => ?_) (fun K hK => ?_)
          ·skip
           refine wI rfl (.tmp 74) (.tmp 76) 47 rfl vX 0 _ _ rfl ⟨_, _, _, _, _, (hM.alloc _), _, rfl, rfl, rfl, rfl, ?g3, ?g4, hz5, _, _, _, List.Mem.head _, (by first | rfl | simp), rfl, ?_⟩
           case g3 => (simp only []; unfold maxLen; omega)
           case g4 => (simp only []; omega)
           intro sa1 sc1 w1x hM1
           have hl0 := hM1.litcell (List.Mem.head _)
           try simp only [zL] at hl0
           refine hK.out _ _ ⟨(HAB.out _ _ _ hM1).1, fun _ => (HAB.out _ _ _ hM1).2⟩ ?_
           clear hK K
           try simp only [Act.put, sPa, sPb, sPc]
           refine takeC (i := 14) (v := ?_) rfl rfl (Or.inl ⟨by rfl, ?_⟩) ⟨(HAB.out _ _ _ hM1).1, fun _ => (HAB.out _ _ _ hM1).2⟩ ?_
           rotate_left
           ·(intro wz hz; (try dsimp only at hz); go_simp; (try with_reducible rfl))
           try simp only [Act.put, sPa, sPb, sPc]
           refine oneG (i := 12) (by kernel_rfl) rfl (fun K hK => ?_)
           go_simp
           refine hK.out _ _ ⟨(HAB.out _ _ _ (hM1.alloc _)).1, fun _ => (HAB.out _ _ _ (hM1.alloc _)).2⟩ ?_
           clear hK K
           try simp only [Act.put, sPa, sPb, sPc]
           refine oneG (i := 13) (by kernel_rfl) rfl (fun K hK => ?_)
           refine wI rfl (.tmp 79) (.tmp 85) 46 rfl wL 1 _ _ rfl ⟨_, _, _, _, _, (hM1.alloc _), _, rfl, rfl, rfl, rfl, ?g3, ?g4, hz5, _, _, _, List.Mem.head _, (by first | rfl | simp), rfl, ?_⟩
           case g3 => (simp only []; unfold maxLen; omega)
           case g4 => (simp only []; omega)
           intro sa2 sc2 w2x hM2
           have hl0 := hM2.litcell (List.Mem.head _)
           try simp only [zL] at hl0
           have hl1 := hM2.litcell (List.Mem.tail _ (List.Mem.head _))
           try simp only [zL] at hl1
           refine hK.out _ _ ⟨(HAB.out _ _ _ hM2).1, fun _ => (HAB.out _ _ _ hM2).2⟩ ?_
           clear hK K
           try simp only [Act.put, sPa, sPb, sPc]
           refine oneG (i := 15) (by kernel_rfl) rfl (fun K hK => ?_)
           have hbx := hM2.but.heap HBX5.out HNB.out
           have cb3 := zK hbx 3 (by simp)
           have cb2 := zK hbx 2 (by simp)
           have fb3 := zD hbx 3
           have fb2 := zD hbx 2
           simp only [List.getElem_toArray, List.getElem_cons_zero, List.getElem_cons_succ] at cb3 cb2
           go_simp
           have hbx2 := heap_setCell_same _ O 3 _ _ (.slice sa1 (m + 1) sc1) hbx
           have cb22 := zK hbx2 2 (by simp)
           have fb22 := zD hbx2 2
           simp at cb22
           have hAS := HAF.out _ (HAB.out _ _ _ hM2).1 3 (.slice sa1 (m + 1) sc1)
           refine hK.out _ _ ⟨hAS, fun h => by simp at h⟩ ?_
           clear hK K
           try simp only [Act.put, sPa, sPb, sPc]
           refine takeC (i := 16) (v := ?_) rfl rfl (Or.inl ⟨by rfl, ?_⟩) ⟨hAS, fun h => by simp at h⟩ ?_
           rotate_left
           ·(intro wz hz; (try dsimp only at hz); go_simp; (try with_reducible rfl))
           try simp only [Act.put, sPa, sPb, sPc]
           refine oneG (i := 17) (by kernel_rfl) rfl (fun K hK => ?_)
           go_simp
           have hAS2 := HAF.out _ hAS 2 (.slice sa2 (m + 1) sc2)
           refine hK.out _ _ ⟨hAS2, fun h => by simp at h⟩ ?_
           clear hK K
           try simp only [Act.put, sPa, sPb, sPc]
           refine doneG (by kernel_rfl) ?_ _
           refine NoPanic.normal ?_
           obtain ⟨hbt, hgw⟩ := HBT.out.push (b := bq) (row := yU l (d.next.getD q0 [])) HTL2.out hM2 HROW.out rfl
           have HBT7 := Kh hbt
           have HG7 := Kh (hgw w4 HG5.out (by have := HOE.out; omega))
           clear hbt hgw cb3 cb2 fb3 fb2 hbx hbx2 cb22 fb22 hAS hAS2 hM2
           (try clear hM1)
           go_wp2
           go_roundg (l.length - (i + 1))
           case measure => have := HGI.out; omega
           case rel => exact ⟨i + 1, _, _, _, _, _, by omega, by go_num, HBT7.out.congr HFS.out HTS.out, HG7.out⟩
          ·skip
           go_simp
           refine hK.out _ _ ⟨(HAB.out _ _ _ ((hM.alloc _).alloc _)).1, fun _ => (HAB.out _ _ _ ((hM.alloc _).alloc _)).2⟩ ?_
           clear hK K
           try simp only [Act.put, sPa, sPb, sPc]
           refine oneG (i := 4) (by kernel_rfl) rfl (fun K hK => ?_)
           refine wI rfl (.tmp 74) (.tmp 76) 47 rfl vX 0 _ _ rfl ⟨_, _, _, _, _, ((hM.alloc _).alloc _), _, rfl, rfl, rfl, rfl, ?g3, ?g4, hz5, _, _, _, List.Mem.tail _ (List.Mem.head _), (by first | rfl | simp), rfl, ?_⟩
           case g3 => (simp only []; unfold maxLen; omega)
           case g4 => (simp only []; omega)
           intro sa3 sc3 w3x hM3
           have hl0 := hM3.litcell (List.Mem.head _)
           try simp only [zL] at hl0
           have hl1 := hM3.litcell (List.Mem.tail _ (List.Mem.head _))
           try simp only [zL] at hl1
           refine hK.out _ _ ⟨(HAB.out _ _ _ hM3).1, fun _ => (HAB.out _ _ _ hM3).2⟩ ?_
           clear hK K
           try simp only [Act.put, sPa, sPb, sPc]
           refine takeC (i := 14) (v := ?_) rfl rfl (Or.inl ⟨by rfl, ?_⟩) ⟨(HAB.out _ _ _ hM3).1, fun _ => (HAB.out _ _ _ hM3).2⟩ ?_
           rotate_left
           ·(intro wz hz; (try dsimp only at hz); go_simp; (try with_reducible rfl))
           try simp only [Act.put, sPa, sPb, sPc]
           refine oneG (i := 13) (by kernel_rfl) rfl (fun K hK => ?_)
           refine wI rfl (.tmp 79) (.tmp 85) 46 rfl wL 1 _ _ rfl ⟨_, _, _, _, _, hM3, _, rfl, rfl, rfl, rfl, ?g3, ?g4, hz5, _, _, _, List.Mem.head _, (by first | rfl | simp), rfl, ?_⟩
           case g3 => (simp only []; unfold maxLen; omega)
           case g4 => (simp only []; omega)
           intro sa4 sc4 w4x hM4
           have hl0 := hM4.litcell (List.Mem.head _)
           try simp only [zL] at hl0
           have hl1 := hM4.litcell (List.Mem.tail _ (List.Mem.head _))
           try simp only [zL] at hl1
           refine hK.out _ _ ⟨(HAB.out _ _ _ hM4).1, fun _ => (HAB.out _ _ _ hM4).2⟩ ?_
           clear hK K
           try simp only [Act.put, sPa, sPb, sPc]
           refine oneG (i := 15) (by kernel_rfl) rfl (fun K hK => ?_)
           have hbx := hM4.but.heap HBX5.out HNB.out
           have cb3 := zK hbx 3 (by simp)
           have cb2 := zK hbx 2 (by simp)
           have fb3 := zD hbx 3
           have fb2 := zD hbx 2
           simp only [List.getElem_toArray, List.getElem_cons_zero, List.getElem_cons_succ] at cb3 cb2
           go_simp
           have hbx2 := heap_setCell_same _ O 3 _ _ (.slice sa3 (m + 1) sc3) hbx
           have cb22 := zK hbx2 2 (by simp)
           have fb22 := zD hbx2 2
           simp at cb22
           have hAS := HAF.out _ (HAB.out _ _ _ hM4).1 3 (.slice sa3 (m + 1) sc3)
           refine hK.out _ _ ⟨hAS, fun h => by simp at h⟩ ?_
           clear hK K
           try simp only [Act.put, sPa, sPb, sPc]
           refine takeC (i := 16) (v := ?_) rfl rfl (Or.inl ⟨by rfl, ?_⟩) ⟨hAS, fun h => by simp at h⟩ ?_
           rotate_left
           ·(intro wz hz; (try dsimp only at hz); go_simp; (try with_reducible rfl))
           try simp only [Act.put, sPa, sPb, sPc]
           refine oneG (i := 17) (by kernel_rfl) rfl (fun K hK => ?_)
           go_simp
           have hAS2 := HAF.out _ hAS 2 (.slice sa4 (m + 1) sc4)
           refine hK.out _ _ ⟨hAS2, fun h => by simp at h⟩ ?_
           clear hK K
           try simp only [Act.put, sPa, sPb, sPc]
           refine doneG (by kernel_rfl) ?_ _
           refine NoPanic.normal ?_
           obtain ⟨hbt, hgw⟩ := HBT.out.push (b := bq) (row := yU l (d.next.getD q0 [])) HTL2.out hM4 HROW.out rfl
           have HBT7 := Kh hbt
           have HG7 := Kh (hgw w4 HG5.out (by have := HOE.out; omega))
           clear hbt hgw cb3 cb2 fb3 fb2 hbx hbx2 cb22 fb22 hAS hAS2 hM4
           (try clear hM3)
           go_wp2
           go_roundg (l.length - (i + 1))
           case measure => have := HGI.out; omega
           case rel => exact ⟨i + 1, _, _, _, _, _, by omega, by go_num, HBT7.out.congr HFS.out HTS.out, HG7.out⟩
         ·skip
          go_simp
          refine hK.out _ _ ⟨(HAB.out _ _ _ (hM.alloc _)).1, fun _ => (HAB.out _ _ _ (hM.alloc _)).2⟩ ?_
          clear hK K
          try simp only [Act.put, sPa, sPb, sPc]
          refine oneG (i := 3) (by kernel_rfl) rfl (fun K hK => ?_)
          go_simp
          refine hK.out _ _ ⟨(HAB.out _ _ _ ((hM.alloc _).alloc _)).1, fun _ => (HAB.out _ _ _ ((hM.alloc _).alloc _)).2⟩ ?_
          clear hK K
          try simp only [Act.put, sPa, sPb, sPc]
          refine oneG (i := 4) (by kernel_rfl) rfl (fun K hK => ?_)
          refine wI rfl (.tmp 74) (.tmp 76) 47 rfl vX 0 _ _ rfl ⟨_, _, _, _, _, ((hM.alloc _).alloc _), _, rfl, rfl, rfl, rfl, ?g3, ?g4, hz5, _, _, _, List.Mem.head _, (by first | rfl | simp), rfl, ?_⟩
          case g3 => (simp only []; unfold maxLen; omega)
          case g4 => (simp only []; omega)
          intro sa5 sc5 w5x hM5
          have hl0 := hM5.litcell (List.Mem.head _)
          try simp only [zL] at hl0
          have hl1 := hM5.litcell (List.Mem.tail _ (List.Mem.head _))
          try simp only [zL] at hl1
          refine hK.out _ _ ⟨(HAB.out _ _ _ hM5).1, fun _ => (HAB.out _ _ _ hM5).2⟩ ?_
          clear hK K
          try simp only [Act.put, sPa, sPb, sPc]
          refine takeC (i := 14) (v := ?_) rfl rfl (Or.inl ⟨by rfl, ?_⟩) ⟨(HAB.out _ _ _ hM5).1, fun _ => (HAB.out _ _ _ hM5).2⟩ ?_
          rotate_left
          ·(intro wz hz; (try dsimp only at hz); go_simp; (try with_reducible rfl))
          try simp only [Act.put, sPa, sPb, sPc]
          refine oneG (i := 13) (by kernel_rfl) rfl (fun K hK => ?_)
          refine wI rfl (.tmp 79) (.tmp 85) 46 rfl wL 1 _ _ rfl ⟨_, _, _, _, _, hM5, _, rfl, rfl, rfl, rfl, ?g3, ?g4, hz5, _, _, _, List.Mem.tail _ (List.Mem.head _), (by first | rfl | simp), rfl, ?_⟩
          case g3 => (simp only []; unfold maxLen; omega)
          case g4 => (simp only []; omega)
          intro sa6 sc6 w6x hM6
          have hl0 := hM6.litcell (List.Mem.head _)
          try simp only [zL] at hl0
          have hl1 := hM6.litcell (List.Mem.tail _ (List.Mem.head _))
          try simp only [zL] at hl1
          refine hK.out _ _ ⟨(HAB.out _ _ _ hM6).1, fun _ => (HAB.out _ _ _ hM6).2⟩ ?_
          clear hK K
          try simp only [Act.put, sPa, sPb, sPc]
          refine oneG (i := 15) (by kernel_rfl) rfl (fun K hK => ?_)
          have hbx := hM6.but.heap HBX5.out HNB.out
          have cb3 := zK hbx 3 (by simp)
          have cb2 := zK hbx 2 (by simp)
          have fb3 := zD hbx 3
          have fb2 := zD hbx 2
          simp only [List.getElem_toArray, List.getElem_cons_zero, List.getElem_cons_succ] at cb3 cb2
          go_simp
          have hbx2 := heap_setCell_same _ O 3 _ _ (.slice sa5 (m + 1) sc5) hbx
          have cb22 := zK hbx2 2 (by simp)
          have fb22 := zD hbx2 2
          simp at cb22
          have hAS := HAF.out _ (HAB.out _ _ _ hM6).1 3 (.slice sa5 (m + 1) sc5)
          refine hK.out _ _ ⟨hAS, fun h => by simp at h⟩ ?_
          clear hK K
          try simp only [Act.put, sPa, sPb, sPc]
          refine takeC (i := 16) (v := ?_) rfl rfl (Or.inl ⟨by rfl, ?_⟩) ⟨hAS, fun h => by simp at h⟩ ?_
          rotate_left
          ·(intro wz hz; (try dsimp only at hz); go_simp; (try with_reducible rfl))
          try simp only [Act.put, sPa, sPb, sPc]
          refine oneG (i := 17) (by kernel_rfl) rfl (fun K hK => ?_)
          go_simp
          have hAS2 := HAF.out _ hAS 2 (.slice sa6 (m + 1) sc6)
          refine hK.out _ _ ⟨hAS2, fun h => by simp at h⟩ ?_
          clear hK K
          try simp only [Act.put, sPa, sPb, sPc]
          refine doneG (by kernel_rfl) ?_ _
          refine NoPanic.normal ?_
          obtain ⟨hbt, hgw⟩ := HBT.out.push (b := bq) (row := yU l (d.next.getD q0 [])) HTL2.out hM6 HROW.out rfl
          have HBT7 := Kh hbt
          have HG7 := Kh (hgw w4 HG5.out (by have := HOE.out; omega))
          clear hbt hgw cb3 cb2 fb3 fb2 hbx hbx2 cb22 fb22 hAS hAS2 hM6
          (try clear hM5)
          go_wp2
          go_roundg (l.length - (i + 1))
          case measure => have := HGI.out; omega
          case rel => exact ⟨i + 1, _, _, _, _, _, by omega, by go_num, HBT7.out.congr HFS.out HTS.out, HG7.out⟩
      ·have hil : i = l.length := by have := HGI.out; omega
       have HFE : Hid (sM d l i = (yW d k).final ∧ sL d l i = (yW d k).next) := Kh (by
        rw [hil]
        simp only [sM, sL, List.take_length]
        rw [HL.out]
        exact ⟨rfl, rfl⟩)
       have hP1 : O ≠ P + 1 := by omega
       have hgR := zA (zA (zA HB2.out HG1.out (by simp)) HGR3.out (by simp)) hgr (fun e => hP1 (Option.some.inj e))
       have r0 := zK hgR 0 (by simp); have r1 := zK hgR 1 (by simp); have r2 := zK hgR 2 (by simp); have r3 := zK hgR 3 (by simp)
       have q0 := zD hgR 0; have q1 := zD hgR 1; have q2 := zD hgR 2; have q3 := zD hgR 3
       simp only [List.getElem_toArray, List.getElem_cons_zero, List.getElem_cons_succ] at r0 r1 r2 r3
       have HGRX := Kh hgR
       obtain ⟨o0, o1, o2, o3⟩ := zG hbt.box
       clear hbt hgr hgR hil
       go_wp2
       refine bodyPost_ret (v := .tuple #[.agg #[.int .i64 (k : Int), .int .i64 0, .slice sf (sM d l i).length cf, .slice sn (sL d l i).length cn], .slice (some ⟨G, 0, none⟩) n n]) (by simp [results, Try.results70, go_sem, r0, r1, r2, r3]) rfl ?_
       obtain ⟨hset, hgs⟩ := wM HGRX.out (.int .i64 (k : Int)) (.int .i64 0) (.slice sf (sM d l i).length cf) (.slice sn (sL d l i).length cn)
       have hbt2 := HBT0.out.far hgs HGRX.out (fun e => hP1 e.symm)
       refine ⟨_, _, rfl, ?_, ?_⟩
       ·have he : yW d k = ⟨(k : Int), 0, sM d l i, sL d l i⟩ := by
         rw [HFE.out.1, HFE.out.2]
         have := HD.out.hk
         simp only [yW, this]
        rw [he]
        exact ⟨O, hs, sf, cf, sn, cn, rfl, by have h1 := HGR3.out.size; have h2 := HOE.out; have h3 := HPE.out; omega, hbt2⟩
       ·refine zB (zE HGA.out (zE HG1.out (zE HGR3.out (zB (zO _ _) HGR.out (fun x e => by have := Option.some.inj e; have := HOE.out; omega))))) hgs (fun x e => by have := Option.some.inj e; have := HPE.out; omega)
end Go.Proofs.Ytgbfaggnnfoamaa
