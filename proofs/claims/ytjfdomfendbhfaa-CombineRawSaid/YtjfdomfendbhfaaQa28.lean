/- Part 28 of the proof: Size, FamCnt, FamilyP, CRef, CVal. -/
import Derived.Test.YtjfdomfendbhfaaQa27
set_option linter.unusedVariables false
set_option linter.unusedSimpArgs false
namespace Go.Proofs.Ytjfdomfendbhfaa
open Go.RowKit
def cnt (letters : Nat) : Nat → Int × Int
 | 0 => (0, 1)
 | r + 1 => (min ((cnt letters r).1 + (cnt letters r).2) 900, min ((cnt letters r).2 * letters) 900)
def chn (ne : Int) : Nat → Int × Int
 | 0 => (ne + 1, (ne + 1) * (ne + 1))
 | r + 1 => (min ((chn ne r).1 + (chn ne r).2) 900, min (chn ne r).2 900 * ne)
theorem chn_bd (ne : Int) (h : 0 ≤ ne) (h9 : ne ≤ 900) : ∀ r, 0 ≤ (chn ne r).1 ∧ (chn ne r).1 ≤ 901 ∧ 0 ≤ (chn ne r).2 ∧ (chn ne r).2 ≤ 811801
 | 0 => by
  have h2 : (ne + 1) * (ne + 1) ≤ 901 * 901 := Int.mul_le_mul (by omega) (by omega) (by omega) (by omega)
  have h3 : 0 ≤ (ne + 1) * (ne + 1) := Int.mul_nonneg (by omega) (by omega)
  simp only [chn]; omega
 | r + 1 => by
  have hb := chn_bd ne h h9 r
  have h2 : min (chn ne r).2 900 * ne ≤ 900 * 900 := Int.mul_le_mul (by omega) h9 h (by omega)
  have h3 : 0 ≤ min (chn ne r).2 900 * ne := Int.mul_nonneg (by omega) h
  simp only [chn]; omega
def sizeV (kind : Int) (letters : Nat) (k m : Int) : Int :=
 let ne := (cnt letters (k + 1).toNat).1 - 1
 let sh := (cnt letters k.toNat).1
 if kind = 1 then ne + 1 else if kind = 2 ∨ kind = 3 then sh + ne else if kind = 4 then sh + 2 * ne else if kind = 5 then sh + 3 * ne else if kind = 6 then ne else (chn ne (m + 1).toNat).1
def qY (kind letters k m : Int) : Bool :=
 decide (1 ≤ kind ∧ kind ≤ 7 ∧ 1 ≤ letters ∧ letters ≤ 6 ∧ (if kind = 1 then 0 else 1) ≤ k ∧ k ≤ 8 ∧ (if kind = 7 then 0 ≤ m ∧ m ≤ 4 else m = 0))
end Go.Proofs.Ytjfdomfendbhfaa
namespace Go.Proofs.Ytjfdomfendbhfaa
def yL (letters k : Nat) : List (List Int) := upTo letters (k + 1)
def famP (kind : Int) (letters k m : Nat) : List (List (List Int)) :=
 let W := yL letters k
 let S := upTo letters k
 if kind = 1 then W.map oneB else if kind = 2 then S.map oneB ++ (W.drop 1).map preB else if kind = 3 then S.map oneB ++ (W.drop 1).map sufB
 else if kind = 4 then S.map oneB ++ (W.drop 1).map sufB ++ (W.drop 1).map preB else if kind = 5 then S.map oneB ++ (W.drop 1).map sufB ++ (W.drop 1).map preB ++ (W.drop 1).map facB
 else if kind = 6 then (W.drop 1).map uB else chL W (m + 1)
theorem min_add (a b : Int) (ha : 0 ≤ a) (hb : 0 ≤ b) : min (min a 900 + min b 900) 900 = min (a + b) 900 := by omega
theorem min_mul (b : Nat) (L : Nat) (h : 1 ≤ L) : min (min (b : Int) 900 * L) 900 = min ((b * L : Nat) : Int) 900 := by
 rcases Nat.lt_or_ge b 900 with hb | hb
 ·rw [Int.min_eq_left (a := (b : Int)) (by omega), Int.natCast_mul]
 ·have h2 : b * 1 ≤ b * L := Nat.mul_le_mul_left _ h
  rw [Int.min_eq_right (a := (b : Int)) (by omega)]
  obtain ⟨P, hP⟩ : ∃ P, P = b * L := ⟨_, rfl⟩
  rw [← hP] at h2 ⊢
  omega
theorem cnt_is (letters : Nat) (h : 1 ≤ letters) : ∀ r, (cnt letters r).1 = min ((upTo letters r).length : Int) 900 ∧ (cnt letters r).2 = min ((letters ^ r : Nat) : Int) 900
 | 0 => by simp only [cnt, upTo, List.range_zero, List.flatMap_nil, List.length_nil, Nat.pow_zero]; decide
 | r + 1 => by
  obtain ⟨h1, h2⟩ := cnt_is letters h r
  rw [cnt]
  simp only
  rw [h1, h2]
  refine ⟨?_, ?_⟩
  ·rw [min_add _ _ (by omega) (by omega), yY, List.length_append, wG]; push_cast; rfl
  ·rw [min_mul _ _ h, Nat.pow_succ]
theorem chL_len (ws : List (List Int)) (i : Nat) : (chL ws (i + 1)).length = (chL ws i).length + (chB ws i).length * ws.length := by rw [chL, List.length_append, lT]
theorem chB_len (ws : List (List Int)) (i : Nat) : (chB ws (i + 1)).length = (chB ws i).length * (ws.length - 1) := by rw [chB, lT, List.length_drop]
theorem chn_is {ws : List (List Int)} (hw : 1 ≤ ws.length) (h9 : ws.length ≤ 900) : ∀ r, ((chn ((ws.length : Int) - 1) r).1 = ((chL ws r).length : Int) ∧ (chn ((ws.length : Int) - 1) r).2 = (((chB ws r).length * ws.length : Nat) : Int)) ∨ ((chn ((ws.length : Int) - 1) r).1 = 900 ∧ 900 ≤ (chL ws r).length)
 | 0 => by
  refine .inl ⟨?_, ?_⟩
  ·simp [chn, chL]
  ·rw [chn]
   simp only [chB, List.length_map]
   rw [show (ws.length : Int) - 1 + 1 = ws.length by omega]; push_cast; rfl
 | r + 1 => by
  have hb := chn_bd ((ws.length : Int) - 1) (by omega) (by omega) r
  rw [chn]
  simp only
  rcases chn_is hw h9 r with ⟨e1, e2⟩ | ⟨e1, e2⟩
  ·rw [e1, e2, chL_len, chB_len]
   obtain ⟨P, hP⟩ : ∃ P, P = (chB ws r).length * ws.length := ⟨_, rfl⟩
   rw [← hP]
   rcases Nat.lt_or_ge ((chL ws r).length + P) 900 with h | h
   ·refine .inl ⟨by omega, ?_⟩
    rw [Int.min_eq_left (by omega)]
    have e3 : (chB ws r).length * (ws.length - 1) * ws.length = P * (ws.length - 1) := by rw [hP, Nat.mul_assoc, Nat.mul_assoc, Nat.mul_comm (ws.length - 1)]
    rw [e3]
    have e4 : (ws.length : Int) - 1 = ((ws.length - 1 : Nat) : Int) := by omega
    rw [e4]; push_cast; rfl
   ·exact .inr ⟨by omega, by omega⟩
  ·refine .inr ⟨by omega, ?_⟩
   rw [chL_len]; omega
theorem chn_big (ne : Int) (h : 0 ≤ ne) (h9 : ne ≤ 900) (h3 : 300 ≤ ne) : ∀ r, 300 < (chn ne r).1
 | 0 => by simp only [chn]; omega
 | r + 1 => by
  have := chn_big ne h h9 h3 r
  have hb := chn_bd ne h h9 r
  rw [chn]; simp only; omega
theorem size_is {kind : Int} {letters k m : Nat} (h1 : 1 ≤ kind) (h7 : kind ≤ 7) (hl : 1 ≤ letters) (hk : kind ≠ 1 → 1 ≤ k) : (300 < sizeV kind letters k m ↔ 300 < (famP kind letters k m).length) := by
 obtain ⟨c1, _⟩ := cnt_is letters hl (k + 1)
 obtain ⟨c2, _⟩ := cnt_is letters hl k
 have e1 : (((k : Nat) : Int) + 1).toNat = k + 1 := by omega
 have e2 : ((k : Nat) : Int).toNat = k := by omega
 have e3 : (((m : Nat) : Int) + 1).toNat = m + 1 := by omega
 have hw : 1 ≤ (yL letters k).length := jW hl
 have hS : (upTo letters k).length ≤ (yL letters k).length := by rw [yL, yY, List.length_append]; omega
 unfold sizeV famP
 simp only
 rw [e1, e2, e3, c1, c2]
 change 1 ≤ (yL letters k).length at hw
 rw [show upTo letters (k + 1) = yL letters k from rfl]
 obtain ⟨W, hW⟩ : ∃ W, W = yL letters k := ⟨_, rfl⟩
 rw [← hW] at hw hS ⊢
 by_cases k1 : kind = 1
 ·rw [if_pos k1, if_pos k1, List.length_map]; omega
 rw [if_neg k1, if_neg k1]
 by_cases k2 : kind = 2
 ·rw [if_pos (.inl k2), if_pos k2]; simp only [List.length_append, List.length_map, List.length_drop]; omega
 by_cases k3 : kind = 3
 ·rw [if_pos (.inr k3), if_neg k2, if_pos k3]; simp only [List.length_append, List.length_map, List.length_drop]; omega
 rw [if_neg (by omega), if_neg k2, if_neg k3]
 by_cases k4 : kind = 4
 ·rw [if_pos k4, if_pos k4]; simp only [List.length_append, List.length_map, List.length_drop]; omega
 rw [if_neg k4, if_neg k4]
 by_cases k5 : kind = 5
 ·rw [if_pos k5, if_pos k5]; simp only [List.length_append, List.length_map, List.length_drop]; omega
 rw [if_neg k5, if_neg k5]
 by_cases k6 : kind = 6
 ·rw [if_pos k6, if_pos k6]; simp only [List.length_map, List.length_drop]; omega
 rw [if_neg k6, if_neg k6]
 rcases Nat.lt_or_ge W.length 900 with h9 | h9
 ·rw [Int.min_eq_left (by omega)]
  rcases chn_is (ws := W) hw (by omega) (m + 1) with ⟨e, _⟩ | ⟨e, e'⟩
  ·rw [e]; omega
  ·rw [e]; omega
 ·rw [Int.min_eq_right (by omega)]
  have hb := chn_big 899 (by omega) (by omega) (by omega) (m + 1)
  have hp := (chL_pre W 0 (m + 1)).length_le
  rw [Nat.zero_add] at hp
  have e : (chL W 0).length = W.length := by simp [chL]
  have : (900 : Int) - 1 = 899 := by decide
  rw [this]; omega
end Go.Proofs.Ytjfdomfendbhfaa
namespace Go.Proofs.Ytjfdomfendbhfaa
open Go.RowKit
def famE (kind letters k m : Int) : Int := if qY kind letters k m = false then 1 else if kind = 6 ∧ 8 < k + 2 ∨ 300 < sizeV kind letters.toNat k m then 3 else 0
def famL (kind letters k m : Int) : List (List (List Int)) := if famE kind letters k m = 0 then famP kind letters.toNat k.toNat m.toNat else []
def rT (w : World) (er : Int) (ps : List (List (List Int))) (e : Ending) (w' : World) : Prop :=
 ∃ (sa : Option Addr) (sc : Nat) (svs : List Value), e = .returned (.tuple #[.slice sa ps.length sc, .int .i64 er]) ∧ RowT w'.heap.size 28 w' (.slice sa ps.length sc) svs ∧ wL w'.heap.size 9 strs w' svs ps ∧ w.grownBy w' none
theorem rT.nil {w w' : World} {er : Int} (hg : w.grownBy w' none) : rT w er [] (.returned (.tuple #[.slice none 0 0, .int .i64 er])) w' := ⟨none, 0, [], rfl, .inl ⟨rfl, rfl⟩, wL.nil, hg⟩
set_option maxRecDepth 100000 in
set_option maxHeartbeats 800000 in
theorem validRef_any (B : Nat) (w : World) (pv cv : Value) (root : Int) (cs : List ChoV) (i : Nat) (r : Int) (h : ChosIn B w cv cs) (hi : i < cs.length) :
  Calls Try.prog 37 #[.agg #[pv, cv, .int .i64 root], .int .i64 (i : Int), .int .i64 r] w fun e w' => e = .returned (.bool (refB cs i (cs.getD i default).p r)) ∧ w.grownBy w' none := by
 obtain ⟨b, off, cap, rfl, hb, hc, hm, hch⟩ := h.at_ (by omega)
 have hcm : cap ≤ 9223372036854775807 := by unfold maxLen at hm; omega
 obtain ⟨n, hn⟩ : ∃ n, n = cs.length := ⟨_, rfl⟩
 have HN := Kh hn
 have hi0 := hi
 rw [← hn] at hc hi ⊢
 have hg1 := World.grownBy_alloc w (.cells #[pv, .slice (some ⟨b, off, none⟩) n cap, .int .i64 root] 25) none
 have hb1 := heap_alloc_new w (.cells #[pv, .slice (some ⟨b, off, none⟩) n cap, .int .i64 root] 25)
 obtain ⟨wA, hWA⟩ : ∃ w1, w1 = w.alloc (.cells #[pv, .slice (some ⟨b, off, none⟩) n cap, .int .i64 root] 25) := ⟨_, rfl⟩
 obtain ⟨P, hP⟩ : ∃ P, P = w.heap.size := ⟨_, rfl⟩
 rw [← hWA] at hg1 hb1
 rw [← hP] at hb1
 have hch1 := hch.kept hg1 (by simp)
 obtain ⟨p0, p1, p2⟩ := zL hb1
 have c1 := hch1.p i hi0
 have HCH := Kh hch1
 have HWA := Kh hWA; have HPE := Kh hP; have HGA := Kh hg1
 obtain ⟨x, hx⟩ : ∃ x, x = (cs.getD i default).p := ⟨_, rfl⟩
 have HX := Kh hx
 rw [← hx] at c1
 rw [← hx]
 have hi' : (i : Int) < n := by omega
 have hip : (0 : Int) ≤ i := by omega
 clear h hch hch1 hg1 hb1 hWA hP hx hn hi0
 go_enter Try.func37, Try.ntmps37
 go_upto_region 1 with fail
 rw [← HWA.out, ← HPE.out]
 by_cases h0 : r < 0
 ·have HR : Hid (refB cs i x r = false) := Kh (by simp [refB]; omega)
  go_wp2
  go_ret
  exact ⟨zT HR.out.symm, HGA.out⟩
 by_cases h1 : 1 + (i : Int) < r
 ·have HR : Hid (refB cs i x r = false) := Kh (by simp [refB]; omega)
  go_wp2
  go_ret
  exact ⟨zT HR.out.symm, HGA.out⟩
 by_cases h2 : r < 2
 ·have HR : Hid (refB cs i x r = true) := Kh (by simp [refB]; omega)
  have hd : decide (r < 2) = true := by simpa using h2
  go_wp2
  go_quiet (fail)
  go_wp2
  go_ret
  exact ⟨zT (by rw [HR.out]), zA HGA.out (by first | exact zM _ none | exact zV _ _ none) (by simp)⟩
 ·have hd : decide (r < 2) = false := by simpa using h2
  obtain ⟨q, rfl⟩ : ∃ q : Nat, r = (q : Int) + 2 := ⟨(r - 2).toNat, by omega⟩
  have c2 := HCH.out.p q (by have := HN.out; omega)
  have e2 : IntKind.i64.wrap ((q : Int) + 2 - 2) = (q : Int) := by rw [show (q : Int) + 2 - 2 = q by omega]; exact wU (by unfold maxLen at hm; omega)
  have e3 : (q : Int) + 2 - 2 = (q : Int) := by omega
  have hq : q < n := by omega
  have hq' : (q : Int) < n := by omega
  obtain ⟨y, hy⟩ : ∃ y, y = (cs.getD q default).p := ⟨_, rfl⟩
  rw [← hy] at c2
  have HR : Hid (refB cs i x ((q : Int) + 2) = decide (x < y)) := Kh (by
   have e : ((q : Int) + 2).toNat - 2 = q := by omega
   simp only [refB, e, ← hy]
   rw [Bool.eq_iff_iff]
   simp only [Bool.and_eq_true, decide_eq_true_eq]
   omega)
  clear hy
  go_wp2
  go_quiet (fail)
  go_wp2
  go_ret
  exact ⟨zT (by rw [HR.out]), zA HGA.out (by first | exact zM _ none | exact zV _ _ none) (by simp)⟩
set_option maxRecDepth 100000 in
set_option maxHeartbeats 800000 in
theorem jO (B : Nat) (w : World) (v : Value) (g : DiaV) (letters : Int) (hB : B ≤ w.heap.size) (h : rB B w v g) :
  Calls Try.prog 9 #[v, .int .i64 letters] w fun e w' => e = .returned (.int .i64 (diaE g letters)) ∧ w.grownBy w' none := by
 obtain ⟨pv, cv, rfl, hp, hc⟩ := h
 obtain ⟨pa, pc, rfl⟩ := hp.shape
 obtain ⟨ca, cc, rfl⟩ := hc.shape
 have hpl := hp.len_le
 have hcl := hc.len_le
 unfold maxLen at hpl hcl
 obtain ⟨ps, cs, root⟩ := g
 simp only at hp hc hpl hcl ⊢
 obtain ⟨np, hnp⟩ : ∃ n, n = ps.length := ⟨_, rfl⟩
 obtain ⟨nc, hnc⟩ : ∃ n, n = cs.length := ⟨_, rfl⟩
 rw [← hnp] at hp hpl ⊢
 rw [← hnc] at hc hcl ⊢
 have hg1 := World.grownBy_alloc w (.cells #[.slice pa np pc, .slice ca nc cc, .int .i64 root] 25) none
 have hb1 := heap_alloc_new w (.cells #[.slice pa np pc, .slice ca nc cc, .int .i64 root] 25)
 obtain ⟨wA, hWA⟩ : ∃ w1, w1 = w.alloc (.cells #[.slice pa np pc, .slice ca nc cc, .int .i64 root] 25) := ⟨_, rfl⟩
 obtain ⟨P, hP⟩ : ∃ P, P = w.heap.size := ⟨_, rfl⟩
 rw [← hWA] at hg1 hb1
 rw [← hP] at hb1
 have hp1 := hp.kept hg1 (by simp)
 have hc1 := hc.kept hg1 (by simp)
 obtain ⟨p0, p1, p2⟩ := zL hb1
 have hzA := hg1.size
 have HNP := Kh hnp; have HNC := Kh hnc
 have HPS := Kh hp1; have HCS := Kh hc1; have HB1 := Kh hb1
 have HWA := Kh hWA; have HPE := Kh hP; have HGA := Kh hg1
 have HBW : Hid (B ≤ wA.heap.size) := Kh (by omega)
 clear hp hc hp1 hc1 hg1 hb1 hWA hP hnp hnc hzA
 go_enter Try.func9, Try.ntmps9
 go_upto_region 1 with fail
 rw [← HWA.out, ← HPE.out]
 by_cases h1 : letters < 1
 ·go_wp2
  go_ret
  exact ⟨zW (diaE_arg (.inl h1)).symm, HGA.out⟩
 by_cases h2 : 6 < letters
 ·go_wp2
  go_ret
  exact ⟨zW (diaE_arg (.inr h2)).symm, HGA.out⟩
 have H1 : Hid (¬ (letters < 1 ∨ 6 < letters)) := Kh (by omega)
 by_cases h3 : 300 < np
 ·have h3' : (300 : Int) < np := by omega
  go_wp2
  go_ret
  exact ⟨zW (nZ H1.out (.inl (by rw [← HNP.out]; exact h3))).symm, HGA.out⟩
 have h3' : ¬ (300 : Int) < np := by omega
 by_cases h4 : 20000 < nc
 ·have h4' : (20000 : Int) < nc := by omega
  go_wp2
  go_ret
  exact ⟨zW (nZ H1.out (.inr (by rw [← HNC.out]; exact h4))).symm, HGA.out⟩
 have h4' : ¬ (20000 : Int) < nc := by omega
 have H3 : Hid (¬ (300 < ps.length ∨ 20000 < cs.length)) := Kh (by rw [← HNP.out, ← HNC.out]; omega)
 go_wp2
 go_loopg [6, 7, 29] np (fun gh s6 s7 i wr => ∃ k : Nat, gh + k = np ∧ i = .int .i64 k ∧ wJ letters (ps.drop k) = wJ letters ps ∧ wA.grownBy wr none)
 case atStart => exact ⟨0, rfl, rfl, rfl, zK _ _⟩
 case round =>
  obtain ⟨k, hgh, rfl, hpe, hg⟩ := hrel
  have HGH := Kh hgh; have HG := Kh hg; have HPEE := Kh hpe
  clear hgh hpe
  by_cases hk : k < np
  ·have hk' : (k : Int) < np := by omega
   have hps := HPS.out.kept hg (by simp)
   obtain ⟨b, off, cap, e, hbB, hb2, hb3, hall⟩ := hps.at_ (by rw [← HNP.out]; omega)
   rw [← HNP.out] at e hb2 hall
   simp only [Value.slice.injEq, true_and] at e
   obtain ⟨rfl, rfl⟩ := e
   obtain ⟨sa, sc, c1, hrow, hsz⟩ := hall k hk
   obtain ⟨q, hq⟩ : ∃ q, q = ps.getD k [] := ⟨_, rfl⟩
   rw [← hq] at c1 hrow hsz
   have hmx : pc ≤ 9223372036854775807 := by unfold maxLen at hb3; omega
   have HV : Hid (∀ W : World, wr.grownBy W none → Calls Try.prog 36 #[.agg #[.slice sa q.length sc], .int .i64 letters] W fun e w' => e = .returned (.int .i64 (patW q letters)) ∧ wA.grownBy w' none) := Kh (fun W hW => (pQ B W _ q letters (hrow.kept hW (by simp)) hsz).mono fun e w' ⟨he, hg'⟩ => ⟨he, zA HG.out (zE hW hg') (by simp)⟩)
   have HQ := Kh hq
   obtain ⟨E, hE⟩ : ∃ E, E = patW q letters := ⟨_, rfl⟩
   rw [← hE] at HV
   have HE := Kh hE
   obtain ⟨ql, hql⟩ : ∃ n, n = q.length := ⟨_, rfl⟩
   rw [← hql] at c1 HV
   clear hps hall hrow hsz hq hg hE hql
   go_wp2_with fail
   refine (HV.out _ (World.grownBy_alloc wr _ none)).mono ?_
   rintro e w1 ⟨rfl, hg1⟩
   have HG1 := Kh hg1
   clear hg1 HV
   by_cases hE : E = 0
   ·have e1 : (E != 0) = false := by simp [hE]
    have HE0 := Kh hE
    clear hE
    go_wp2
    go_roundg (np - (k + 1))
    case measure => have := HGH.out; omega
    case rel => exact ⟨k + 1, by have := HGH.out; omega, by go_num, (oI (by rw [← HNP.out]; exact hk) (by rw [← HQ.out, ← HE.out]; exact HE0.out)).trans HPEE.out, HG1.out⟩
   ·have e1 : (E != 0) = true := by rw [bne_iff_ne]; exact hE
    have HE0 := Kh hE
    clear hE
    go_wp2
    go_ret
    exact ⟨zW (by rw [diaE_pat (g := ⟨ps, cs, root⟩) H1.out H3.out (k := k) (by rw [← HNP.out]; exact hk) HPEE.out (by rw [← HQ.out, ← HE.out]; exact HE0.out)]; show E = patW (ps.getD k []) letters; rw [← HQ.out, ← HE.out]), zA HGA.out (HG1.out) (by simp)⟩
  ·have hkn : k = np := by have := HGH.out; omega
   have HPZ : Hid (wJ letters ps = 0) := Kh (by rw [← HPEE.out]; exact mV (by rw [← HNP.out]; exact hk))
   have HDE : Hid (diaE ⟨ps, cs, root⟩ letters = kD ps.length cs root) := Kh (diaE_cho H1.out H3.out HPZ.out)
   have hkn' : ¬ (k : Int) < np := by omega
   obtain ⟨p0, p1, p2⟩ := zL (zB HB1.out hg (by simp))
   clear hkn hg HGH hpl
   go_wp2
   clear p0 p1 p2
   go_loopg [8, 9, 43] nc (fun gh s8 s9 i wr => ∃ k : Nat, gh + k = nc ∧ i = .int .i64 k ∧ xH ps.length cs k ∧ wA.grownBy wr none)
   case atStart => exact ⟨0, rfl, rfl, kB _ _, HG.out⟩
   case round =>
    clear HG hkn' hk
    obtain ⟨k, hgh, rfl, hct, hg⟩ := hrel
    have HGH := Kh hgh; have HG := Kh hg; have HCT := Kh hct
    clear hgh hct
    by_cases hk : k < nc
    ·have hk' : (k : Int) < nc := by omega
     have hcs := HCS.out.kept hg (by simp)
     have HCR := Kh hcs
     obtain ⟨b, off, cap, e, hbB, hb2, hb3, hch⟩ := hcs.at_ (by rw [← HNC.out]; omega)
     rw [← HNC.out] at e hb2
     simp only [Value.slice.injEq, true_and] at e
     obtain ⟨rfl, rfl⟩ := e
     have hmx : cc ≤ 9223372036854775807 := by unfold maxLen at hb3; omega
     have hkc : k < cs.length := by rw [← HNC.out]; exact hk
     have c1 := hch.p k hkc
     have c2 := hch.y k hkc
     have c3 := hch.n k hkc
     have HVR : Hid (∀ (W : World) (r : Int), wr.grownBy W none → Calls Try.prog 37 #[.agg #[.slice pa np pc, .slice (some ⟨b, off, none⟩) nc cc, .int .i64 root], .int .i64 (k : Int), .int .i64 r] W fun e w' => e = .returned (.bool (refB cs k (cs.getD k default).p r)) ∧ W.grownBy w' none) := Kh (fun W r hW => validRef_any B W _ _ root cs k r (HCR.out.kept hW (by simp)) hkc)
     obtain ⟨c, hcc⟩ : ∃ c, c = cs.getD k default := ⟨_, rfl⟩
     rw [← hcc] at c1 c2 c3 HVR
     have HC := Kh hcc
     have hCB : Hid (choB ps.length cs k = (decide (0 ≤ c.p ∧ c.p < np) && (refB cs k c.p c.y && refB cs k c.p c.n))) := Kh (by
      rw [hcc, HNP.out]; rfl)
     clear hcs hch hkc hcc
     obtain ⟨x, y, n⟩ := c
     simp only at c1 c2 c3 HVR hCB
     obtain ⟨by_, hby⟩ : ∃ b, b = refB cs k x y := ⟨_, rfl⟩
     obtain ⟨bn, hbn⟩ : ∃ b, b = refB cs k x n := ⟨_, rfl⟩
     have HVY := Kh (fun W hW => HVR.out W y hW)
     have HVN := Kh (fun W hW => HVR.out W n hW)
     rw [← hby] at HVY hCB
     rw [← hbn] at HVN hCB
     have hb2 := heap_alloc_new wr (.cells #[.int .i64 x, .int .i64 y, .int .i64 n] 45)
     have hg2 := World.grownBy_alloc wr (.cells #[.int .i64 x, .int .i64 y, .int .i64 n] 45) none
     obtain ⟨w2, hw2⟩ : ∃ w2, w2 = wr.alloc (.cells #[.int .i64 x, .int .i64 y, .int .i64 n] 45) := ⟨_, rfl⟩
     obtain ⟨R, hR⟩ : ∃ R, R = wr.heap.size := ⟨_, rfl⟩
     rw [← hw2] at hb2 hg2
     rw [← hR] at hb2
     have HW2 := Kh hw2; have HRE := Kh hR; have HB2 := Kh hb2; have HG2 := Kh hg2
     have HBP2 := Kh (zB (zB HB1.out hg (by simp)) hg2 (by simp))
     obtain ⟨p0, p1, p2⟩ := zL HBP2.out
     obtain ⟨r0, r1, r2⟩ := zL hb2
     clear hby hbn hw2 hR hb2 hg2 hg HVR
     go_upto_region 15 with fail
     rw [← HW2.out, ← HRE.out]
     clear c1 c2 c3
     by_cases hx0 : x < 0
     ·have HF : Hid (choB ps.length cs k = false) := Kh (by rw [hCB.out, show decide (0 ≤ x ∧ x < (np : Int)) = false by simp; omega]; rfl)
      go_wp2
      go_ret
      exact ⟨zW (by rw [HDE.out, vG (by rw [← HNC.out]; exact hk) HF.out]), zA HGA.out (zA HG.out HG2.out (by simp)) (by simp)⟩
     by_cases hx1 : (np : Int) ≤ x
     ·have HF : Hid (choB ps.length cs k = false) := Kh (by rw [hCB.out, show decide (0 ≤ x ∧ x < (np : Int)) = false by simp; omega]; rfl)
      go_wp2
      go_ret
      exact ⟨zW (by rw [HDE.out, vG (by rw [← HNC.out]; exact hk) HF.out]), zA HGA.out (zA HG.out HG2.out (by simp)) (by simp)⟩
     have hx2 : decide (0 ≤ x ∧ x < (np : Int)) = true := by simp; omega
     rw [hx2, Bool.true_and] at hCB
     clear hx2
     go_wp2_with fail
     refine (HVY.out _ HG2.out).mono ?_
     rintro e w3 ⟨rfl, hg3⟩
     have HG3 := Kh hg3
     have HBP3 := Kh (zB HBP2.out hg3 (by simp))
     have HB3 := Kh (zB HB2.out hg3 (by simp))
     obtain ⟨p0, p1, p2⟩ := zL HBP3.out
     obtain ⟨r0, r1, r2⟩ := zL HB3.out
     clear hg3 HVY
     cases by_ with
     | false =>
      have HF : Hid (choB ps.length cs k = false) := Kh (by rw [hCB.out]; rfl)
      go_wp2
      go_ret
      exact ⟨zW (by rw [HDE.out, vG (by rw [← HNC.out]; exact hk) HF.out]), zA HGA.out (zA (zA HG.out HG2.out (by simp)) HG3.out (by simp)) (by simp)⟩
     | true =>
      rw [Bool.true_and] at hCB
      go_wp2_with fail
      refine (HVN.out _ (zE HG2.out HG3.out)).mono ?_
      rintro e w4 ⟨rfl, hg4⟩
      have HG4 := Kh hg4
      clear hg4 HVN
      cases bn with
      | false =>
       have HF : Hid (choB ps.length cs k = false) := Kh hCB.out
       go_wp2
       go_ret
       exact ⟨zW (by rw [HDE.out, vG (by rw [← HNC.out]; exact hk) HF.out]), zA HGA.out (zA (zA (zA HG.out HG2.out (by simp)) HG3.out (by simp)) HG4.out (by simp)) (by simp)⟩
      | true =>
       go_wp2
       go_roundg (nc - (k + 1))
       case measure => have := HGH.out; omega
       case rel => exact ⟨k + 1, by have := HGH.out; omega, by go_num, pF HCT.out hCB.out, zA (zA (zA HG.out HG2.out (by simp)) HG3.out (by simp)) HG4.out (by simp)⟩
    ·have hkn' : ¬ (k : Int) < nc := by omega
     have HCE := Kh (kC (root := root) (by rw [← HNC.out]; exact hk) HCT.out)
     rw [← HNC.out] at HCE
     obtain ⟨p0, p1, p2⟩ := zL (zB HB1.out hg (by simp))
     clear hg
     by_cases h5 : root < 0
     ·go_wp2
      go_ret
      exact ⟨zW (by rw [HDE.out, HCE.out, if_neg (by omega)]), zA HGA.out (HG.out) (by simp)⟩
     by_cases h6 : 1 + (nc : Int) < root
     ·go_wp2
      go_ret
      exact ⟨zW (by rw [HDE.out, HCE.out, if_neg (by omega)]), zA HGA.out (HG.out) (by simp)⟩
     go_wp2
     go_ret
     exact ⟨zW (by rw [HDE.out, HCE.out, if_pos (by omega)]), zA HGA.out (HG.out) (by simp)⟩
end Go.Proofs.Ytjfdomfendbhfaa
