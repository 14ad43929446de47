/- Part 19 of the proof: NumOf, Pat. -/
import Derived.Test.YtgbfaggnnfoamaaZi18
set_option linter.unusedVariables false
set_option linter.unusedSimpArgs false
namespace Go.Proofs.Ytgbfaggnnfoamaa
open Go.RowKit Go.Maps
def zl (l : List Nat) : List Int := l.map fun (x : Nat) => (x : Int)
theorem jA {l : List Nat} {x : Nat} : ((x : Nat) : Int) ∈ zl l ↔ x ∈ l := by
  simp only [zl, List.mem_map]
  exact ⟨fun ⟨y, hy, e⟩ => by have : y = x := by omega
                              exact this ▸ hy, fun h => ⟨x, h, rfl⟩⟩
theorem zl_idx {l : List Nat} {x : Nat} (h : x ∈ l) : (zl l).idxOf ((x : Nat) : Int) = l.idxOf x := idxOf_map_inj (fun (x : Nat) => (x : Int)) l x h (fun y _ e => by omega)
theorem zl_len (l : List Nat) : (zl l).length = l.length := by simp [zl]
theorem zl_snoc (l : List Nat) (x : Nat) : zl (l ++ [x]) = zl l ++ [(x : Int)] := by simp [zl]
def NF (o : Nat) (sa : Option Addr) (mv : Option Nat) (k : Nat) : Prop := k = o ∨ (Value.slice sa 0 0).ownBlock = some k ∨ mv = some k
structure NumSt (base : Nat) (W : World) (o : Nat) (sa : Option Addr) (sc : Nat) (mv : Option Nat) (l : List Nat) : Prop where
 box : W.heap[o]? = some (.cells #[.slice sa l.length sc, .map mv] 122 (0, 0))
 own : W.ownsRow base 3 1 (.slice sa l.length sc) l.length (nats l)
 map : (mv = none ∧ l = []) ∨ ∃ mb, mv = some mb ∧ base ≤ mb ∧ mb ≠ o ∧ (Value.slice sa 0 0).ownBlock ≠ some mb ∧ mb < W.heap.size ∧ uO W mb l.length (zl l)
 lo : base ≤ o
theorem NumSt.ge {base : Nat} {W : World} {o : Nat} {sa : Option Addr} {sc : Nat} {mv : Option Nat} {l : List Nat} (h : NumSt base W o sa sc mv l) : ∀ k, NF o sa mv k → base ≤ k ∧ k < W.heap.size := by
 rintro k (rfl | hk | hk)
 ·exact ⟨h.lo, zQ h.box⟩
 ·rw [← zN sa l.length sc] at hk; exact h.own.lt k hk
 ·rcases h.map with ⟨e, _⟩ | ⟨mb, e, h1, _, _, h2, _⟩
  ·rw [e] at hk; cases hk
  ·rw [e] at hk; have := Option.some.inj hk; subst this; exact ⟨h1, h2⟩
theorem NumSt.kept {base : Nat} {W W' : World} {o : Nat} {sa : Option Addr} {sc : Nat} {mv : Option Nat} {l : List Nat} {row : Option Nat} (h : NumSt base W o sa sc mv l) (hg : W.grownBy W' row) (hr : ∀ k, row = some k → ¬ NF o sa mv k) : NumSt base W' o sa sc mv l where
 box := zA h.box hg (fun e => hr o e (.inl rfl))
 own := h.own.kept hg (by
  rcases hv : (Value.slice sa l.length sc).ownBlock with _ | k
  ·exact .inl rfl
  ·exact .inr fun e => hr k e.symm (.inr (.inl (by rw [zN] at hv; exact hv))))
 map := by
  rcases h.map with h | ⟨mb, e, h1, h2, h3, h4, h5⟩
  ·exact .inl h
  ·exact .inr ⟨mb, e, h1, h2, h3, Nat.lt_of_lt_of_le h4 hg.size, h5.kept hg (fun e2 => hr mb e2 (.inr (.inr e)))⟩
 lo := h.lo
def NumOfOk (base : Nat) (W : World) (o : Nat) (sa : Option Addr) (mv : Option Nat) (l : List Nat) (x : Nat) (e : Ending) (W' : World) : Prop :=
 ∃ sa' sc' mv', e = .returned (.int .i64 (((yS l x).idxOf x : Nat) : Int)) ∧ NumSt base W' o sa' sc' mv' (yS l x) ∧ GrownBut W W' (NF o sa mv) ∧ ∀ k, NF o sa' mv' k → NF o sa mv k ∨ W.heap.size ≤ k
theorem addNew_idx_new {l : List Nat} {x : Nat} (h : x ∉ l) : (yS l x).idxOf x = l.length := by
 rw [xR h, List.idxOf_append, if_neg h]; simp
theorem wD {w : World} {p e : Nat} {x0 x1 : Value} (h : w.heap[p]? = some (.cells #[x0, x1] e (0, 0))) : w.cell? ⟨p, 0, none⟩ = some x0 ∧ w.cell? ⟨p, 1, none⟩ = some x1 := by
 have c0 := zK h 0 (by simp)
 have c1 := zK h 1 (by simp)
 exact ⟨by simpa using c0, by simpa using c1⟩
theorem jR {base : Nat} {W w2 w3 : World} {o mb : Nat} {sa sa' : Option Addr} {sc sc' : Nat} {mv : Option Nat} {l : List Nat} {x : Nat} (h0 : base ≤ o) (hx : x ∉ l)
  (hb2 : w2.heap[o]? = some (.cells #[.slice sa l.length sc, .map (some mb)] 122 (0, 0))) (hmb : mb ≠ o) (hmb0 : base ≤ mb) (hsm : (Value.slice sa 0 0).ownBlock ≠ some mb) (hmp : uO w2 mb (l.length + 1) (zl l ++ [(x : Int)]))
  (hso : (Value.slice sa 0 0).ownBlock ≠ some o) (hown : w3.ownsRow base 3 1 (.slice sa' (l.length + 1) sc') (l.length + 1) (nats l ++ [.int .i64 (x : Int)])) (hg : w2.grownBy w3 (Value.slice sa l.length sc).ownBlock) (hmv : lC w2 w3 (.slice sa l.length sc) (.slice sa' (l.length + 1) sc'))
  (hW : GrownBut W w2 (NF o sa mv)) (hnew : mv = some mb ∨ W.heap.size ≤ mb) :
  NumOfOk base W o sa mv l x (.returned (.int .i64 ((l.length : Nat) : Int))) (w3.setCell ⟨o, 0, none⟩ (.slice sa' (l.length + 1) sc')) := by
 have hb3 := zA hb2 hg (fun e => hso (by rw [zN] at e; exact e))
 have hs := heap_setCell_same w3 o 0 _ _ (.slice sa' (l.length + 1) sc') hb3
 have hgs := zC w3 ⟨o, 0, none⟩ (.slice sa' (l.length + 1) sc')
 have hlt2 := hmp.lt
 have hz := hg.size
 have hzs := hgs.size
 have hlen : (yS l x).length = l.length + 1 := by rw [xR hx]; simp
 have hsm' : (Value.slice sa' 0 0).ownBlock ≠ some mb := by
  intro e
  rw [← zN sa' (l.length + 1) sc'] at e
  rcases hmv with h | ⟨_, h⟩
  ·rw [h, zN] at e; exact hsm e
  ·have := h mb e; omega
 refine ⟨sa', sc', some mb, by rw [addNew_idx_new hx], ⟨?_, ?_, ?_, h0⟩, ?_, fun k hk => ?_⟩
 ·rw [hlen, hs]; simp
 ·rw [hlen, xR hx, rE]
  exact hown.kept hgs (.inr (zM hown hb3 (by decide)))
 ·refine .inr ⟨mb, rfl, hmb0, hmb, hsm', by omega, ?_⟩
  rw [hlen, xR hx, zl_snoc]
  refine (hmp.kept hg (fun e => hsm (by rw [zN] at e; exact e))).kept hgs (fun e => hmb (Option.some.inj e).symm)
 ·refine (hW.step hg fun k hk => ?_).step hgs fun k hk => ?_
  ·rw [zN] at hk; exact .inl (.inr (.inl hk))
  ·exact .inl (.inl (Option.some.inj hk).symm)
 ·rcases hk with rfl | hk | hk
  ·exact .inl (.inl rfl)
  ·rw [← zN sa' (l.length + 1) sc'] at hk
   rcases hmv with h | ⟨_, h⟩
   ·rw [h, zN] at hk; exact .inl (.inr (.inl hk))
   ·exact .inr (Nat.le_trans hW.size (h k hk))
  ·have := Option.some.inj hk; subst this
   rcases hnew with h | h
   ·exact .inl (.inr (.inr h))
   ·exact .inr h
set_option maxRecDepth 100000 in
set_option maxHeartbeats 800000 in
theorem jS (base : Nat) (W : World) (o : Nat) (sa : Option Addr) (sc : Nat) (mv : Option Nat) (l : List Nat) (x : Nat) (h : NumSt base W o sa sc mv l) (hb : base ≤ W.heap.size) (hl : l.length ≤ 1073741824) (hx : x < 4611686018427387904) :
  Calls Try.prog 90 #[.pointer (some ⟨o, 0, none⟩), .int .i64 (x : Int)] W (NumOfOk base W o sa mv l x) := by
 have hmm := @run_makeMap Try.prog
 have hmid : Mid (x : Int) := ⟨by omega, by omega⟩
 have hn0 : ∀ W, (binOp .eql 120 (.map none) (.map none)).run Try.prog W = .ok (.bool true) W := fun W => run_eql_map_nil W _ _ _ none vV
 have hn1 : ∀ W mb, (binOp .eql 120 (.map (some mb)) (.map none)).run Try.prog W = .ok (.bool false) W := fun W mb => run_eql_map_nil W _ _ _ (some mb) vV
 obtain ⟨c0, c1⟩ := wD h.box
 have f0 := zD h.box 0
 have f1 := zD h.box 1
 have hso : (Value.slice sa 0 0).ownBlock ≠ some o := by
  intro e
  rw [← zN sa l.length sc] at e
  exact zM h.own h.box (by decide) e
 have H := Kh h; have HSO := Kh hso; have HMID := Kh hmid
 clear hso hmid
 rcases h.map with ⟨rfl, rfl⟩ | ⟨mb, rfl, hmb0, hmb, hsm, hml, hmp⟩
 ·have hlk : (Instr.lookup 120 (.map none) (.int .i64 (x : Int)) true).run Try.prog W = .ok (.tuple #[.int .i64 0, .bool false]) W := Maps.look_nil true kW vV (nO W) (mid_key HMID.out)
  obtain ⟨w1, hw1⟩ : ∃ w1, w1 = W.setCell ⟨o, 1, none⟩ (.map (some W.heap.size)) := ⟨_, rfl⟩
  have hg1 := zC W ⟨o, 1, none⟩ (.map (some W.heap.size))
  have hb1 : w1.heap[o]? = some (.cells #[.slice sa ([] : List Nat).length sc, .map (some W.heap.size)] 122 (0, 0)) := by
   rw [hw1, heap_setCell_same W o 1 _ _ _ h.box]; simp
  have hz1 : w1.heap.size = W.heap.size := by rw [hw1]; simp [World.setCell]
  rw [← hw1] at hg1
  obtain ⟨ws, hws⟩ : ∃ ws, ws = w1.alloc (.map #[] 0) := ⟨_, rfl⟩
  have hgs := World.grownBy_alloc w1 (.map #[] 0) none
  have HMS := Kh (uO.made w1)
  rw [← hws] at hgs HMS
  rw [hz1] at HMS
  have hlo := zQ h.box
  have HBS := Kh (zA hb1 hgs (by simp)); have HWS := Kh hws; have HW1 := Kh hw1
  have HOS : Hid (ws.ownsRow base 3 1 (.slice sa ([] : List Nat).length sc) ([] : List Nat).length (nats [])) := Kh (yB (h.own.kept hg1 (.inr (by rw [zN]; exact HSO.out))) hgs)
  have HNS : Hid (GrownBut W ws (NF o sa none)) := Kh (((GrownBut.refl W _).step hg1 (fun k hk => .inl (.inl (Option.some.inj hk).symm))).step hgs (by simp))
  clear h hb1 hw1 hg1 hws hgs hz1
  have HSM : Hid ((Value.slice sa 0 0).ownBlock ≠ some W.heap.size) := Kh (fun e => by
   rw [← zN sa ([] : List Nat).length sc] at e
   have := (H.out.own.lt _ e).2; omega)
  have hms : W.heap.size ≠ o := by omega
  obtain ⟨M, hM⟩ : ∃ M, M = W.heap.size := ⟨_, rfl⟩
  have HME := Kh hM
  rw [← hM] at HMS HSM HBS
  have hMo : M ≠ o := by omega
  have hMb : base ≤ M := by omega
  have hMW : W.heap.size ≤ M := by omega
  clear hM
  go_enter Try.func90, Try.ntmps90
  go_upto_region 5 with fail
  rw [← HW1.out, ← HWS.out, ← HME.out]
  clear c0 c1 f0 f1 hlk
  obtain ⟨c0, c1⟩ := wD HBS.out
  have hmz := HMS.out.lt
  go_wp2_with (first | (at_mapUpdate; refine oJ rfl _ _ _ rfl M 0 [] x rfl rfl rfl HMS.out (by unfold maxLen; omega) HMID.out (by simp) (by simp) ?_; intro w2 hmap2 hg2; (have HM2 := Kh hmap2); (have HG2 := Kh hg2); (have hbx := zA HBS.out hg2 (by simp; exact hMo)); (have HBX := Kh hbx); (obtain ⟨d0, d1⟩ := wD hbx); (have e0 := zD hbx 0); (have HO2 := Kh (HOS.out.kept hg2 (.inr (by rw [zN]; exact HSM.out)))); (have hz2 := hg2.size); clear hmap2 hbx hg2) | (at_builtin; refine app1s rfl _ _ _ rfl xI base (.slice sa ([] : List Nat).length sc) ([] : List Nat).length (nats []) rfl HO2.out (.int .i64 (x : Int)) rfl rfl ?a1 ?a2 ?a3 ?_; (case a1 => (unfold maxLen; simp)); (case a2 => simp); (case a3 => omega); intro sa3 sc3 w3 hown3 hg3 hz3 hmv3; (have hb3 := zA HBX.out hg3 (by rw [zN]; exact HSO.out)); (obtain ⟨b0, b1⟩ := wD hb3); (have e3 := zD hb3 0)) | fail)
  go_ret
  exact jR (l := []) H.out.lo (by simp) HBX.out hMo hMb HSM.out HM2.out HSO.out hown3 hg3 hmv3 (HNS.out.step HG2.out (fun k hk => .inr (by have := Option.some.inj hk; omega))) (.inr hMW)
 ·clear h
  by_cases hin : x ∈ l
  ·have hlk := hmp.lookup HMID.out
   rw [if_pos (jA.2 hin), decide_eq_true (jA.2 hin), zl_idx hin] at hlk
   have HIN := Kh hin
   clear hin hmp
   go_enter Try.func90, Try.ntmps90
   go_wp2
   go_ret
   have e := wU HIN.out
   exact ⟨sa, sc, some mb, yL (by rw [e]), by rw [e]; exact H.out, GrownBut.refl _ _, fun k hk => .inl hk⟩
  ·have hlk := hmp.lookup HMID.out
   rw [if_neg (fun hh => hin (jA.1 hh)), decide_eq_false (fun hh => hin (jA.1 hh))] at hlk
   have HIN := Kh hin; have HMP := Kh hmp; have HNI : Hid ((x : Int) ∉ zl l) := Kh (fun hh => hin (jA.1 hh))
   have hzl := zl_len l
   have HSM := Kh hsm
   clear hin hmp hsm
   have HOW := Kh H.out.own
   go_enter Try.func90, Try.ntmps90
   go_wp2_with (first | (at_mapUpdate; refine oJ rfl _ _ _ rfl mb l.length (zl l) x rfl rfl ?q1 HMP.out (by unfold maxLen; omega) HMID.out HNI.out (by omega) ?_; (case q1 => (rw [hzl]; rfl)); intro w2 hmap2 hg2; (have HM2 := Kh hmap2); (have HG2 := Kh hg2); (have hbx := zA H.out.box hg2 (by simp; exact hmb)); (have HBX := Kh hbx); (obtain ⟨d0, d1⟩ := wD hbx); (have e0 := zD hbx 0); (have HO2 := Kh (HOW.out.kept hg2 (.inr (by rw [zN]; exact HSM.out)))); (have hz2 := hg2.size); clear hmap2 hbx hg2) | (at_builtin; refine app1s rfl _ _ _ rfl xI base (.slice sa l.length sc) l.length (nats l) rfl HO2.out (.int .i64 (x : Int)) rfl rfl ?a1 ?a2 ?a3 ?_; (case a1 => (unfold maxLen; omega)); (case a2 => omega); (case a3 => omega); intro sa3 sc3 w3 hown3 hg3 hz3 hmv3; (have hb3 := zA HBX.out hg3 (by rw [zN]; exact HSO.out)); (obtain ⟨b0, b1⟩ := wD hb3); (have e3 := zD hb3 0)) | fail)
   go_ret
   exact jR H.out.lo HIN.out HBX.out hmb hmb0 HSM.out HM2.out HSO.out hown3 hg3 hmv3 ((GrownBut.refl W _).step HG2.out (fun k hk => .inl (.inr (.inr hk)))) (.inl rfl)
end Go.Proofs.Ytgbfaggnnfoamaa
namespace Go.Proofs.Ytgbfaggnnfoamaa
open Go.RowKit
def vF (bs : List ByteArray) : Nat := (bs.map (·.size)).sum
def wP (n : Nat) (letters : Int) (i : Nat) (u : ByteArray) : Bool := zU u letters && !(decide (0 < i ∧ i + 1 < n) && u.toList.isEmpty)
def xF (n : Nat) (letters : Int) : Nat → List ByteArray → Bool
 | _, [] => true
 | i, u :: us => wP n letters i u && xF n letters (i + 1) us
def zT (bs : List ByteArray) (letters : Int) : Int :=
 if letters < 1 ∨ 6 < letters then 1 else if 8 < bs.length then 3 else if 64 < vF bs then 3
 else if bs.length = 0 then 22 else if xF bs.length letters 0 bs then 0 else 22
theorem rR (bs : List ByteArray) (k : Nat) (hk : k < bs.length) : vF (bs.take (k + 1)) = vF (bs.take k) + bs[k].size := by
 rw [List.take_succ_eq_append_getElem hk]; simp only [vF, List.map_append, List.sum_append]; simp
theorem total_take (bs : List ByteArray) (hs : ∀ i (h : i < bs.length), bs[i].size ≤ 140737488351232) (k : Nat) (hk : k ≤ bs.length) : vF (bs.take k) ≤ k * 140737488351232 := by
 induction k with
 | zero => simp [vF]
 | succ k ih => rw [rR bs k (by omega)]; have := hs k (by omega); have := ih (by omega); omega
theorem mO (bs : List ByteArray) (letters : Int) (j : Nat) (hj : j < bs.length) : xF bs.length letters j (bs.drop j) = (wP bs.length letters j bs[j] && xF bs.length letters (j + 1) (bs.drop (j + 1))) := by
 rw [List.drop_eq_getElem_cons hj]; rfl
theorem qW {bs : List ByteArray} {letters : Int} {j : Nat} (hj : j < bs.length) (hb : wP bs.length letters j bs[j] = true) (h : xF bs.length letters j (bs.drop j) = xF bs.length letters 0 bs) :
  xF bs.length letters (j + 1) (bs.drop (j + 1)) = xF bs.length letters 0 bs := by
 rw [← h, mO bs letters j hj, hb, Bool.true_and]
theorem oM {bs : List ByteArray} {letters : Int} {j : Nat} (hj : j < bs.length) (hb : wP bs.length letters j bs[j] = false) (h : xF bs.length letters j (bs.drop j) = xF bs.length letters 0 bs) :
  xF bs.length letters 0 bs = false := by
 rw [← h, mO bs letters j hj, hb, Bool.false_and]
theorem qX {n j : Nat} {letters : Int} {u : ByteArray} (h1 : zU u letters = true) (h2 : (j = 0 ∨ ¬ (j : Int) < n - 1) ∨ u.toList.isEmpty = false) : wP n letters j u = true := by
 unfold wP
 rcases h2 with h2 | h2
 ·have : decide (0 < j ∧ j + 1 < n) = false := by simp; omega
  simp [h1, this]
 ·simp [h1, h2]
theorem qZ {n j : Nat} {letters : Int} {u : ByteArray} (h1 : ¬ zU u letters = true) : wP n letters j u = false := by
 simp [wP, h1]
theorem qY {n j : Nat} {letters : Int} {u : ByteArray} (h : 0 < j) (h1 : (j : Int) < n - 1) (h2 : u.toList.isEmpty = true) : wP n letters j u = false := by
 have : decide (0 < j ∧ j + 1 < n) = true := by simp; omega
 simp [wP, this, h2]
theorem vW {bs : List ByteArray} {letters : Int} (h1 : ¬ letters < 1) (h2 : ¬ 6 < letters) (h3 : ¬ 8 < bs.length) (h4 : ¬ 64 < vF bs) (h5 : ¬ bs.length = 0) :
  zT bs letters = if xF bs.length letters 0 bs then 0 else 22 := by
 unfold zT
 rw [if_neg (by omega), if_neg h3, if_neg h4, if_neg h5]
set_option maxHeartbeats 400000 in
theorem validate_any (b off cap : Nat) (bs : List ByteArray) (letters : Int) (w : World)
    (hcap : bs.length ≤ cap) (hcm : cap ≤ maxLen) (hc : ∀ i (h : i < bs.length), w.cell? ⟨b, off + i, none⟩ = some (.string bs[i])) (hb : b < w.heap.size)
    (hs : ∀ i (h : i < bs.length), bs[i].size ≤ 140737488351232) :
    Calls Try.prog 35 #[.agg #[.slice (some ⟨b, off, none⟩) bs.length cap], .int .i64 letters] w fun e w' => e = .returned (.int .i64 (zT bs letters)) ∧ w.grownBy w' none := by
  unfold maxLen at hcm
  by_cases h1 : letters < 1
  · go_enter Try.func35, Try.ntmps35
    go_wp2
    go_ret
    exact ⟨yL (by simp [zT, h1]), World.grownBy_alloc _ _ _⟩
  by_cases h2 : 6 < letters
  · go_enter Try.func35, Try.ntmps35
    go_wp2
    go_ret
    exact ⟨yL (by simp [zT, h2]), World.grownBy_alloc _ _ _⟩
  by_cases h3 : 8 < bs.length
  · go_enter Try.func35, Try.ntmps35
    go_wp2
    go_ret
    exact ⟨yL (by simp [zT, h1, h2, h3]), World.grownBy_alloc _ _ _⟩
  go_enter Try.func35, Try.ntmps35
  go_wp2
  go_loop [5, 24] (fun t i => ∃ k : Nat, k ≤ bs.length ∧ i = .int .i64 k ∧ t = .int .i64 (vF (bs.take k))) (fun _ i => bs.length - (intOf i).toNat)
  case atStart => exact ⟨0, Nat.zero_le _, rfl, rfl⟩
  case round =>
    obtain ⟨k, hk, rfl, rfl⟩ := hrel
    have hT := total_take bs hs k hk
    by_cases hlt : k < bs.length
    · have hck := hc k hlt
      have hsk := hs k hlt
      have HS := Kh (rR bs k hlt)
      go_wp2
      go_round
      case rel => exact ⟨k + 1, by omega, by go_num, by rw [HS.out]; go_num⟩
      case measure => simp [intOf]; omega
    · have HK := Kh (show vF (bs.take k) = vF bs by rw [List.take_of_length_le (by omega)])
      by_cases h4 : 64 < vF (bs.take k)
      · go_wp2
        go_ret
        exact ⟨yL (by rw [HK.out] at h4; simp [zT, h1, h2, h3, h4]), World.grownBy_alloc _ _ _⟩
      by_cases h5 : bs.length = 0
      · have h5' : ((bs.length : Int) == 0) = true := by simp [h5]
        have H5 := Kh h5; clear h5
        go_wp2
        go_ret
        exact ⟨yL (by rw [HK.out] at h4; simp [zT, h1, h2, h4, H5.out]), World.grownBy_alloc _ _ _⟩
      have h5' : ((bs.length : Int) == 0) = false := by rw [beq_eq_false_iff_ne]; omega
      go_wp2
      go_loop [42] (fun i => ∃ k : Nat, k ≤ bs.length ∧ i = .int .i64 k ∧ xF bs.length letters k (bs.drop k) = xF bs.length letters 0 bs) (fun i => bs.length - (intOf i).toNat)
      case atStart => exact ⟨0, Nat.zero_le _, rfl, rfl⟩
      case round =>
        obtain ⟨j, hj, rfl, hrel⟩ := hrel
        have HR := Kh hrel; clear hrel
        by_cases hlt : j < bs.length
        · have hcj := hc j hlt
          have hsj := hs j hlt
          go_wp2_with (go_at_call 36; refine (uL _ _ _ (by unfold maxLen; omega)).mono ?_; rintro e w' ⟨rfl, rfl⟩)
          all_goals first
            | (go_ret
               exact ⟨yL (by rw [vW (by omega) (by omega) (by omega) (by rw [← HK.out]; omega) (by omega), oM hlt (by first | exact qY (by assumption) (by assumption) (by assumption) | exact qZ (by assumption)) HR.out]; rfl), World.grownBy_alloc _ _ _⟩)
            | (go_round
               case rel => exact ⟨j + 1, by omega, by go_num, qW hlt (qX (by assumption) (by first | (left; omega) | (right; assumption))) HR.out⟩
               case measure => simp [intOf]; omega)
        · go_wp2
          go_ret
          have e : xF bs.length letters j (bs.drop j) = true := by rw [List.drop_eq_nil_of_le (by omega)]; rfl
          exact ⟨yL (by rw [vW (by omega) (by omega) (by omega) (by rw [← HK.out]; omega) (by omega), ← HR.out, e]; rfl), World.grownBy_alloc _ _ _⟩
end Go.Proofs.Ytgbfaggnnfoamaa
