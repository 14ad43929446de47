/- Part 24 of the proof: NumOf. -/
import Derived.Test.YtgbfaggnnfoamaaZg23
set_option linter.unusedVariables false
set_option linter.unusedSimpArgs false
namespace Go.Proofs.Ytgbfaggnnfoamaa
open Go.RowKit Go.Maps
def zl (l : List Nat) : List Int := l.map fun (x : Nat) => (x : Int)
theorem oJ {l : List Nat} {x : Nat} : ((x : Nat) : Int) ∈ zl l ↔ x ∈ l := by
  simp only [zl, List.mem_map]
  exact ⟨fun ⟨y, hy, e⟩ => by have : y = x := by omega
                              exact this ▸ hy, fun h => ⟨x, h, rfl⟩⟩
theorem zl_idx {l : List Nat} {x : Nat} (h : x ∈ l) : (zl l).idxOf ((x : Nat) : Int) = l.idxOf x := idxOf_map_inj (fun (x : Nat) => (x : Int)) l x h (fun y _ e => by omega)
theorem lT (l : List Nat) : (zl l).length = l.length := by simp [zl]
theorem zl_snoc (l : List Nat) (x : Nat) : zl (l ++ [x]) = zl l ++ [(x : Int)] := by simp [zl]
def NF (o : Nat) (sa : Option Addr) (mv : Option Nat) (k : Nat) : Prop := k = o ∨ (Value.slice sa 0 0).ownBlock = some k ∨ mv = some k
structure NumSt (base : Nat) (W : World) (o : Nat) (sa : Option Addr) (sc : Nat) (mv : Option Nat) (l : List Nat) : Prop where
 box : W.heap[o]? = some (.cells #[.slice sa l.length sc, .map mv] 122 (0, 0))
 own : W.ownsRow base 3 1 (.slice sa l.length sc) l.length (nats l)
 map : (mv = none ∧ l = []) ∨ ∃ mb, mv = some mb ∧ base ≤ mb ∧ mb ≠ o ∧ (Value.slice sa 0 0).ownBlock ≠ some mb ∧ mb < W.heap.size ∧ vT W mb l.length (zl l)
 lo : base ≤ o
theorem NumSt.ge {base : Nat} {W : World} {o : Nat} {sa : Option Addr} {sc : Nat} {mv : Option Nat} {l : List Nat} (h : NumSt base W o sa sc mv l) : ∀ k, NF o sa mv k → base ≤ k ∧ k < W.heap.size := by
 rintro k (rfl | hk | hk)
 ·exact ⟨h.lo, zJ h.box⟩
 ·rw [← zI sa l.length sc] at hk; exact h.own.lt k hk
 ·rcases h.map with ⟨e, _⟩ | ⟨mb, e, h1, _, _, h2, _⟩
  ·rw [e] at hk; cases hk
  ·rw [e] at hk; have := Option.some.inj hk; subst this; exact ⟨h1, h2⟩
theorem NumSt.kept {base : Nat} {W W' : World} {o : Nat} {sa : Option Addr} {sc : Nat} {mv : Option Nat} {l : List Nat} {row : Option Nat} (h : NumSt base W o sa sc mv l) (hg : W.grownBy W' row) (hr : ∀ k, row = some k → ¬ NF o sa mv k) : NumSt base W' o sa sc mv l where
 box := zA h.box hg (fun e => hr o e (.inl rfl))
 own := h.own.kept hg (by
  rcases hv : (Value.slice sa l.length sc).ownBlock with _ | k
  ·exact .inl rfl
  ·exact .inr fun e => hr k e.symm (.inr (.inl (by rw [zI] at hv; exact hv))))
 map := by
  rcases h.map with h | ⟨mb, e, h1, h2, h3, h4, h5⟩
  ·exact .inl h
  ·exact .inr ⟨mb, e, h1, h2, h3, Nat.lt_of_lt_of_le h4 hg.size, h5.kept hg (fun e2 => hr mb e2 (.inr (.inr e)))⟩
 lo := h.lo
def lO (base : Nat) (W : World) (o : Nat) (sa : Option Addr) (mv : Option Nat) (l : List Nat) (x : Nat) (e : Ending) (W' : World) : Prop :=
 ∃ sa' sc' mv', e = .returned (.int .i64 (((yE l x).idxOf x : Nat) : Int)) ∧ NumSt base W' o sa' sc' mv' (yE l x) ∧ GrownBut W W' (NF o sa mv) ∧ ∀ k, NF o sa' mv' k → NF o sa mv k ∨ W.heap.size ≤ k
theorem addNew_idx_new {l : List Nat} {x : Nat} (h : x ∉ l) : (yE l x).idxOf x = l.length := by
 rw [xI h, List.idxOf_append, if_neg h]; simp
theorem xH {w : World} {p e : Nat} {x0 x1 : Value} (h : w.heap[p]? = some (.cells #[x0, x1] e (0, 0))) : w.cell? ⟨p, 0, none⟩ = some x0 ∧ w.cell? ⟨p, 1, none⟩ = some x1 := by
 have c0 := zO h 0 (by simp)
 have c1 := zO h 1 (by simp)
 exact ⟨by simpa using c0, by simpa using c1⟩
theorem oV {base : Nat} {W w2 w3 : World} {o mb : Nat} {sa sa' : Option Addr} {sc sc' : Nat} {mv : Option Nat} {l : List Nat} {x : Nat} (h0 : base ≤ o) (hx : x ∉ l)
  (hb2 : w2.heap[o]? = some (.cells #[.slice sa l.length sc, .map (some mb)] 122 (0, 0))) (hmb : mb ≠ o) (hmb0 : base ≤ mb) (hsm : (Value.slice sa 0 0).ownBlock ≠ some mb) (hmp : vT w2 mb (l.length + 1) (zl l ++ [(x : Int)]))
  (hso : (Value.slice sa 0 0).ownBlock ≠ some o) (hown : w3.ownsRow base 3 1 (.slice sa' (l.length + 1) sc') (l.length + 1) (nats l ++ [.int .i64 (x : Int)])) (hg : w2.grownBy w3 (Value.slice sa l.length sc).ownBlock) (hmv : lY w2 w3 (.slice sa l.length sc) (.slice sa' (l.length + 1) sc'))
  (hW : GrownBut W w2 (NF o sa mv)) (hnew : mv = some mb ∨ W.heap.size ≤ mb) :
  lO base W o sa mv l x (.returned (.int .i64 ((l.length : Nat) : Int))) (w3.setCell ⟨o, 0, none⟩ (.slice sa' (l.length + 1) sc')) := by
 have hb3 := zA hb2 hg (fun e => hso (by rw [zI] at e; exact e))
 have hs := heap_setCell_same w3 o 0 _ _ (.slice sa' (l.length + 1) sc') hb3
 have hgs := zC w3 ⟨o, 0, none⟩ (.slice sa' (l.length + 1) sc')
 have hlt2 := hmp.lt
 have hz := hg.size
 have hzs := hgs.size
 have hlen : (yE l x).length = l.length + 1 := by rw [xI hx]; simp
 have hsm' : (Value.slice sa' 0 0).ownBlock ≠ some mb := by
  intro e
  rw [← zI sa' (l.length + 1) sc'] at e
  rcases hmv with h | ⟨_, h⟩
  ·rw [h, zI] at e; exact hsm e
  ·have := h mb e; omega
 refine ⟨sa', sc', some mb, by rw [addNew_idx_new hx], ⟨?_, ?_, ?_, h0⟩, ?_, fun k hk => ?_⟩
 ·rw [hlen, hs]; simp
 ·rw [hlen, xI hx, nats_snoc]
  exact hown.kept hgs (.inr (zK hown hb3 (by decide)))
 ·refine .inr ⟨mb, rfl, hmb0, hmb, hsm', by omega, ?_⟩
  rw [hlen, xI hx, zl_snoc]
  refine (hmp.kept hg (fun e => hsm (by rw [zI] at e; exact e))).kept hgs (fun e => hmb (Option.some.inj e).symm)
 ·refine (hW.step hg fun k hk => ?_).step hgs fun k hk => ?_
  ·rw [zI] at hk; exact .inl (.inr (.inl hk))
  ·exact .inl (.inl (Option.some.inj hk).symm)
 ·rcases hk with rfl | hk | hk
  ·exact .inl (.inl rfl)
  ·rw [← zI sa' (l.length + 1) sc'] at hk
   rcases hmv with h | ⟨_, h⟩
   ·rw [h, zI] at hk; exact .inl (.inr (.inl hk))
   ·exact .inr (Nat.le_trans hW.size (h k hk))
  ·have := Option.some.inj hk; subst this
   rcases hnew with h | h
   ·exact .inl (.inr (.inr h))
   ·exact .inr h
set_option maxRecDepth 100000 in
set_option maxHeartbeats 800000 in
theorem oW (base : Nat) (W : World) (o : Nat) (sa : Option Addr) (sc : Nat) (mv : Option Nat) (l : List Nat) (x : Nat) (h : NumSt base W o sa sc mv l) (hb : base ≤ W.heap.size) (hl : l.length ≤ 1073741824) (hx : x < 4611686018427387904) :
  Calls Try.prog 90 #[.pointer (some ⟨o, 0, none⟩), .int .i64 (x : Int)] W (lO base W o sa mv l x) := by
 have hmm := @run_makeMap Try.prog
 have hmid : Mid (x : Int) := ⟨by omega, by omega⟩
 have hn0 : ∀ W, (binOp .eql 120 (.map none) (.map none)).run Try.prog W = .ok (.bool true) W := fun W => run_eql_map_nil W _ _ _ none wF
 have hn1 : ∀ W mb, (binOp .eql 120 (.map (some mb)) (.map none)).run Try.prog W = .ok (.bool false) W := fun W mb => run_eql_map_nil W _ _ _ (some mb) wF
 obtain ⟨c0, c1⟩ := xH h.box
 have f0 := zE h.box 0
 have f1 := zE h.box 1
 have hso : (Value.slice sa 0 0).ownBlock ≠ some o := by
  intro e
  rw [← zI sa l.length sc] at e
  exact zK h.own h.box (by decide) e
 have H := Kh h; have HSO := Kh hso; have HMID := Kh hmid
 clear hso hmid
 rcases h.map with ⟨rfl, rfl⟩ | ⟨mb, rfl, hmb0, hmb, hsm, hml, hmp⟩
 ·have hlk : (Instr.lookup 120 (.map none) (.int .i64 (x : Int)) true).run Try.prog W = .ok (.tuple #[.int .i64 0, .bool false]) W := Maps.look_nil true oF wF (pM W) (nN HMID.out)
  obtain ⟨w1, hw1⟩ : ∃ w1, w1 = W.setCell ⟨o, 1, none⟩ (.map (some W.heap.size)) := ⟨_, rfl⟩
  have hg1 := zC W ⟨o, 1, none⟩ (.map (some W.heap.size))
  have hb1 : w1.heap[o]? = some (.cells #[.slice sa ([] : List Nat).length sc, .map (some W.heap.size)] 122 (0, 0)) := by
   rw [hw1, heap_setCell_same W o 1 _ _ _ h.box]; simp
  have hz1 : w1.heap.size = W.heap.size := by rw [hw1]; simp [World.setCell]
  rw [← hw1] at hg1
  obtain ⟨ws, hws⟩ : ∃ ws, ws = w1.alloc (.map #[] 0) := ⟨_, rfl⟩
  have hgs := World.grownBy_alloc w1 (.map #[] 0) none
  have HMS := Kh (vT.made w1)
  rw [← hws] at hgs HMS
  rw [hz1] at HMS
  have hlo := zJ h.box
  have HBS := Kh (zA hb1 hgs (by simp)); have HWS := Kh hws; have HW1 := Kh hw1
  have HOS : Hid (ws.ownsRow base 3 1 (.slice sa ([] : List Nat).length sc) ([] : List Nat).length (nats [])) := Kh (yA (h.own.kept hg1 (.inr (by rw [zI]; exact HSO.out))) hgs)
  have HNS : Hid (GrownBut W ws (NF o sa none)) := Kh (((GrownBut.refl W _).step hg1 (fun k hk => .inl (.inl (Option.some.inj hk).symm))).step hgs (by simp))
  clear h hb1 hw1 hg1 hws hgs hz1
  have HSM : Hid ((Value.slice sa 0 0).ownBlock ≠ some W.heap.size) := Kh (fun e => by
   rw [← zI sa ([] : List Nat).length sc] at e
   have := (H.out.own.lt _ e).2; omega)
  have hms : W.heap.size ≠ o := by omega
  obtain ⟨M, hM⟩ : ∃ M, M = W.heap.size := ⟨_, rfl⟩
  have HME := Kh hM
  rw [← hM] at HMS HSM HBS
  have hMo : M ≠ o := by omega
  have hMb : base ≤ M := by omega
  have hMW : W.heap.size ≤ M := by omega
  clear hM
  go_enter Try.func90, Try.ntmps90
  go_upto_region 5 with fail
  rw [← HW1.out, ← HWS.out, ← HME.out]
  clear c0 c1 f0 f1 hlk
  obtain ⟨c0, c1⟩ := xH HBS.out
  have hmz := HMS.out.lt
  go_wp2_with (first | (at_mapUpdate; refine qY rfl _ _ _ rfl M 0 [] x rfl rfl rfl HMS.out (by unfold maxLen; omega) HMID.out (by simp) (by simp) ?_; intro w2 hmap2 hg2; (have HM2 := Kh hmap2); (have HG2 := Kh hg2); (have hbx := zA HBS.out hg2 (by simp; exact hMo)); (have HBX := Kh hbx); (obtain ⟨d0, d1⟩ := xH hbx); (have e0 := zE hbx 0); (have HO2 := Kh (HOS.out.kept hg2 (.inr (by rw [zI]; exact HSM.out)))); (have hz2 := hg2.size); clear hmap2 hbx hg2) | (at_builtin; refine lN rfl _ _ _ rfl wU base (.slice sa ([] : List Nat).length sc) ([] : List Nat).length (nats []) rfl HO2.out (.int .i64 (x : Int)) rfl rfl ?a1 ?a2 ?a3 ?_; (case a1 => (unfold maxLen; simp)); (case a2 => simp); (case a3 => omega); intro sa3 sc3 w3 hown3 hg3 hz3 hmv3; (have hb3 := zA HBX.out hg3 (by rw [zI]; exact HSO.out)); (obtain ⟨b0, b1⟩ := xH hb3); (have e3 := zE hb3 0)) | fail)
  go_ret
  exact oV (l := []) H.out.lo (by simp) HBX.out hMo hMb HSM.out HM2.out HSO.out hown3 hg3 hmv3 (HNS.out.step HG2.out (fun k hk => .inr (by have := Option.some.inj hk; omega))) (.inr hMW)
 ·clear h
  by_cases hin : x ∈ l
  ·have hlk := hmp.lookup HMID.out
   rw [if_pos (oJ.2 hin), decide_eq_true (oJ.2 hin), zl_idx hin] at hlk
   have HIN := Kh hin
   clear hin hmp
   go_enter Try.func90, Try.ntmps90
   go_wp2
   go_ret
   have e := wZ HIN.out
   exact ⟨sa, sc, some mb, zY (by rw [e]), by rw [e]; exact H.out, GrownBut.refl _ _, fun k hk => .inl hk⟩
  ·have hlk := hmp.lookup HMID.out
   rw [if_neg (fun hh => hin (oJ.1 hh)), decide_eq_false (fun hh => hin (oJ.1 hh))] at hlk
   have HIN := Kh hin; have HMP := Kh hmp; have HNI : Hid ((x : Int) ∉ zl l) := Kh (fun hh => hin (oJ.1 hh))
   have hzl := lT l
   have HSM := Kh hsm
   clear hin hmp hsm
   have HOW := Kh H.out.own
   go_enter Try.func90, Try.ntmps90
   go_wp2_with (first | (at_mapUpdate; refine qY rfl _ _ _ rfl mb l.length (zl l) x rfl rfl ?q1 HMP.out (by unfold maxLen; omega) HMID.out HNI.out (by omega) ?_; (case q1 => (rw [hzl]; rfl)); intro w2 hmap2 hg2; (have HM2 := Kh hmap2); (have HG2 := Kh hg2); (have hbx := zA H.out.box hg2 (by simp; exact hmb)); (have HBX := Kh hbx); (obtain ⟨d0, d1⟩ := xH hbx); (have e0 := zE hbx 0); (have HO2 := Kh (HOW.out.kept hg2 (.inr (by rw [zI]; exact HSM.out)))); (have hz2 := hg2.size); clear hmap2 hbx hg2) | (at_builtin; refine lN rfl _ _ _ rfl wU base (.slice sa l.length sc) l.length (nats l) rfl HO2.out (.int .i64 (x : Int)) rfl rfl ?a1 ?a2 ?a3 ?_; (case a1 => (unfold maxLen; omega)); (case a2 => omega); (case a3 => omega); intro sa3 sc3 w3 hown3 hg3 hz3 hmv3; (have hb3 := zA HBX.out hg3 (by rw [zI]; exact HSO.out)); (obtain ⟨b0, b1⟩ := xH hb3); (have e3 := zE hb3 0)) | fail)
   go_ret
   exact oV H.out.lo HIN.out HBX.out hmb hmb0 HSM.out HM2.out HSO.out hown3 hg3 hmv3 ((GrownBut.refl W _).step HG2.out (fun k hk => .inl (.inr (.inr hk)))) (.inl rfl)
end Go.Proofs.Ytgbfaggnnfoamaa
