/- Part 37 of the proof: CDcd. -/
import Derived.Test.YtjfdomfendbhfaaQb36
set_option linter.unusedVariables false
set_option linter.unusedSimpArgs false
namespace Go.Proofs.Ytjfdomfendbhfaa
open Go.RowKit Go.Maps
def BdRet (w0 : World) (B : Nat) (X : Nat → Prop) (o mb np : Nat) (w : World) (cs : List ChoV) (l : List ClaV) (p : Nat) (e : Ending) (w' : World) : Prop :=
 ∃ cs' r, e = .returned (.int .i64 r) ∧ BldS w0 B X o mb w cs' w' ∧ DecOk np cs cs' l p r
theorem lE {w : World} {p e : Nat} {x0 x1 : Value} {m : Nat × Nat} (h : w.heap[p]? = some (.cells #[x0, x1] e m)) : w.cell? ⟨p, 0, none⟩ = some x0 ∧ w.cell? ⟨p, 1, none⟩ = some x1 := by
 have c0 := zO h 0 (by simp)
 have c1 := zO h 1 (by simp)
 exact ⟨by simpa using c0, by simpa using c1⟩
theorem alike_more {l : List ClaV} {np p : Nat} (hc : ClsOk np l) (ha : pV l p) (hk : sU l = false) (hp : p ≤ np) : p < np := by
 rcases Nat.lt_or_ge p np with h | h
 ·exact h
 ·have : p = np := by omega
  subst this
  have := const_of_one (ha.one hc)
  rw [this] at hk; cases hk
theorem const_all {l : List ClaV} (h : sU l = true) : ∀ c ∈ l, c.b = (l.headD default).b := fun c hc => by
 rw [sU, List.all_eq_true] at h
 simpa using h c hc
theorem BldS.end_ {w0 w w1 w' : World} {B o mb : Nat} {X Y : Nat → Prop} {cs c0 cs' : List ChoV} (h0 : BldS w0 B X o mb w cs w) (hg : w.grownBy w1 none) (h1 : BldS w0 B (fun k => X k ∨ Y k) o mb w1 c0 w') (h : BldS w0 B (fun k => X k ∨ Y k) o mb w1 cs' w') : BldS w0 B X o mb w cs' w' := by
 obtain ⟨sa, cap, u, c, hB, hM, hmx, hmb, hu⟩ := h0
 exact h.back (fun q hq => .inl hq) (hB.mem.keep hg) hg.size hB.base
set_option maxRecDepth 100000 in
set_option maxHeartbeats 3200000 in
theorem bdecide_any (w0 : World) (B o mb np : Nat) (hnp : np ≤ 300) (N : Nat) : ∀ (X : Nat → Prop) (w : World) (v : Value) (l : List ClaV) (cs : List ChoV) (p : Nat), l.length ≤ N → 0 < l.length → ClsX X w v l → BldS w0 B X o mb w cs w → ClsOk np l → pV l p → p ≤ np → wF np cs cs.length → cs.Nodup → cs.length + l.length ≤ 4000 →
  Calls Try.prog 86 #[.pointer (some ⟨o, 0, none⟩), v, .int .i64 (p : Int)] w (BdRet w0 B X o mb np w cs l p) := by
 induction N with
 | zero => intro X w v l cs p hN h0; omega
 | succ N IH0 =>
  intro X w v l cs p hN h0 hv hb hcl ha hp hch hnd hsz
  have IH := Kh IH0
  clear IH0
  obtain ⟨va, vc, rfl⟩ := hv.shape
  obtain ⟨n, hn⟩ : ∃ n, n = l.length := ⟨_, rfl⟩
  have HN := Kh hn
  have HV := Kh hv; have HB := Kh hb; have HCL := Kh hcl; have HA := Kh ha; have HCH := Kh hch; have HND := Kh hnd
  rw [← hn] at HV hN h0 hsz ⊢
  have HCON : Hid (Calls Try.prog 112 #[.slice va n vc] w fun e w' => e = .returned (.tuple #[.int .i64 (conR l), .bool (sU l)]) ∧ w.grownBy w' none) := Kh (constant_any X w _ l HV.out)
  obtain ⟨cb, hcb⟩ : ∃ cb, cb = sU l := ⟨_, rfl⟩
  obtain ⟨cr, hcr⟩ : ∃ cr, cr = conR l := ⟨_, rfl⟩
  rw [← hcb, ← hcr] at HCON
  have HCB := Kh hcb; have HCR := Kh hcr
  clear hv hb hcl ha hch hnd hn hcb hcr
  go_enter Try.func86, Try.ntmps86
  go_wp2_with fail
  refine HCON.out.mono ?_
  rintro e w1 ⟨rfl, hg1⟩
  have HG1 := Kh hg1
  clear hg1 HCON
  cases cb with
  | true =>
   go_wp2
   go_ret
   refine ⟨cs, cr, rfl, HB.out.grow HG1.out, ?_⟩
   have e1 : cr = lG (l.headD default).b := by rw [HCR.out, conR, if_pos ⟨HCB.out.symm, by rw [← HN.out]; exact h0⟩]
   rw [e1]
   exact DecOk.const HCH.out HND.out (by rw [← HN.out]; exact h0) (const_all HCB.out.symm)
  | false =>
   go_wp2
   go_loopg [2, 9, 10, 11, 12, 13] (np - p) (fun gh v2 v9 v10 v11 v12 v13 wr => ∃ q : Nat, gh + q = np ∧ p ≤ q ∧ v2 = .int .i64 q ∧ pV l q ∧ w.grownBy wr none)
   case atStart => exact ⟨p, by omega, Nat.le_refl _, rfl, HA.out, HG1.out⟩
   case round =>
    clear HG1 HA w1
    obtain ⟨q, hgq, hpq, rfl, hal, hg⟩ := hrel
    have hqn : q < np := alike_more HCL.out hal HCB.out.symm (by omega)
    have HGQ := Kh hgq; have HAL := Kh hal; have HG := Kh hg
    have hlen : l.length = n := HN.out.symm
    have HDIV : Hid (Calls Try.prog 113 #[.slice va n vc, .int .i64 (q : Int)] wr (DivRet wr l q)) := Kh (divide_any X wr _ l q (HV.out.grow hg) (fun c hc => by rw [HCL.out.len c hc]; omega) (by omega))
    have HYN : Hid ((yesL l q).length + (noL l q).length = n) := Kh (by rw [yn_len, hlen])
    clear hgq hal hg hlen
    go_wp2_with fail
    refine HDIV.out.mono ?_
    rintro e w1 ⟨sy, cy, sn, cn, rfl, hoy, hon, hg1⟩
    obtain ⟨ly, hly⟩ : ∃ x, x = yesL l q := ⟨_, rfl⟩
    obtain ⟨ln, hln⟩ : ∃ x, x = noL l q := ⟨_, rfl⟩
    rw [← hly, ← hln] at HYN
    rw [← hly] at hoy ⊢
    rw [← hln] at hon ⊢
    have HLY := Kh hly; have HLN := Kh hln
    have HG1 := Kh (zA HG.out hg1 (by simp))
    have hyn := HYN.out
    obtain ⟨my, hmy⟩ : ∃ m, m = ly.length := ⟨_, rfl⟩
    obtain ⟨mn, hmn⟩ : ∃ m, m = ln.length := ⟨_, rfl⟩
    rw [← hmy, ← hmn] at hyn
    rw [← hmy] at hoy ⊢
    rw [← hmn] at hon ⊢
    have HMY := Kh hmy; have HMN := Kh hmn; have HOY := Kh hoy; have HON := Kh hon
    have HZ : Hid (w.heap.size ≤ wr.heap.size) := Kh HG.out.size
    clear hly hln hmy hmn hg1 hoy hon HDIV
    by_cases hy0 : my = 0
    ·have HSK := Kh (HAL.out.skip (p := q) (.inl (by rw [← HLY.out, ← HMY.out]; exact hy0)))
     subst hy0
     go_wp2
     go_roundg (np - (q + 1))
     case measure => have := HGQ.out; omega
     case rel => exact ⟨q + 1, by omega, by omega, by go_num, HSK.out, HG1.out⟩
    by_cases hn0 : mn = 0
    ·have HSK := Kh (HAL.out.skip (p := q) (.inr (by rw [← HLN.out, ← HMN.out]; exact hn0)))
     have hy1 : ¬ (my : Int) = 0 := by omega
     have hy2 : ((my : Int) == 0) = false := by rw [beq_eq_false_iff_ne]; exact hy1
     subst hn0
     go_wp2
     go_roundg (np - (q + 1))
     case measure => have := HGQ.out; omega
     case rel => exact ⟨q + 1, by omega, by omega, by go_num, HSK.out, HG1.out⟩
    have hy1 : ¬ (my : Int) = 0 := by omega
    have hn1 : ¬ (mn : Int) = 0 := by omega
    have hy2 : ((my : Int) == 0) = false := by rw [beq_eq_false_iff_ne]; exact hy1
    have hn2 : ((mn : Int) == 0) = false := by rw [beq_eq_false_iff_ne]; exact hn1
    obtain ⟨Y, hY⟩ : ∃ Y : Nat → Prop, Y = fun k => (Value.slice sy my cy).ownBlock = some k ∨ (Value.slice sn mn cn).ownBlock = some k := ⟨_, rfl⟩
    have HYB : Hid (∀ k, Y k → w.heap.size ≤ k ∧ k < w1.heap.size) := Kh (fun k hk => by
     rw [hY] at hk
     have := HZ.out
     rcases hk with hk | hk
     ·have := HOY.out.lt k hk; omega
     ·have := HON.out.lt k hk; omega)
    have HB1 := Kh (HB.out.fresh HG1.out HYB.out)
    have HVY : Hid (ClsX (fun k => X k ∨ Y k) w1 (.slice sy my cy) ly) := Kh (by
     have := HOY.out
     rw [HMY.out] at this ⊢
     exact nJ this (fun k hk => .inr (by rw [hY, HMY.out]; exact .inl hk)))
    have HVN : Hid (ClsX (fun k => X k ∨ Y k) w1 (.slice sn mn cn) ln) := Kh (by
     have := HON.out
     rw [HMN.out] at this ⊢
     exact nJ this (fun k hk => .inr (by rw [hY, HMN.out]; exact .inr hk)))
    have HI1 : Hid (Calls Try.prog 86 #[.pointer (some ⟨o, 0, none⟩), .slice sn mn cn, .int .i64 ((q + 1 : Nat) : Int)] w1 (BdRet w0 B (fun k => X k ∨ Y k) o mb np w1 cs ln (q + 1))) := Kh (IH.out (fun k => X k ∨ Y k) w1 _ ln cs (q + 1) (by rw [← HMN.out]; omega) (by rw [← HMN.out]; omega) HVN.out HB1.out (by rw [HLN.out]; exact HCL.out.sub List.filter_sublist) (by rw [HLN.out]; exact HAL.out.no) (by omega) HCH.out HND.out (by rw [← HMN.out]; omega))
    have e5 : ((q + 1 : Nat) : Int) = (q : Int) + 1 := by omega
    rw [e5] at HI1
    have e6 : IntKind.i64.wrap ((q : Int) + 1) = (q : Int) + 1 := tV (by omega)
    have e7 : (q : Int) + 1 - 1 = (q : Int) := by omega
    have e8 : IntKind.i64.wrap ((q : Int) + 1 - 1) = (q : Int) := by rw [e7]; exact tV (by omega)
    clear hY HOY HON e5
    go_wp2_with fail
    refine HI1.out.mono ?_
    rintro e w2 ⟨c1, rn, rfl, hb2, hd1⟩
    have HB2 := Kh hb2; have HD1 := Kh hd1
    have hfw := hd1.few
    have HVY2 := Kh (HVY.out.kept hb2.facts.2.1 hb2.facts.2.2.1)
    have HI2 : Hid (Calls Try.prog 86 #[.pointer (some ⟨o, 0, none⟩), .slice sy my cy, .int .i64 ((q + 1 : Nat) : Int)] w2 (BdRet w0 B (fun k => X k ∨ Y k) o mb np w2 c1 ly (q + 1))) := Kh (IH.out (fun k => X k ∨ Y k) w2 _ ly c1 (q + 1) (by rw [← HMY.out]; omega) (by rw [← HMY.out]; omega) HVY2.out hb2.rebase (by rw [HLY.out]; exact HCL.out.sub List.filter_sublist) (by rw [HLY.out]; exact HAL.out.yes) (by omega) hd1.ok hd1.nd (by rw [← HMY.out]; rw [← HMN.out] at hfw; omega))
    rw [show ((q + 1 : Nat) : Int) = (q : Int) + 1 by omega] at HI2
    rw [← HMN.out] at hfw
    clear hb2 hd1 HI1 HVY HVN
    go_wp2_with fail
    refine HI2.out.mono ?_
    rintro e w3 ⟨c2, ry, rfl, hb3, hd2⟩
    have hfw2 := hd2.few
    rw [← HMY.out] at hfw2
    have hlo1 := HD1.out.lo; have hlo2 := hd2.lo; have hhi2 := hd2.hi
    have hhi1 : rn ≤ 1 + (c2.length : Int) := by have := HD1.out.hi; have := hd2.pre.length_le; omega
    have HB3 : Hid (BldS w0 B X o mb w c2 w3) := Kh (by
     have h1 := HB2.out.facts
     have h2 : BldS w0 B (fun k => X k ∨ Y k) o mb w1 c2 w3 := hb3.back (fun _ h => h) h1.2.1 h1.2.2.1 h1.2.2.2.2.1
     exact HB.out.end_ HG1.out h2 h2)
    have HD2 := Kh hd2
    obtain ⟨a, rfl⟩ : ∃ a : Nat, ry = (a : Int) := ⟨ry.toNat, by omega⟩
    obtain ⟨b, rfl⟩ : ∃ b : Nat, rn = (b : Int) := ⟨rn.toNat, by omega⟩
    clear hb3 hd2 HI2 HB2 HVY2 HB1
    have hb4 := heap_alloc_new w3 (.cells #[.int .i64 (q : Int), .int .i64 (a : Int), .int .i64 (b : Int)] 45)
    have hg4 := World.grownBy_alloc w3 (.cells #[.int .i64 (q : Int), .int .i64 (a : Int), .int .i64 (b : Int)] 45) none
    obtain ⟨w4, hw4⟩ : ∃ w4, w4 = w3.alloc (.cells #[.int .i64 (q : Int), .int .i64 (a : Int), .int .i64 (b : Int)] 45) := ⟨_, rfl⟩
    obtain ⟨R, hR⟩ : ∃ R, R = w3.heap.size := ⟨_, rfl⟩
    rw [← hw4] at hb4 hg4
    rw [← hR] at hb4
    have HW4 := Kh hw4; have HRE := Kh hR; have HB4 := Kh hb4
    have HBL4 := Kh (HB3.out.grow hg4)
    have hro : R ≠ o := by have := HB3.out.facts.2.2.2.2.2.2; omega
    have hrm : R ≠ mb := by have := HB3.out.facts.2.2.2.2.2.1; omega
    obtain ⟨r0, r1, r2⟩ := zW hb4
    clear hw4 hR hb4 hg4
    go_upto_region 8 with fail
    rw [← HW4.out, ← HRE.out]
    by_cases hab : a = b
    ·have HDS := Kh (DecOk.same (by rw [← HLN.out]; exact HD1.out) (by rw [← HLY.out]; exact HD2.out) (by rw [hab]))
     subst hab
     go_wp2
     go_ret
     exact ⟨c2, _, rfl, HBL4.out, lA HDS.out hpq⟩
    have hab' : ¬ (a : Int) = (b : Int) := by omega
    obtain ⟨x, hx⟩ : ∃ x : ChoV, x = ⟨(q : Int), (a : Int), (b : Int)⟩ := ⟨_, rfl⟩
    have HX := Kh hx
    have HXO : Hid (ChoOk x) := Kh (by rw [hx]; exact ⟨⟨by show (0:Int) ≤ q; omega, by show (q:Int) < _; omega⟩, ⟨by show (0:Int) ≤ a; omega, by show (a:Int) < _; omega⟩, ⟨by show (0:Int) ≤ b; omega, by show (b:Int) < _; omega⟩⟩)
    have HXW : Hid (choW x = .agg #[.int .i64 (q : Int), .int .i64 (a : Int), .int .i64 (b : Int)]) := Kh (by rw [hx]; rfl)
    obtain ⟨sa, cap, u, c, hbx, hown, hmap, hu⟩ := HBL4.out.cells
    obtain ⟨b0, b1⟩ := lE hbx
    have HBX := Kh hbx; have HMAP := Kh hmap; have HU := Kh hu
    have hlk0 : ∀ q' : Nat, Sem.run Try.prog (Instr.lookup 135 (.map (some mb)) (.agg #[.int .i64 (q : Int), .int .i64 (a : Int), .int .i64 (b : Int)]) true) (w4.drewN q') = .ok (.tuple #[.int .i64 (((numH c2 x).getD 0 : Nat) : Int), .bool (numH c2 x).isSome]) (w4.drewN q') := fun q' => by
     have := (HMAP.out.kept (zT w4 q' none) (by simp)).lookup cho_key HXO.out
     rw [HXW.out] at this
     exact this
    clear hx hbx hown hmap hu
    obtain ⟨m2, hm2⟩ : ∃ m, m = c2.length := ⟨_, rfl⟩
    rw [← hm2] at b0 hhi1 hhi2 hfw2
    have HM2 := Kh hm2
    clear hm2
    by_cases hmem : x ∈ c2
    ·obtain ⟨i, hi⟩ : ∃ i, i = c2.idxOf x := ⟨_, rfl⟩
     have hil : i < c2.length := by rw [hi]; exact List.idxOf_lt_length_of_mem hmem
     have hix : c2.getD i default = ⟨(q : Int), (a : Int), (b : Int)⟩ := by rw [zI hil, ← HX.out]; subst hi; exact List.getElem_idxOf hil
     have HDO := Kh (DecOk.old hqn (by rw [← HLN.out]; exact HD1.out) (by rw [← HLY.out]; exact HD2.out) hil hix)
     rw [numH_of_mem hmem, ← hi] at hlk0
     have hlk1 : ∀ q' : Nat, Sem.run Try.prog (Instr.lookup 135 (.map (some mb)) (.agg #[.int .i64 (q : Int), .int .i64 (a : Int), .int .i64 (b : Int)]) true) (w4.drewN q') = .ok (.tuple #[.int .i64 (i : Int), .bool true]) (w4.drewN q') := hlk0
     have hi9 : i < 4100 := by have := HM2.out; omega
     clear hlk0 hil hix hi
     go_wp2
     go_quiet (fail)
     go_wp2
     go_ret
     exact ⟨c2, _, yE (by go_num), HBL4.out.grow (zT _ _ _), lA HDO.out hpq⟩
    ·have HDN := Kh (DecOk.new hqn (by rw [← HLN.out]; exact HD1.out) (by rw [← HLY.out]; exact HD2.out) (by rw [← HX.out]; exact hmem) (by rw [← HLY.out, ← HMY.out]; omega) (by rw [← HLN.out, ← HMN.out]; omega))
     rw [numH_not hmem] at hlk0
     have hlk1 : ∀ q' : Nat, Sem.run Try.prog (Instr.lookup 135 (.map (some mb)) (.agg #[.int .i64 (q : Int), .int .i64 (a : Int), .int .i64 (b : Int)]) true) (w4.drewN q') = .ok (.tuple #[.int .i64 0, .bool false]) (w4.drewN q') := hlk0
     have HMEM := Kh hmem
     clear hlk0 hmem
     go_upto_region 10 with fail
     go_quiet (fail)
     obtain ⟨w5, hw5⟩ : ∃ w5, w5 = w4.drewN nq := ⟨_, rfl⟩
     have hg5 : w4.grownBy w5 none := by rw [hw5]; exact zT _ _ _
     have b0 := wB b0 hg5
     have b1 := wB b1 hg5
     rw [← hw5]
     have HG5 := Kh hg5
     clear hg5 hw5 hlk1 r0 r1 r2
     go_upto_region 13 with fail
     have C5 : Hid (w5.cell? ⟨o, 1, none⟩ = some (.map (some mb)) ∧ w5.cell? ⟨R, 0, none⟩ = some (.int .i64 (q : Int)) ∧ w5.cell? ⟨R, 1, none⟩ = some (.int .i64 (a : Int)) ∧ w5.cell? ⟨R, 2, none⟩ = some (.int .i64 (b : Int))) := Kh (by
      obtain ⟨r0, r1, r2⟩ := zW (zB HB4.out HG5.out (by simp))
      obtain ⟨_, b1⟩ := lE (zB HBX.out HG5.out (by simp))
      exact ⟨b1, r0, r1, r2⟩)
     clear b0 b1
     refine bd_put C5.out (HMAP.out.kept HG5.out (by simp)) (by have := HU.out; have := HM2.out; unfold maxLen; omega) HXO.out HXW.out (by omega) ?_
     intro z71 z72 z73 z74 z75 z76 w7 hM7 hg7
     rw [numH_not HMEM.out] at hM7
     have hfe : (fun q => if q = x then some m2 else numH c2 q) = numH (c2 ++ [x]) := by rw [HM2.out]; exact numH_snoc HMEM.out
     rw [hfe] at hM7
     have hput := (HBL4.out.grow HG5.out).put HMEM.out (zB HBX.out HG5.out (by simp)) hg7 hM7 (by have := HU.out; omega)
     obtain ⟨e0, eo, ez, ep⟩ := hput
     have HEO := Kh eo; have HEP := Kh ep
     have HB7 := Kh (zB (zB HB4.out HG5.out (by simp)) hg7 (fun e => hrm (Option.some.inj e).symm))
     have HOL7 : Hid (o < w7.heap.size) := Kh (Nat.lt_of_lt_of_le (zN (zB HBX.out HG5.out (by simp))) hg7.size)
     rw [← HM2.out] at e0
     have C7 : Hid (w7.cell? ⟨o, 0, none⟩ = some (.slice sa m2 cap) ∧ w7.cell? ⟨R, 0, none⟩ = some (.int .i64 (q : Int)) ∧ w7.cell? ⟨R, 1, none⟩ = some (.int .i64 (a : Int)) ∧ w7.cell? ⟨R, 2, none⟩ = some (.int .i64 (b : Int))) := Kh (by
      obtain ⟨r0, r1, r2⟩ := zW HB7.out
      exact ⟨e0, r0, r1, r2⟩)
     clear hM7 hfe eo ep hg7 e0 C5
     go_upto_region 14 with fail
     refine bd_app (P := fun wZ => BldS w0 B X o mb w (c2 ++ [x]) wZ) C7.out (by have := HEO.out; rwa [← HM2.out] at this) ez (by omega) HOL7.out (fun wg hwg w2' s' c' h1 h2 h3 => by
      have := HEP.out wg hwg w2' s' c' (by rw [← HM2.out, show chval x = [.int .i64 (q : Int), .int .i64 (a : Int), .int .i64 (b : Int)] by rw [HX.out]; rfl]; exact h1) (by rw [← HM2.out]; exact h2) (by rw [← HM2.out]; exact h3)
      rw [← HM2.out] at this
      exact this) ?_
     intro z77 z78 z79 z80 z81 z82 z83 z84 z85 z86 wZ hZ
     have HBL := Kh hZ
     clear hZ ez
     go_wp2
     go_ret
     refine ⟨c2 ++ [x], _, yE (by go_num), HBL.out, ?_⟩
     have := lA HDN.out hpq
     rw [← HX.out, ← HM2.out] at this
     exact this
end Go.Proofs.Ytjfdomfendbhfaa
