/- Part 39 of the proof: CCl. -/
import Derived.Test.YtjfdomfendbhfaaQb38
set_option linter.unusedVariables false
set_option linter.unusedSimpArgs false
namespace Go.Proofs.Ytjfdomfendbhfaa
open Go.RowKit Go.Maps
theorem fillL_stay {l : List Nat} {np j : Nat} (h : l.length = np) (hj : j < np) (h0 : l.getD j 0 = 0) : qB l np (j + 1) = qB l np j := by
 rw [← mE h hj, h0]
 refine List.ext_getElem (by simp) fun i h1 h2 => ?_
 rw [List.getElem_set]
 split
 ·rename_i e; subst e
  have hl : (l.take j).length = j := by rw [List.length_take]; omega
  have : (qB l np j)[j]? = some 0 := by
   unfold qB
   rw [List.getElem?_append_right (by omega), hl, Nat.sub_self]
   rw [List.getElem?_replicate]; rw [if_pos (by omega)]
  rw [List.getElem?_eq_getElem (by simpa using h2)] at this
  exact (Option.some.inj this).symm
 ·rfl
theorem cls_cells {base : Nat} {w : World} {g cap n : Nat} {l : List ClaV} (h : w.ownsRow base 99 3 (.slice (some ⟨g, 0, none⟩) n cap) n (uQ l)) {i : Nat} (hi : i < l.length) :
  w.cell? ⟨g, i * 3 + 1, none⟩ = some (.int .i64 (l.getD i default).yes) ∧ w.cell? ⟨g, i * 3 + 2, none⟩ = some (.int .i64 (l.getD i default).no) ∧ w.frozen? ⟨g, i * 3 + 1, none⟩ = false ∧ w.frozen? ⟨g, i * 3 + 2, none⟩ = false := by
 have hadd : ∀ g j, (⟨g, 0, none⟩ : Addr).add j = ⟨g, j, none⟩ := fun g j => by unfold Addr.add; split <;> simp_all
 have c1 := h.cells (g := g) rfl _ _ (qD l i hi).2.1
 have c2 := h.cells (g := g) rfl _ _ (qD l i hi).2.2
 rw [hadd] at c1 c2
 rcases h.2 with ⟨hv, _⟩ | ⟨g', cap', cur, hv, hb, hg, hnc, hcm, hcs, htake⟩
 ·simp at hv
 ·simp only [Value.slice.injEq, Option.some.injEq, Addr.mk.injEq] at hv
  obtain ⟨⟨rfl, _⟩, _, rfl⟩ := hv
  rw [zI hi]
  exact ⟨c1, c2, frozen_of_row w g _ _ _ hg, frozen_of_row w g _ _ _ hg⟩
theorem owns_some3 {w : World} {base e n sc : Nat} {sa : Option Addr} {xs : List Value} (h : w.ownsRow base e 3 (.slice sa n sc) n xs) (hn : 0 < n) : ∃ kb, sa = some ⟨kb, 0, none⟩ ∧ n ≤ sc ∧ sc ≤ maxLen := by
 rcases h.2 with ⟨h', h0⟩ | ⟨g, cap, cur, h1, hb, hg, hnc, hcm, _⟩
 ·omega
 ·simp only [Value.slice.injEq] at h1
  obtain ⟨rfl, -, rfl⟩ := h1
  exact ⟨g, rfl, hnc, hcm⟩
def ClsRet (w : World) (ds : List DfaV) (np : Nat) (L : List (List Nat)) (e : Ending) (w' : World) : Prop :=
 ∃ l sa sc, e = .returned (.slice sa (l : List ClaV).length sc) ∧ w'.ownsRow w.heap.size 99 3 (.slice sa l.length sc) l.length (uQ l) ∧ ClsI (fun s => mtsT ds np (L.getD s [])) (fun s => accT ds (L.getD s []) np) L.length L.length l ∧ w.grownBy w' none
structure ClS (w : World) (mb np : Nat) (M : Nat → List Bool) (A : Nat → Bool) (s t : Nat) (sa : Option Addr) (sc : Nat) (l : List ClaV) (wr : World) : Prop where
 own : wr.ownsRow w.heap.size 99 3 (.slice sa l.length sc) l.length (uQ l)
 map : ∃ u c, u ≤ t ∧ MapK 9 (fun m : List Bool => m.length = np) (fun m => .string (mT m)) wr mb u c (numC l)
 cls : ClsI M A s t l
 gr : w.grownBy wr none
 mlo : w.heap.size ≤ mb
section
variable {w wr w' : World} {mb np s t : Nat} {M : Nat → List Bool} {A : Nat → Bool} {sa : Option Addr} {sc : Nat} {l : List ClaV}
theorem ClS.grow (h : ClS w mb np M A s t sa sc l wr) (hg : wr.grownBy w' none) : ClS w mb np M A s t sa sc l w' := by
 obtain ⟨u, c, hu, hm⟩ := h.map
 exact ⟨zV h.own hg, ⟨u, c, hu, hm.kept hg (by simp)⟩, h.cls, zA h.gr hg (by simp), h.mlo⟩
theorem ClS.bytes (h : ClS w mb np M A s t sa sc l wr) {tb : Nat} {xs : List Value} (ha : Arr wr tb 5 xs) (hlo : w.heap.size ≤ tb) (hg : wr.grownBy w' (some tb)) : ClS w mb np M A s t sa sc l w' := by
 obtain ⟨u, c, hu, hm⟩ := h.map
 obtain ⟨cs, r, hb, _⟩ := id ha
 have h1 : (Value.slice sa l.length sc).ownBlock ≠ some tb := fun e => zS h.own hb (by decide) e
 refine ⟨h.own.kept hg (.inr (fun e => h1 e)), ⟨u, c, hu, hm.kept hg (fun e => ?_)⟩, h.cls, zA h.gr hg (fun k e => by have e : tb = k := Option.some.inj e; omega), h.mlo⟩
 have e : tb = mb := Option.some.inj e
 obtain ⟨es, clock, hb2⟩ := hm.obj
 rw [← e, hb] at hb2; simp at hb2
end
set_option maxRecDepth 100000 in
set_option maxHeartbeats 1600000 in
theorem prodClasses_any (Bd : Nat) (w : World) (o k : Nat) (pv : Value) (ds : List DfaV) (L : List (List Nat)) (nxl fr bl : List Nat) (sb sc nb nc fb fc bb bc np : Nat) (hBd : Bd ≤ w.heap.size) (h : ProdV w o k pv L nxl fr bl sb sc nb nc fb fc bb bc) (hd : DsIn Bd w pv ds) (hok : OkT ds k) (hnp : ds.length = np + 1) (hin : ∀ s, s < L.length → InT ds (L.getD s [])) (hl : ds.length ≤ 400) (hL : L.length ≤ 4000) :
  Calls Try.prog 59 #[.pointer (some ⟨o, 0, none⟩), .int .i64 (np : Int)] w (ClsRet w ds np L) := by
 have HACC : Hid (∀ (W : World) (s i : Nat), w.grownBy W none → s < L.length → i < ds.length → Calls Try.prog 69 #[.pointer (some ⟨o, 0, none⟩), .int .i64 (s : Int), .int .i64 (i : Int)] W fun e w' => e = .returned (.bool (accT ds (L.getD s []) i)) ∧ W.grownBy w' none) := Kh (fun W s i hW hs hi => paccepts_any Bd W o k pv ds L nxl fr bl sb sc nb nc fb fc bb bc s i (h.grow hW) (hd.kept hW (by simp)) hok hs hi (hin s hs) hl hL)
 obtain ⟨M, hM⟩ : ∃ M : Nat → List Bool, M = fun s => mtsT ds np (L.getD s []) := ⟨_, rfl⟩
 obtain ⟨A, hA⟩ : ∃ A : Nat → Bool, A = fun s => accT ds (L.getD s []) np := ⟨_, rfl⟩
 have HML : Hid (∀ s, (M s).length = np) := Kh (fun s => by rw [hM]; exact nD _ _ _)
 have HMG : Hid (∀ s i, i < np → accT ds (L.getD s []) i = (M s).getD i false) := Kh (fun s i hi => by rw [hM]; exact (kM hi).symm)
 have HAG : Hid (∀ s, accT ds (L.getD s []) np = A s) := Kh (fun s => by rw [hA])
 have HKM := Kh (key_mT (n := np) (by omega))
 have HRET : Hid (ClsRet w ds np L = fun e w' => ∃ l sa sc, e = .returned (.slice sa (l : List ClaV).length sc) ∧ w'.ownsRow w.heap.size 99 3 (.slice sa l.length sc) l.length (uQ l) ∧ ClsI M A L.length L.length l ∧ w.grownBy w' none) := Kh (by rw [hM, hA]; rfl)
 rw [HRET.out]
 obtain ⟨x0, x1, x2, x3, x4, x5⟩ := h.cells
 have hcp := h.caps
 obtain ⟨m, hm⟩ : ∃ m, m = L.length := ⟨_, rfl⟩
 have hnp2 : np ≤ 400 := by omega
 have HDL : Hid (np < ds.length) := Kh (by omega)
 rw [← hm] at x2 hcp HACC hL ⊢
 have k2 : sc ≤ 9223372036854775807 := by have := hcp.2.1; unfold maxLen at this; omega
 have hmm := @run_makeMap Try.prog
 have HMK : Hid (∀ W : World, (Instr.makeSlice 106 (.int .i64 (np : Int)) (.int .i64 (np : Int))).run Try.prog W = .ok (.slice (some ⟨W.heap.size, 0, none⟩) np np) (W.alloc (.cells (madeCells #[.int .u8 0] np) 5))) := Kh (fun W => run_make_row' 106 5 (.int .u8 0) 1 Try.underlying106 (by kernel_rfl) rfl .i64 .i64 np (by omega) (by omega) W)
 clear h hd hok hM hA hin hcp hm x0 x1 x3 x4 x5 hnp hl
 go_enter Try.func59, Try.ntmps59
 go_upto_region 3 with fail
 obtain ⟨mb, hmb⟩ : ∃ b, b = w.heap.size := ⟨_, rfl⟩
 obtain ⟨w1, hw1⟩ : ∃ w1, w1 = w.alloc (.map #[] 0) := ⟨_, rfl⟩
 have hmade := MapK.made 9 (fun m : List Bool => m.length = np) (fun m => .string (mT m)) w
 have hg1 := World.grownBy_alloc w (.map #[] 0) none
 rw [← hw1] at hmade hg1 ⊢
 rw [← hmb] at hmade ⊢
 have HS0 : Hid (ClS w mb np M A 0 0 none 0 [] w1) := Kh ⟨World.ownsRow_nil _ _ _ _, ⟨0, 0, Nat.le_refl _, hmade⟩, ClsI.nil M A, hg1, by omega⟩
 have x2 := wB x2 hg1
 clear hmade hw1 hmb hg1 hmm
 go_wp2
 go_loopg [5, 7, 8, 9, 10, 11, 12, 19] m (fun gh v5 v7 v8 v9 v10 v11 v12 v19 wr => ∃ (s : Nat) (sa : Option Addr) (sd : Nat) (l : List ClaV), gh + s = m ∧ v19 = .int .i64 s ∧ v5 = .slice sa l.length sd ∧ ClS w mb np M A s s sa sd l wr)
 case atStart => exact ⟨0, none, 0, [], rfl, rfl, rfl, HS0.out⟩
 case round =>
  clear HS0
  obtain ⟨s, sa, sd, l, hgs, rfl, rfl, hst⟩ := hrel
  have HGS := Kh hgs; have HST := Kh hst
  clear hgs x2 w1
  by_cases hs : s < m
  ·have hs' : (s : Int) < m := by omega
   have hmk := HMK.out wr
   obtain ⟨tb, htb⟩ : ∃ b, b = wr.heap.size := ⟨_, rfl⟩
   obtain ⟨w1, hw1⟩ : ∃ w1, w1 = wr.alloc (.cells (madeCells #[.int .u8 0] np) 5) := ⟨_, rfl⟩
   have hg1 := World.grownBy_alloc wr (.cells (madeCells #[.int .u8 0] np) 5) none
   have ha1 := Arr.new wr 5 (madeCells #[.int .u8 0] np)
   rw [show (madeCells #[.int .u8 0] np).toList = List.replicate np (.int .u8 0) by have := pN (z := .int .u8 0) rfl np; rw [Nat.mul_one] at this; exact this] at ha1
   rw [← hw1, ← htb] at hmk
   rw [← hw1] at hg1 ha1
   rw [← htb] at ha1
   have hlo : w.heap.size ≤ tb := by have := hst.gr.size; omega
   have HS1 := Kh (hst.grow hg1); have HA1 := Kh ha1
   clear hst hg1 ha1 hw1 htb HST
   go_wp2
   clear hmk
   go_loopg [9, 26] np (fun gh v9 v26 wr => ∃ i : Nat, gh + i = np ∧ v26 = .int .i64 i ∧ Arr wr tb 5 (u8s (qB (mN (M s)) np i)) ∧ ClS w mb np M A s s sa sd l wr)
   case atStart => exact ⟨0, rfl, rfl, by rw [mY, u8s_replicate]; exact HA1.out, HS1.out⟩
   case round =>
    clear HA1 HS1 w1
    obtain ⟨i, hgi, rfl, har, hst⟩ := hrel
    have HGI := Kh hgi
    clear hgi
    by_cases hi : i < np
    ·have hi' : (i : Int) < np := by omega
     have hg := hst.gr
     have HST := Kh hst; have HAR := Kh har
     have hcall := HACC.out wr s i hg hs (by have := HDL.out; omega)
     rw [HMG.out s i hi] at hcall
     have HGET : Hid ((mN (M s)).getD i 0 = if (M s).getD i false = true then 1 else 0) := Kh (mN_get (by rw [HML.out]; exact hi))
     obtain ⟨b, hb⟩ : ∃ b, b = (M s).getD i false := ⟨_, rfl⟩
     rw [← hb] at hcall HGET
     have HCALL := Kh hcall
     clear hcall hb hg har hst
     go_wp2_with fail
     refine HCALL.out.mono ?_
     rintro e w2 ⟨rfl, hg2⟩
     have HA2 := Kh (HAR.out.kept hg2 (by simp)); have HS2 := Kh (HST.out.grow hg2)
     clear hg2 HCALL HAR HST
     cases b with
     | false =>
      have HE := Kh (fillL_stay (l := mN (M s)) (np := np) (j := i) (by rw [tL, HML.out]) hi HGET.out)
      go_wp2
      go_roundg (np - (i + 1))
      case measure => have := HGI.out; omega
      case rel => exact ⟨i + 1, by have := HGI.out; omega, by go_num, by rw [HE.out]; exact HA2.out, HS2.out⟩
     | true =>
      have HE := Kh (mE (l := mN (M s)) (np := np) (j := i) (by rw [tL, HML.out]) hi)
      rw [HGET.out] at HE
      have hfl : (qB (mN (M s)) np i).length = np := rP (by rw [tL, HML.out]) (by omega)
      have c1 := u8s_cell HA2.out i (by rw [hfl]; exact hi)
      have f1 := HA2.out.frozen i
      have hset := HA2.out.set i (by rw [u8s_length, hfl]; exact hi) (.int .u8 1)
      rw [show (u8s (qB (mN (M s)) np i)).set i (.int .u8 1) = u8s (qB (mN (M s)) np (i + 1)) by rw [← HE.out]; exact kT _ i 1] at hset
      have HSET := Kh hset
      have HS3 := Kh (HS2.out.bytes HA2.out hlo (zD w2 ⟨tb, i, none⟩ (.int .u8 1)))
      have htl := HA2.out.lt
      clear hset hfl
      go_wp2
      go_roundg (np - (i + 1))
      case measure => have := HGI.out; omega
      case rel => exact ⟨i + 1, by have := HGI.out; omega, by go_num, HSET.out, HS3.out⟩
    ·have hin : i = np := by have := HGI.out; omega
     have hi' : ¬ (i : Int) < np := by omega
     rw [jY (by rw [tL, HML.out]) hin] at har
     have harr := har
     have hcv : ∀ W : World, wr.grownBy W none → (convert 106 9 (.slice (some ⟨tb, 0, none⟩) np np)).run Try.prog W = .ok (.string (mT (M s))) W := fun W hW => nV 106 5 Try.underlying106 Try.underlying5 9 Try.underlying9 np np (by rw [zb_length, tL, HML.out]) (har.kept hW (by simp))
     obtain ⟨U, hU⟩ : ∃ U, U = mT (M s) := ⟨_, rfl⟩
     rw [← hU] at hcv
     have hcv0 := hcv wr (zL _ _)
     have HCV := Kh hcv
     obtain ⟨u, c, hu, hmap⟩ := hst.map
     have hlk0 := hmap.lookup HKM.out (x := M s) (HML.out s)
     have HU := Kh hU; have HUB := Kh hu; have HMAP := Kh hmap; have HST := Kh hst
     have HA := Kh (HAG.out s)
     have HACS : Hid (∀ W : World, wr.grownBy W none → Calls Try.prog 69 #[.pointer (some ⟨o, 0, none⟩), .int .i64 (s : Int), .int .i64 (np : Int)] W fun e w' => e = .returned (.bool (A s)) ∧ W.grownBy w' none) := Kh (fun W hW => by
      have := HACC.out W s np (zA hst.gr hW (by simp)) hs HDL.out
      rwa [HAG.out s] at this)
     clear hU hu hmap hcv har hin HGI hst HA
     by_cases hmem : M s ∈ l.map ClaV.m
     ·obtain ⟨q, hq⟩ : ∃ q, q = (l.map ClaV.m).idxOf (M s) := ⟨_, rfl⟩
      have hql : q < l.length := by have := List.idxOf_lt_length_of_mem hmem; rw [← hq, List.length_map] at this; exact this
      have hqm : (l.getD q default).m = M s := by
       rw [zI hql]
       have h1 := List.getElem_idxOf (x := M s) (xs := l.map ClaV.m) (by rw [← hq, List.length_map]; exact hql)
       simp only [← hq, List.getElem_map] at h1
       exact h1
      have hlk : Sem.run Try.prog (Instr.lookup 129 (.map (some mb)) (.string U) true) wr = .ok (.tuple #[.int .i64 (q : Int), .bool true]) wr := by
       rw [numC_of_mem hmem, ← hq] at hlk0
       rw [HU.out]; exact hlk0
      have HS2 : Hid (ClS w mb np M A s (s + 1) sa sd l wr) := Kh ⟨HST.out.own, ⟨u, c, Nat.le_succ_of_le HUB.out, HMAP.out⟩, HST.out.cls.old hmem, HST.out.gr, HST.out.mlo⟩
      have hll : l.length ≤ 4000 := by have := HST.out.cls.len_le; omega
      have HQL := Kh hql; have HQM := Kh hqm
      clear hlk0 hq hqm hmem HMAP HST hql
      obtain ⟨nl, hnl⟩ : ∃ n, n = l.length := ⟨_, rfl⟩
      have HNL := Kh hnl
      rw [← hnl] at hll HQL ⊢
      have hql := HQL.out
      clear hnl
      obtain ⟨ab, hab⟩ : ∃ b, b = A s := ⟨_, rfl⟩
      rw [← hab] at HACS
      have HAB := Kh hab
      clear hab
      go_wp2_with fail
      clear hlk hcv0
      refine (HACS.out _ (zL _ _)).mono ?_
      rintro e w2 ⟨rfl, hg2⟩
      have hst2 := HS2.out.grow hg2
      have hown2 := hst2.own
      rw [← HNL.out] at hown2
      obtain ⟨gb, rfl, hc1, hc2⟩ := owns_some3 hown2 (by omega)
      have hmx : sd ≤ 9223372036854775807 := by unfold maxLen at hc2; omega
      obtain ⟨cy, cn, fy, fn⟩ := cls_cells hown2 (i := q) (by rw [← HNL.out]; exact hql)
      have HPY := Kh (iF l q (s : Int) (by rw [← HNL.out]; exact hql))
      have HPN := Kh (cvals_no l q (s : Int) (by rw [← HNL.out]; exact hql))
      have HPUT := Kh (hst2.cls.put (by rw [← HNL.out]; exact hql) HQM.out)
      obtain ⟨y, hy⟩ : ∃ y, y = (l.getD q default).yes := ⟨_, rfl⟩
      obtain ⟨z, hz⟩ : ∃ z, z = (l.getD q default).no := ⟨_, rfl⟩
      rw [← hy] at cy
      rw [← hz] at cn
      have HY := Kh hy; have HZ := Kh hz
      have HS3 := Kh hst2; have HOWN2 := Kh hown2
      have hgbl : gb < w2.heap.size := (hown2.lt gb rfl).2
      have hgbo : w.heap.size ≤ gb := (hown2.lt gb rfl).1
      have hqn : (q : Int) < nl := by omega
      clear hg2 hst2 hown2 hy hz hc1 hc2 HS2
      have HFIN : Hid (∀ (x : ClaV) (W : World), putC (l.getD q default) (A s) s = x → (x.m = (l.getD q default).m) → W.ownsRow w.heap.size 99 3 (.slice (some ⟨gb, 0, none⟩) nl sd) nl (uQ (l.set q x)) → w2.grownBy W (some gb) → ClS w mb np M A (s + 1) (s + 1) (some ⟨gb, 0, none⟩) sd (l.set q x) W) := Kh (fun x W hx hxm ho hg => by
       obtain ⟨u3, c3, hu3, hm3⟩ := HS3.out.map
       refine ⟨by rw [List.length_set, ← HNL.out]; exact ho, ⟨u3, c3, hu3, ?_⟩, by have := HPUT.out; rw [hx] at this; exact this, zA HS3.out.gr hg (fun k e => by have e : gb = k := Option.some.inj e; omega), HS3.out.mlo⟩
       rw [numC_set (by rw [← HNL.out]; exact hql) hxm]
       exact hm3.kept hg (fun e => wH (es := #[]) (clock := 0) HS3.out.own hm3.obj (by rw [← e]; rfl)))
      have HSAME : Hid (l.set q (l.getD q default) = l) := Kh (by
       rw [zI (by rw [← HNL.out]; exact hql)]
       exact List.set_getElem_self _)
      cases ab with
      | true =>
       by_cases hy0 : y < 0
       ·have hown3 := tK (i := q * 3 + 1) HOWN2.out (.int .i64 (s : Int))
        rw [HPY.out] at hown3
        have HEND := Kh (HFIN.out ⟨(l.getD q default).m, (s : Int), (l.getD q default).no⟩ _ (by rw [putC, if_pos HAB.out.symm, if_pos (by rw [← HY.out]; exact hy0)]) rfl hown3 (zD w2 ⟨gb, q * 3 + 1, none⟩ _))
        clear hown3
        go_wp2
        go_roundg (m - (s + 1))
        case measure => have := HGS.out; omega
        case rel => exact ⟨s + 1, _, _, l.set q ⟨(l.getD q default).m, (s : Int), (l.getD q default).no⟩, by have := HGS.out; omega, by go_num, by rw [List.length_set, ← HNL.out], HEND.out⟩
       ·have HEND := Kh (HFIN.out (l.getD q default) w2 (by rw [putC, if_pos HAB.out.symm, if_neg (by rw [← HY.out]; exact hy0)]) rfl (by rw [HSAME.out]; exact HOWN2.out) (zL _ _))
        rw [HSAME.out] at HEND
        go_wp2
        go_roundg (m - (s + 1))
        case measure => have := HGS.out; omega
        case rel => exact ⟨s + 1, _, _, l, by have := HGS.out; omega, by go_num, by rw [← HNL.out], HEND.out⟩
      | false =>
       by_cases hz0 : z < 0
       ·have hown3 := tK (i := q * 3 + 2) HOWN2.out (.int .i64 (s : Int))
        rw [HPN.out] at hown3
        have HEND := Kh (HFIN.out ⟨(l.getD q default).m, (l.getD q default).yes, (s : Int)⟩ _ (by rw [putC, ← HAB.out, if_neg (by simp), if_pos (by rw [← HZ.out]; exact hz0)]) rfl hown3 (zD w2 ⟨gb, q * 3 + 2, none⟩ _))
        clear hown3
        go_wp2
        go_roundg (m - (s + 1))
        case measure => have := HGS.out; omega
        case rel => exact ⟨s + 1, _, _, l.set q ⟨(l.getD q default).m, (l.getD q default).yes, (s : Int)⟩, by have := HGS.out; omega, by go_num, by rw [List.length_set, ← HNL.out], HEND.out⟩
       ·have HEND := Kh (HFIN.out (l.getD q default) w2 (by rw [putC, ← HAB.out, if_neg (by simp), if_neg (by rw [← HZ.out]; exact hz0)]) rfl (by rw [HSAME.out]; exact HOWN2.out) (zL _ _))
        rw [HSAME.out] at HEND
        go_wp2
        go_roundg (m - (s + 1))
        case measure => have := HGS.out; omega
        case rel => exact ⟨s + 1, _, _, l, by have := HGS.out; omega, by go_num, by rw [← HNL.out], HEND.out⟩
     ·have hlk : Sem.run Try.prog (Instr.lookup 129 (.map (some mb)) (.string U) true) wr = .ok (.tuple #[.int .i64 0, .bool false]) wr := by
       rw [numC_not hmem] at hlk0
       rw [HU.out]; exact hlk0
      have HMEM := Kh hmem
      have hll0 : l.length ≤ s := HST.out.cls.len_le
      clear hlk0 hmem
      obtain ⟨n0, hn0⟩ : ∃ n, n = l.length := ⟨_, rfl⟩
      have HN0 := Kh hn0
      rw [← hn0] at hll0 ⊢
      clear hn0
      go_upto_region 17 with (first | (at_mapUpdate; refine jA HKM.out rfl _ _ _ rfl mb u c (numC l) (M s) n0 rfl ?k1 rfl HMAP.out (by have := HUB.out; unfold maxLen; omega) (HML.out s) (by omega) ?_; (case k1 => (show _ = Value.string (mT (M s)); rw [← HU.out]; rfl)); intro w8 hm8 hg8) | fail)
      have hne8 : (Value.slice sa n0 sd).ownBlock ≠ some mb := by rw [HN0.out]; exact wH (es := #[]) (clock := 0) HST.out.own HMAP.out.obj
      have hown8 : w8.ownsRow w.heap.size 99 3 (.slice sa n0 sd) n0 (uQ l) := by
       have := HST.out.own.kept hg8 (.inr (by rw [← HN0.out]; exact fun e => hne8 e))
       rwa [← HN0.out] at this
      have hm9 : MapK 9 (fun m : List Bool => m.length = np) (fun m => .string (mT m)) w8 mb (u + 1) (if (numC l (M s)).isSome = true then c else c + 1) (numC (l ++ [⟨M s, -1, -1⟩])) := by
       rw [← numC_snoc (c := ⟨M s, -1, -1⟩) HMEM.out, ← HN0.out]; exact hm8
      have hg9 := zA HST.out.gr hg8 (fun k e => by have e : mb = k := Option.some.inj e; have := HST.out.mlo; omega)
      have har8 := harr.kept hg8 (fun e => by have e : mb = tb := Option.some.inj e; obtain ⟨es, cl, hb⟩ := HMAP.out.obj; obtain ⟨cs, r, hb2, _⟩ := id harr; rw [← e, hb] at hb2; simp at hb2)
      have hcv8 : (convert 106 9 (.slice (some ⟨tb, 0, none⟩) np np)).run Try.prog w8 = .ok (.string U) w8 := by
       rw [HU.out]; exact nV 106 5 Try.underlying106 Try.underlying5 9 Try.underlying9 np np (by rw [zb_length, tL, HML.out]) har8
      have HOWN8 := Kh hown8; have HM9 := Kh hm9; have HG9 := Kh hg9; have HNE8 := Kh hne8
      have hz8 := hg9.size
      clear hm8 hg8 hown8 hm9 hg9 hcv0 hlk har8 hne8 harr
      go_upto_region 18 with (first | (at_builtin; refine rQ rfl _ _ _ rfl elem_cls w.heap.size (.slice sa n0 sd) n0 (uQ l) rfl HOWN8.out [.string U, .int .i64 (-1), .int .i64 (-1)] rfl rfl ?z1 ?z2 ?z3 ?z4 ?_; (case z1 => (intro v hv; simp only [List.mem_cons, List.not_mem_nil, or_false] at hv; rcases hv with rfl | rfl | rfl <;> rfl)); (case z2 => (unfold maxLen; omega)); (case z3 => (show (n0 + 1) * 32 ≤ 140737488355328; omega)); (case z4 => exact hz8); intro sv cv wM hownM hgM hmM) | fail)
      obtain ⟨l9, hl9⟩ : ∃ l9, l9 = l ++ [(⟨M s, -1, -1⟩ : ClaV)] := ⟨_, rfl⟩
      have HL9 := Kh hl9
      have hll9 : l9.length = n0 + 1 := by rw [hl9, List.length_append, HN0.out]; rfl
      have HS2 : Hid (ClS w mb np M A s (s + 1) sv cv l9 wM) := Kh ⟨by
       rw [hll9, hl9, lB, show cval ⟨M s, -1, -1⟩ = [.string U, .int .i64 (-1), .int .i64 (-1)] by rw [HU.out]; rfl]
       exact hownM, ⟨u + 1, _, by have := HUB.out; omega, by rw [hl9]; exact HM9.out.kept hgM HNE8.out⟩, by rw [hl9]; exact HST.out.cls.new HMEM.out, zA HG9.out hgM (fun k e => (HOWN8.out.lt k e).1), HST.out.mlo⟩
      have HQL : Hid (n0 < l9.length) := Kh (by omega)
      have HQM : Hid ((l9.getD n0 default).m = M s) := Kh (by
       rw [hl9, List.getD_eq_getElem?_getD, HN0.out]; simp)
      have HGW := Kh HS2.out.gr
      clear hownM hgM hmM hcv8 hl9 HOWN8 HM9 HG9 HNE8 HST HMAP
      rw [show (n0 + 1 : Nat) = l9.length from hll9.symm]
      have hll : l9.length ≤ 4000 := by omega
      obtain ⟨q, hq⟩ : ∃ q, q = n0 := ⟨_, rfl⟩
      rw [← hq] at HQL HQM ⊢
      clear hll9 hq HN0 HL9
      obtain ⟨nl, hnl⟩ : ∃ n, n = l9.length := ⟨_, rfl⟩
      have HNL := Kh hnl
      rw [← hnl] at hll HQL ⊢
      have hql := HQL.out
      clear hnl
      obtain ⟨ab, hab⟩ : ∃ b, b = A s := ⟨_, rfl⟩
      have HACS9 : Hid (∀ W : World, wM.grownBy W none → Calls Try.prog 69 #[.pointer (some ⟨o, 0, none⟩), .int .i64 (s : Int), .int .i64 (np : Int)] W fun e w' => e = .returned (.bool ab) ∧ W.grownBy w' none) := Kh (fun W hW => by
       have := HACC.out W s np (zA HGW.out hW (by simp)) hs HDL.out
       rwa [HAG.out s, ← hab] at this)
      have HAB := Kh hab
      clear hab
      go_wp2_with fail
      refine (HACS9.out _ (zL _ _)).mono ?_
      rintro e w2 ⟨rfl, hg2⟩
      have hst2 := HS2.out.grow hg2
      have hown2 := hst2.own
      rw [← HNL.out] at hown2
      obtain ⟨gb, rfl, hc1, hc2⟩ := owns_some3 hown2 (by omega)
      have hmx : cv ≤ 9223372036854775807 := by unfold maxLen at hc2; omega
      obtain ⟨cy, cn, fy, fn⟩ := cls_cells hown2 (i := q) (by rw [← HNL.out]; exact hql)
      have HPY := Kh (iF l9 q (s : Int) (by rw [← HNL.out]; exact hql))
      have HPN := Kh (cvals_no l9 q (s : Int) (by rw [← HNL.out]; exact hql))
      have HPUT := Kh (hst2.cls.put (by rw [← HNL.out]; exact hql) HQM.out)
      obtain ⟨y, hy⟩ : ∃ y, y = (l9.getD q default).yes := ⟨_, rfl⟩
      obtain ⟨z, hz⟩ : ∃ z, z = (l9.getD q default).no := ⟨_, rfl⟩
      rw [← hy] at cy
      rw [← hz] at cn
      have HY := Kh hy; have HZ := Kh hz
      have HS3 := Kh hst2; have HOWN2 := Kh hown2
      have hgbl : gb < w2.heap.size := (hown2.lt gb rfl).2
      have hgbo : w.heap.size ≤ gb := (hown2.lt gb rfl).1
      have hqn : (q : Int) < nl := by omega
      clear hg2 hst2 hown2 hy hz hc1 hc2 HS2
      have HFIN : Hid (∀ (x : ClaV) (W : World), putC (l9.getD q default) (A s) s = x → (x.m = (l9.getD q default).m) → W.ownsRow w.heap.size 99 3 (.slice (some ⟨gb, 0, none⟩) nl cv) nl (uQ (l9.set q x)) → w2.grownBy W (some gb) → ClS w mb np M A (s + 1) (s + 1) (some ⟨gb, 0, none⟩) cv (l9.set q x) W) := Kh (fun x W hx hxm ho hg => by
       obtain ⟨u3, c3, hu3, hm3⟩ := HS3.out.map
       refine ⟨by rw [List.length_set, ← HNL.out]; exact ho, ⟨u3, c3, hu3, ?_⟩, by have := HPUT.out; rw [hx] at this; exact this, zA HS3.out.gr hg (fun k e => by have e : gb = k := Option.some.inj e; omega), HS3.out.mlo⟩
       rw [numC_set (by rw [← HNL.out]; exact hql) hxm]
       exact hm3.kept hg (fun e => wH (es := #[]) (clock := 0) HS3.out.own hm3.obj (by rw [← e]; rfl)))
      have HSAME : Hid (l9.set q (l9.getD q default) = l9) := Kh (by
       rw [zI (by rw [← HNL.out]; exact hql)]
       exact List.set_getElem_self _)
      cases ab with
      | true =>
       by_cases hy0 : y < 0
       ·have hown3 := tK (i := q * 3 + 1) HOWN2.out (.int .i64 (s : Int))
        rw [HPY.out] at hown3
        have HEND := Kh (HFIN.out ⟨(l9.getD q default).m, (s : Int), (l9.getD q default).no⟩ _ (by rw [putC, if_pos HAB.out.symm, if_pos (by rw [← HY.out]; exact hy0)]) rfl hown3 (zD w2 ⟨gb, q * 3 + 1, none⟩ _))
        clear hown3
        go_wp2
        go_roundg (m - (s + 1))
        case measure => have := HGS.out; omega
        case rel => exact ⟨s + 1, _, _, l9.set q ⟨(l9.getD q default).m, (s : Int), (l9.getD q default).no⟩, by have := HGS.out; omega, by go_num, by rw [List.length_set, ← HNL.out], HEND.out⟩
       ·have HEND := Kh (HFIN.out (l9.getD q default) w2 (by rw [putC, if_pos HAB.out.symm, if_neg (by rw [← HY.out]; exact hy0)]) rfl (by rw [HSAME.out]; exact HOWN2.out) (zL _ _))
        rw [HSAME.out] at HEND
        go_wp2
        go_roundg (m - (s + 1))
        case measure => have := HGS.out; omega
        case rel => exact ⟨s + 1, _, _, l9, by have := HGS.out; omega, by go_num, by rw [← HNL.out], HEND.out⟩
      | false =>
       by_cases hz0 : z < 0
       ·have hown3 := tK (i := q * 3 + 2) HOWN2.out (.int .i64 (s : Int))
        rw [HPN.out] at hown3
        have HEND := Kh (HFIN.out ⟨(l9.getD q default).m, (l9.getD q default).yes, (s : Int)⟩ _ (by rw [putC, ← HAB.out, if_neg (by simp), if_pos (by rw [← HZ.out]; exact hz0)]) rfl hown3 (zD w2 ⟨gb, q * 3 + 2, none⟩ _))
        clear hown3
        go_wp2
        go_roundg (m - (s + 1))
        case measure => have := HGS.out; omega
        case rel => exact ⟨s + 1, _, _, l9.set q ⟨(l9.getD q default).m, (l9.getD q default).yes, (s : Int)⟩, by have := HGS.out; omega, by go_num, by rw [List.length_set, ← HNL.out], HEND.out⟩
       ·have HEND := Kh (HFIN.out (l9.getD q default) w2 (by rw [putC, ← HAB.out, if_neg (by simp), if_neg (by rw [← HZ.out]; exact hz0)]) rfl (by rw [HSAME.out]; exact HOWN2.out) (zL _ _))
        rw [HSAME.out] at HEND
        go_wp2
        go_roundg (m - (s + 1))
        case measure => have := HGS.out; omega
        case rel => exact ⟨s + 1, _, _, l9, by have := HGS.out; omega, by go_num, by rw [← HNL.out], HEND.out⟩
  ·have hsm : s = m := by have := HGS.out; omega
   have hs' : ¬ (s : Int) < m := by omega
   subst hsm
   go_wp2
   go_ret
   exact ⟨l, sa, sd, rfl, HST.out.own, HST.out.cls, HST.out.gr⟩
end Go.Proofs.Ytjfdomfendbhfaa
