/- Part 35 of the proof: CDiv, Blk. -/
import Derived.Test.YtjfdomfendbhfaaQb34
set_option linter.unusedVariables false
set_option linter.unusedSimpArgs false
namespace Go.Proofs.Ytjfdomfendbhfaa
open Go.RowKit Go.Maps
def conR (l : List ClaV) : Int := if sU l = true ∧ 0 < l.length then lG (l.headD default).b else 0
def ConI (l : List ClaV) (k : Nat) : Prop := ∀ i, i < k → (l.getD i default).b = (l.headD default).b
theorem ConI.bad {l : List ClaV} {k : Nat} (hk : k < l.length) (h : (l.getD k default).b ≠ (l.headD default).b) : sU l = false := by
 rw [sU, List.all_eq_false]
 refine ⟨l[k], List.getElem_mem hk, ?_⟩
 rw [zI hk] at h
 simpa using h
theorem ConI.all {l : List ClaV} (h : ConI l l.length) : sU l = true := by
 rw [sU, List.all_eq_true]
 intro c hc
 obtain ⟨i, hi, rfl⟩ := List.getElem_of_mem hc
 have := h i hi
 rw [zI hi] at this
 simp [this]
set_option maxRecDepth 100000 in
set_option maxHeartbeats 800000 in
theorem constant_any (X : Nat → Prop) (w : World) (v : Value) (l : List ClaV) (h : ClsX X w v l) :
  Calls Try.prog 112 #[v] w fun e w' => e = .returned (.tuple #[.int .i64 (conR l), .bool (sU l)]) ∧ w.grownBy w' none := by
 have hlm := h.len_le
 obtain ⟨a, c, rfl⟩ := h.shape
 obtain ⟨n, hn⟩ : ∃ n, n = l.length := ⟨_, rfl⟩
 have H := Kh h; have HN := Kh hn
 rw [← hn] at hlm H ⊢
 unfold maxLen at hlm
 obtain ⟨hb, hhb⟩ : ∃ b, b = (l.headD default).b := ⟨_, rfl⟩
 have HHB := Kh hhb
 clear h hn hhb
 go_enter Try.func112, Try.ntmps112
 go_wp2
 go_loopg [4, 5, 7, 10] n (fun gh v4 v5 v7 v10 wr => ∃ k : Nat, gh + k = n ∧ v10 = .int .i64 k ∧ v4 = .int .i64 (if k = 0 then 0 else lG hb) ∧ ConI l k ∧ w.grownBy wr none)
 case atStart => exact ⟨0, rfl, rfl, rfl, fun i hi => by omega, zL _ _⟩
 case round =>
  obtain ⟨k, hgk, rfl, rfl, hc, hg⟩ := hrel
  have HGK := Kh hgk; have HC := Kh hc; have HG := Kh hg
  clear hgk hc
  by_cases hk : k < n
  ·have hk' : (k : Int) < n := by omega
   obtain ⟨b, off, cap, e, _, hc1, hc2, hcl⟩ := (H.out.grow hg).at_ (by rw [← HN.out]; omega)
   rw [← HN.out] at e hc1
   simp only [Value.slice.injEq, true_and] at e
   obtain ⟨rfl, rfl⟩ := e
   have hmx : c ≤ 9223372036854775807 := by unfold maxLen at hc2; omega
   have c1 := hcl.m k (by rw [← HN.out]; exact hk)
   have c2 := hcl.y k (by rw [← HN.out]; exact hk)
   have c3 := hcl.n k (by rw [← HN.out]; exact hk)
   obtain ⟨U, hU⟩ : ∃ U, U = mT (l.getD k default).m := ⟨_, rfl⟩
   obtain ⟨y, hy⟩ : ∃ y, y = (l.getD k default).yes := ⟨_, rfl⟩
   obtain ⟨z, hz⟩ : ∃ z, z = (l.getD k default).no := ⟨_, rfl⟩
   rw [← hU] at c1
   rw [← hy] at c2
   rw [← hz] at c3
   have HB : Hid ((l.getD k default).b = decide (0 ≤ y)) := Kh (by rw [hy]; rfl)
   have hb2 := heap_alloc_new wr (.cells #[.string U, .int .i64 y, .int .i64 z] 99)
   have hg2 := World.grownBy_alloc wr (.cells #[.string U, .int .i64 y, .int .i64 z] 99) none
   obtain ⟨w2, hw2⟩ : ∃ w2, w2 = wr.alloc (.cells #[.string U, .int .i64 y, .int .i64 z] 99) := ⟨_, rfl⟩
   obtain ⟨R, hR⟩ : ∃ R, R = wr.heap.size := ⟨_, rfl⟩
   rw [← hw2] at hb2 hg2
   rw [← hR] at hb2
   have HW2 := Kh hw2; have HRE := Kh hR
   have HG2 := Kh (zA hg hg2 (by simp))
   obtain ⟨r0, r1, r2⟩ := zW hb2
   clear hcl hc1 hc2 hU hy hz hw2 hR hg2 hb2 hg
   go_upto_region 5 with fail
   rw [← HW2.out, ← HRE.out]
   clear c1 c2 c3
   have HFAR : Hid (∀ b : Bool, (l.getD k default).b = b → b = hb → ConI l (k + 1)) := Kh (fun b h1 h2 i hi => by
    rcases Nat.lt_succ_iff_lt_or_eq.1 hi with hi | rfl
    ·exact HC.out i hi
    ·rw [h1, h2, HHB.out])
   have HBAD : Hid (∀ b : Bool, (l.getD k default).b = b → b ≠ hb → sU l = false) := Kh (fun b h1 h2 => ConI.bad (by rw [← HN.out]; exact hk) (by rw [h1, ← HHB.out]; exact h2))
   have HHD : Hid (k = 0 → (l.getD k default).b = hb) := Kh (fun e => by
    subst e
    rw [HHB.out]
    cases l with
    | nil => have := HN.out; simp at this; omega
    | cons x l => rfl)
   by_cases hy0 : (0 : Int) ≤ y
   ·have HB1 : Hid ((l.getD k default).b = true) := Kh (by rw [HB.out]; simp [hy0])
    by_cases hk0 : k = 0
    ·have HE := Kh (HHD.out hk0)
     have hbt : Hid (hb = true) := Kh (by rw [← HE.out, HB1.out])
     subst hk0
     go_wp2
     go_roundg (n - (0 + 1))
     case measure => have := HGK.out; omega
     case rel => exact ⟨1, by have := HGK.out; omega, rfl, by rw [hbt.out]; rfl, HFAR.out true HB1.out hbt.out.symm, HG2.out⟩
    ·have hk1 : (0 : Int) < k := by omega
     have hk2 : 0 < k := by omega
     rw [if_neg hk0]
     cases hb with
     | true =>
      have e0 : lG true = 1 := rfl
      go_wp2
      go_roundg (n - (k + 1))
      case measure => have := HGK.out; omega
      case rel => exact ⟨k + 1, by have := HGK.out; omega, by go_num, by rw [if_neg (by omega)]; rfl, HFAR.out true HB1.out rfl, HG2.out⟩
     | false =>
      have e0 : lG false = 0 := rfl
      have HCF := Kh (HBAD.out true HB1.out (by simp))
      go_wp2
      refine bodyPost_ret (v := .tuple #[.int .i64 0, .bool false]) (by simp [results, Try.results112, go_sem]) rfl ?_
      exact ⟨by rw [conR, HCF.out, if_neg (by simp)], HG2.out⟩
   ·have HB1 : Hid ((l.getD k default).b = false) := Kh (by rw [HB.out]; simp [hy0])
    by_cases hk0 : k = 0
    ·have HE := Kh (HHD.out hk0)
     have hbt : Hid (hb = false) := Kh (by rw [← HE.out, HB1.out])
     subst hk0
     go_wp2
     go_roundg (n - (0 + 1))
     case measure => have := HGK.out; omega
     case rel => exact ⟨1, by have := HGK.out; omega, rfl, by rw [hbt.out]; rfl, HFAR.out false HB1.out hbt.out.symm, HG2.out⟩
    ·have hk1 : (0 : Int) < k := by omega
     have hk2 : 0 < k := by omega
     rw [if_neg hk0]
     cases hb with
     | false =>
      have e0 : lG false = 0 := rfl
      go_wp2
      go_roundg (n - (k + 1))
      case measure => have := HGK.out; omega
      case rel => exact ⟨k + 1, by have := HGK.out; omega, by go_num, by rw [if_neg (by omega)]; rfl, HFAR.out false HB1.out rfl, HG2.out⟩
     | true =>
      have e0 : lG true = 1 := rfl
      have HCF := Kh (HBAD.out false HB1.out (by simp))
      go_wp2
      refine bodyPost_ret (v := .tuple #[.int .i64 0, .bool false]) (by simp [results, Try.results112, go_sem]) rfl ?_
      exact ⟨by rw [conR, HCF.out, if_neg (by simp)], HG2.out⟩
  ·have hkn : k = n := by have := HGK.out; omega
   have hk' : ¬ (k : Int) < n := by omega
   have HCT : Hid (sU l = true) := Kh (ConI.all (by rw [← HN.out, ← hkn]; exact HC.out))
   have HCR : Hid (conR l = if k = 0 then 0 else lG hb) := Kh (by
    rw [conR, HCT.out, HHB.out, ← HN.out, ← hkn]
    by_cases h0 : k = 0
    ·rw [if_neg (by omega), if_pos h0]
    ·rw [if_pos ⟨rfl, by omega⟩, if_neg h0])
   obtain ⟨x, hx⟩ : ∃ x : Int, x = if k = 0 then 0 else lG hb := ⟨_, rfl⟩
   rw [← hx] at HCR ⊢
   clear hkn hx hg
   go_wp2
   refine bodyPost_ret (v := .tuple #[.int .i64 x, .bool true]) (by simp [results, Try.results112, go_sem]) rfl ?_
   exact ⟨by rw [HCR.out, HCT.out], HG.out⟩
theorem mT_at {m : List Bool} {p : Nat} (hp : p < m.length) : ∃ h : p < (mT m).size, ((mT m)[p]'h).toNat = if m.getD p false = true then 1 else 0 := by
 refine ⟨by rw [mT_size]; exact hp, ?_⟩
 have e1 : (mT m).data.toList = (mN m).map (fun x => UInt8.ofNat x) := by
  unfold mT txtT
  rw [strOfNums_data]
  simp [zb]
 have hq : p < (mT m).size := by rw [mT_size]; exact hp
 have e2 : (mT m).data.toList[p]'(by simpa using hq) = (mT m)[p]'hq := rfl
 rw [← e2, zI hp]
 simp only [e1, List.getElem_map, mN]
 split <;> rfl
theorem yesL_snoc {l : List ClaV} {k p : Nat} (hk : k < l.length) : yesL (l.take (k + 1)) p = if (l.getD k default).m.getD p false = true then yesL (l.take k) p ++ [l.getD k default] else yesL (l.take k) p := by
 rw [yH (d := default) hk, yesL, List.filter_append, List.filter_cons, List.filter_nil]
 split <;> simp [yesL]
theorem noL_snoc {l : List ClaV} {k p : Nat} (hk : k < l.length) : noL (l.take (k + 1)) p = if (l.getD k default).m.getD p false = true then noL (l.take k) p else noL (l.take k) p ++ [l.getD k default] := by
 rw [yH (d := default) hk, noL, List.filter_append, List.filter_cons, List.filter_nil]
 cases (l.getD k default).m.getD p false <;> simp [noL]
def DivRet (w : World) (l : List ClaV) (p : Nat) (e : Ending) (w' : World) : Prop :=
 ∃ sy cy sn cn, e = .returned (.tuple #[.slice sy (yesL l p).length cy, .slice sn (noL l p).length cn]) ∧ w'.ownsRow w.heap.size 99 3 (.slice sy (yesL l p).length cy) (yesL l p).length (uQ (yesL l p)) ∧ w'.ownsRow w.heap.size 99 3 (.slice sn (noL l p).length cn) (noL l p).length (uQ (noL l p)) ∧ w.grownBy w' none
structure Two (w : World) (ya na : Option Addr) (yc nc : Nat) (ly ln : List ClaV) (wr : World) : Prop where
 y : wr.ownsRow w.heap.size 99 3 (.slice ya ly.length yc) ly.length (uQ ly)
 n : wr.ownsRow w.heap.size 99 3 (.slice na ln.length nc) ln.length (uQ ln)
 ne : ∀ k, (Value.slice ya ly.length yc).ownBlock = some k → (Value.slice na ln.length nc).ownBlock ≠ some k
 gr : w.grownBy wr none
theorem Two.grow {w wr w' : World} {ya na : Option Addr} {yc nc : Nat} {ly ln : List ClaV} (h : Two w ya na yc nc ly ln wr) (hg : wr.grownBy w' none) : Two w ya na yc nc ly ln w' := ⟨zV h.y hg, zV h.n hg, h.ne, zA h.gr hg (by simp)⟩
theorem Two.pushY {w wr w' : World} {ya na sa : Option Addr} {yc nc sc : Nat} {ly ln : List ClaV} {c : ClaV} (h : Two w ya na yc nc ly ln wr) (ho : w'.ownsRow w.heap.size 99 3 (.slice sa (ly.length + 1) sc) (ly.length + 1) (uQ ly ++ cval c)) (hg : wr.grownBy w' (Value.slice ya ly.length yc).ownBlock) (hm : nM wr w' (.slice ya ly.length yc) (.slice sa (ly.length + 1) sc)) :
  Two w sa na sc nc (ly ++ [c]) ln w' := by
 refine ⟨by rw [List.length_append, lB]; exact ho, h.n.kept hg ?_, fun k hk => ?_, zA h.gr hg (fun k e => (h.y.lt k e).1)⟩
 ·rcases hv : (Value.slice na ln.length nc).ownBlock with _ | k
  ·exact .inl rfl
  ·exact .inr (fun e => h.ne k e.symm hv)
 ·rw [List.length_append] at hk
  rcases hm with hm | ⟨_, hm⟩
  ·have e : (Value.slice sa (ly.length + 1) sc).ownBlock = some k := hk
   rw [hm] at e; exact h.ne k e
  ·have := hm k hk
   intro e
   have := (h.n.lt k e).2
   omega
theorem Two.pushN {w wr w' : World} {ya na sa : Option Addr} {yc nc sc : Nat} {ly ln : List ClaV} {c : ClaV} (h : Two w ya na yc nc ly ln wr) (ho : w'.ownsRow w.heap.size 99 3 (.slice sa (ln.length + 1) sc) (ln.length + 1) (uQ ln ++ cval c)) (hg : wr.grownBy w' (Value.slice na ln.length nc).ownBlock) (hm : nM wr w' (.slice na ln.length nc) (.slice sa (ln.length + 1) sc)) :
  Two w ya sa yc sc ly (ln ++ [c]) w' := by
 refine ⟨h.y.kept hg ?_, by rw [List.length_append, lB]; exact ho, fun k hk e0 => ?_, zA h.gr hg (fun k e => (h.n.lt k e).1)⟩
 ·rcases hv : (Value.slice ya ly.length yc).ownBlock with _ | k
  ·exact .inl rfl
  ·exact .inr (fun e => h.ne k hv e.symm)
 ·rw [List.length_append] at e0
  rcases hm with hm | ⟨_, hm⟩
  ·have e : (Value.slice sa (ln.length + 1) sc).ownBlock = some k := e0
   rw [hm] at e; exact h.ne k hk e
  ·have := hm k e0
   have := (h.y.lt k hk).2
   omega
set_option maxRecDepth 100000 in
set_option maxHeartbeats 800000 in
theorem divide_any (X : Nat → Prop) (w : World) (v : Value) (l : List ClaV) (p : Nat) (h : ClsX X w v l) (hp : ∀ c ∈ l, p < c.m.length ∧ c.m.length ≤ 400) (hl : l.length ≤ 4000) :
  Calls Try.prog 113 #[v, .int .i64 (p : Int)] w (DivRet w l p) := by
 obtain ⟨a, c, rfl⟩ := h.shape
 obtain ⟨n, hn⟩ : ∃ n, n = l.length := ⟨_, rfl⟩
 have H := Kh h; have HN := Kh hn; have HP := Kh hp
 rw [← hn] at hl H ⊢
 clear h hn hp
 go_enter Try.func113, Try.ntmps113
 go_wp2
 go_loopg [4, 5, 10] n (fun gh v4 v5 v10 wr => ∃ (k : Nat) (ya na : Option Addr) (yc nc : Nat), gh + k = n ∧ v10 = .int .i64 k ∧ v4 = .slice ya (yesL (l.take k) p).length yc ∧ v5 = .slice na (noL (l.take k) p).length nc ∧ Two w ya na yc nc (yesL (l.take k) p) (noL (l.take k) p) wr)
 case atStart => exact ⟨0, none, none, 0, 0, rfl, rfl, rfl, rfl, World.ownsRow_nil _ _ _ _, World.ownsRow_nil _ _ _ _, fun k hk => by simp [Value.ownBlock] at hk, zL _ _⟩
 case round =>
  obtain ⟨k, ya, na, yc, nc, hgk, rfl, rfl, rfl, hT⟩ := hrel
  have HGK := Kh hgk; have HT := Kh hT
  have hg := hT.gr
  clear hgk hT
  by_cases hk : k < n
  ·have hk' : (k : Int) < n := by omega
   obtain ⟨b, off, cap, e, _, hc1, hc2, hcl⟩ := (H.out.grow hg).at_ (by rw [← HN.out]; omega)
   rw [← HN.out] at e hc1
   simp only [Value.slice.injEq, true_and] at e
   obtain ⟨rfl, rfl⟩ := e
   have hmx : c ≤ 9223372036854775807 := by unfold maxLen at hc2; omega
   have hkl : k < l.length := by rw [← HN.out]; exact hk
   have c1 := hcl.m k hkl
   have c2 := hcl.y k hkl
   have c3 := hcl.n k hkl
   obtain ⟨hp1, hp2⟩ := HP.out (l.getD k default) (by rw [zI hkl]; exact List.getElem_mem hkl)
   have HY := Kh (yesL_snoc (p := p) hkl); have HNO := Kh (noL_snoc (p := p) hkl)
   have hyn : (yesL (l.take k) p).length + (noL (l.take k) p).length ≤ 4000 := by rw [yn_len, List.length_take]; omega
   obtain ⟨ly, hly⟩ : ∃ x, x = yesL (l.take k) p := ⟨_, rfl⟩
   obtain ⟨ln, hln⟩ : ∃ x, x = noL (l.take k) p := ⟨_, rfl⟩
   rw [← hly, ← hln] at HT hyn
   rw [← hly] at HY ⊢
   rw [← hln] at HNO ⊢
   obtain ⟨d, hd⟩ : ∃ d, d = l.getD k default := ⟨_, rfl⟩
   rw [← hd] at c1 c2 c3 HY HNO hp1 hp2
   obtain ⟨hus, hut⟩ := mT_at hp1
   have husz : (mT d.m).size ≤ 400 := by rw [mT_size]; exact hp2
   have HCV : Hid (cval d = [.string (mT d.m), .int .i64 d.yes, .int .i64 d.no]) := Kh rfl
   obtain ⟨U, hU⟩ : ∃ U, U = mT d.m := ⟨_, rfl⟩
   obtain ⟨y, hy⟩ : ∃ y, y = d.yes := ⟨_, rfl⟩
   obtain ⟨z, hz⟩ : ∃ z, z = d.no := ⟨_, rfl⟩
   rw [← hU, ← hy, ← hz] at HCV
   rw [← hy] at c2
   rw [← hz] at c3
   generalize hgu : mT d.m = U2 at hus hut husz c1
   have e9 : U2 = U := by rw [← hgu, hU]
   subst e9
   clear hgu hU
   have hp' : (p : Int) < U2.size := by omega
   have hb2 := heap_alloc_new wr (.cells #[.string U2, .int .i64 y, .int .i64 z] 99)
   have hg2 := World.grownBy_alloc wr (.cells #[.string U2, .int .i64 y, .int .i64 z] 99) none
   obtain ⟨w2, hw2⟩ : ∃ w2, w2 = wr.alloc (.cells #[.string U2, .int .i64 y, .int .i64 z] 99) := ⟨_, rfl⟩
   obtain ⟨R, hR⟩ : ∃ R, R = wr.heap.size := ⟨_, rfl⟩
   rw [← hw2] at hb2 hg2
   rw [← hR] at hb2
   have HW2 := Kh hw2; have HRE := Kh hR
   have HT2 := Kh (HT.out.grow hg2)
   have hz2 := HT2.out.gr.size
   obtain ⟨r0, r1, r2⟩ := zW hb2
   obtain ⟨bo, hbo⟩ : ∃ bo, bo = d.m.getD p false := ⟨_, rfl⟩
   rw [← hbo] at hut HY HNO
   clear hcl hc1 hc2 hy hz hw2 hR hg2 hb2 hg hd hbo HT hp1 hp2 hly hln
   go_upto_region 4 with fail
   rw [← HW2.out, ← HRE.out]
   clear c1 c2 c3
   cases bo with
   | true =>
    rw [if_pos rfl] at hut HY HNO
    have hut2 : ((U2[p].toNat : Nat) : Int) = 1 := by rw [hut]; rfl
    have HOY := Kh HT2.out.y
    go_wp2_with (first | (at_builtin; refine rQ rfl _ _ _ rfl elem_cls w.heap.size (.slice ya ly.length yc) ly.length (uQ ly) rfl HOY.out [.string U2, .int .i64 y, .int .i64 z] rfl rfl ?z1 ?z2 ?z3 ?z4 ?_; (case z1 => (intro v hv; simp only [List.mem_cons, List.not_mem_nil, or_false] at hv; rcases hv with rfl | rfl | rfl <;> rfl)); (case z2 => (unfold maxLen; omega)); (case z3 => (show (ly.length + 1) * 32 ≤ 140737488355328; omega)); (case z4 => exact hz2); intro sv cv wM hownM hgM hmM; (have HTM := Kh (HT2.out.pushY (c := d) (by rw [HCV.out]; exact hownM) hgM hmM)); clear hownM hgM hmM) | fail)
    go_wp2
    go_roundg (n - (k + 1))
    case measure => have := HGK.out; omega
    case rel => exact ⟨k + 1, sv, na, cv, nc, by have := HGK.out; omega, by go_num, by rw [HY.out, List.length_append]; rfl, by rw [HNO.out], by rw [HY.out, HNO.out]; exact HTM.out⟩
   | false =>
    rw [if_neg (by simp)] at hut HY HNO
    have hut2 : ((U2[p].toNat : Nat) : Int) = 0 := by rw [hut]; rfl
    have HON := Kh HT2.out.n
    go_wp2_with (first | (at_builtin; refine rQ rfl _ _ _ rfl elem_cls w.heap.size (.slice na ln.length nc) ln.length (uQ ln) rfl HON.out [.string U2, .int .i64 y, .int .i64 z] rfl rfl ?z1 ?z2 ?z3 ?z4 ?_; (case z1 => (intro v hv; simp only [List.mem_cons, List.not_mem_nil, or_false] at hv; rcases hv with rfl | rfl | rfl <;> rfl)); (case z2 => (unfold maxLen; omega)); (case z3 => (show (ln.length + 1) * 32 ≤ 140737488355328; omega)); (case z4 => exact hz2); intro sv cv wM hownM hgM hmM; (have HTM := Kh (HT2.out.pushN (c := d) (by rw [HCV.out]; exact hownM) hgM hmM)); clear hownM hgM hmM) | fail)
    go_wp2
    go_roundg (n - (k + 1))
    case measure => have := HGK.out; omega
    case rel => exact ⟨k + 1, ya, sv, yc, cv, by have := HGK.out; omega, by go_num, by rw [HY.out], by rw [HNO.out, List.length_append]; rfl, by rw [HY.out, HNO.out]; exact HTM.out⟩
  ·have hkn : k = n := by have := HGK.out; omega
   have hk' : ¬ (k : Int) < n := by omega
   have HE : Hid (l.take k = l) := Kh (List.take_of_length_le (by rw [← HN.out]; omega))
   rw [HE.out] at HT ⊢
   clear hkn hg
   go_wp2
   refine bodyPost_ret (v := .tuple #[.slice ya (yesL l p).length yc, .slice na (noL l p).length nc]) (by simp [results, Try.results113, go_sem]) rfl ?_
   exact ⟨ya, yc, na, nc, rfl, HT.out.y, HT.out.n, HT.out.gr⟩
end Go.Proofs.Ytjfdomfendbhfaa
namespace Go.Proofs.Ytjfdomfendbhfaa
def inBlk (n : Nat) : Code → Option Code
 | .block i c => if i = n then some c else inBlk n c
 | .seq a b => match inBlk n a with
  | some c => some c
  | none => inBlk n b
 | .cond _ a b => match inBlk n a with
  | some c => some c
  | none => inBlk n b
 | .loop c => inBlk n c
 | .scope c => inBlk n c
 | _ => none
noncomputable def blk (f : Func) (n : Nat) : Code := (f.body.bind (inBlk n)).getD .skip
def inReg (n : Nat) : Code → Option Code
 | .region i o d => if i = n then some (.region i o d) else none
 | .block _ c => inReg n c
 | .seq a b => match inReg n a with
  | some c => some c
  | none => inReg n b
 | .cond _ a b => match inReg n a with
  | some c => some c
  | none => inReg n b
 | .loop c => inReg n c
 | .scope c => inReg n c
 | _ => none
noncomputable def reg (f : Func) (n : Nat) : Code := (f.body.bind (inReg n)).getD .skip
end Go.Proofs.Ytjfdomfendbhfaa
