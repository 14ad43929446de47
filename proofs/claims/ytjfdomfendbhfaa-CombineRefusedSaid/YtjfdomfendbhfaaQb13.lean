/- Part 13 of the proof: App1, Expl. -/
import Derived.Test.YtjfdomfendbhfaaQb12
import Derived.Deep.RegionLaw
set_option linter.unusedVariables false
set_option linter.unusedSimpArgs false
namespace Go.Proofs.Ytjfdomfendbhfaa
open Go.RowKit
theorem pE {P : Program} {ops : Array Oper} {o : Oper} {a : Act} {w : World} {K : Act → World → Prop} {Q : Exit → Act → World → Prop} {R : Prop} (hgd : o.guard = none) (s x : Operand) (t : TypeId)
  (ho : o.op = .call { callee := .builtin .append, args := #[s, x], argTypes := #[t, t] })
  {e : TypeId} {z : Value} {bytes : Nat} (E : ElemOk P t e z bytes) (base : Nat) (v : Value) (n : Nat) (xs : List Value) (hs : a.eval s = v) (hown : w.ownsRow base e 1 v n xs)
  (u : Value) (blk : Nat) (m : Nat × Nat) (hx : a.eval x = .slice (some ⟨blk, 0, none⟩) 1 1) (hblk : w.heap[blk]? = some (.cells #[u] e m)) (h1 : u.oneCell' = true) (h63 : n + 1 ≤ maxLen) (hbytes : (n + 1) * bytes ≤ 140737488355328) (hbase : base ≤ w.heap.size)
  (h : ∀ sa sc w', w'.ownsRow base e 1 (.slice sa (n + 1) sc) (n + 1) (xs ++ [u]) → w.grownBy w' v.ownBlock → K (a.put o.dst (.slice sa (n + 1) sc)) w') :
  if Region.wanted o (yielded ops a.tmps) = true then Oper.wp P o a w K Q else R := by
 have hw : Region.wanted o (yielded ops a.tmps) = true := by simp [Region.wanted, hgd]
 rw [if_pos hw]
 obtain ⟨i, hi, hz, hsz, hby⟩ := info_parts E.hi
 refine wp_append_own w s x t ho base e i z 1 bytes E.ht hi hz hsz hby E.hz (by decide) v n xs hs hown ⟨blk, 0, none⟩ 1 1 [u] hx rfl ?_ ?_ h63 hbytes hbase ?_
 ·intro j u' hj
  match j, hj with
  | 0, hj => simp at hj; subst hj; simpa [Addr.add] using zO hblk 0 (by simp)
 ·intro u' hu; simp at hu; subst hu; exact h1
 ·intro v' w' h1 h2 _
  obtain ⟨sa, sc, rfl⟩ := sD h1
  exact h sa sc w' h1 h2
end Go.Proofs.Ytjfdomfendbhfaa
namespace Go.Proofs.Ytjfdomfendbhfaa
open Go.RowKit Go.Maps
def exT (d : DfaV) (k : Nat) (l : List Nat) (i : Nat) : List (List Int) := (l.take i).map fun q => sI (zX d k) (d.next.getD q [])
def exF (d : DfaV) (l : List Nat) (i : Nat) : List Bool := (l.take i).map fun q => d.final.getD q false
theorem exT_len {d : DfaV} {k : Nat} {l : List Nat} {i : Nat} (h : i ≤ l.length) : (exT d k l i).length = i := by simp [exT]; omega
theorem exF_len {d : DfaV} {l : List Nat} {i : Nat} (h : i ≤ l.length) : (exF d l i).length = i := by simp [exF]; omega
theorem exT_next {d : DfaV} {k : Nat} {l m : List Nat} {i : Nat} (hp : l <+: m) (h : i < l.length) : exT d k m (i + 1) = exT d k l i ++ [sI (zX d k) (d.next.getD (l.getD i 0) [])] := by
 simp only [exT, pD hp (show i + 1 ≤ l.length by omega), yH (d := 0) h, List.map_append, List.map_cons, List.map_nil]
theorem exF_next {d : DfaV} {l m : List Nat} {i : Nat} (hp : l <+: m) (h : i < l.length) : exF d m (i + 1) = exF d l i ++ [d.final.getD (l.getD i 0) false] := by
 simp only [exF, pD hp (show i + 1 ≤ l.length by omega), yH (d := 0) h, List.map_append, List.map_cons, List.map_nil]
theorem RowX.of_arr {X : Nat → Prop} {w : World} {g n : Nat} {e : TypeId} {xs : List Value} (h : Arr w g e xs) (hn : xs.length = n) (hm : n ≤ maxLen) (hX : X g) : RowX X e w (.slice (some ⟨g, 0, none⟩) n n) xs := by
 obtain ⟨cur, rest, hc, ht⟩ := h
 subst hn
 refine ⟨.inr ⟨g, 0, xs.length, cur, (0, 0), rfl, zN hc, Nat.le_refl _, hm, hc, fun i hi => ?_⟩, fun k hk => ?_⟩
 ·rw [Nat.zero_add, ← Array.getElem?_toList, ht, List.getElem?_append_left hi, List.getElem?_eq_getElem hi]
 ·have : g = k := by simpa [Value.ownBlock] using hk
  subst this; exact hX
theorem Arr.but {w w' : World} {g : Nat} {e : TypeId} {xs : List Value} {F : Nat → Prop} (h : Arr w g e xs) (hg : GrownBut w w' F) (hF : ¬ F g) : Arr w' g e xs := by
 obtain ⟨cur, rest, hc, ht⟩ := h
 exact ⟨cur, rest, hg.heap hc hF, ht⟩
theorem sG {w W : World} {o : Obj} (h1 : W.os = w.os) (h2 : W.tape = w.tape) (h3 : W.output = w.output) (h4 : W.heap = (w.alloc o).heap) : w.grownBy W none :=
 uB (World.grownBy_alloc w o none) h1 h2 h3 h4
structure TBox (B : Nat) (W : World) (P : Nat) (d : DfaV) (n k S fb fo fc b off cap : Nat) (RB RO RC : Nat → Nat) : Prop where
 box : W.heap[P]? = some (.cells #[.int .i64 (k : Int), .int .i64 (S : Int), .slice (some ⟨fb, fo, none⟩) n fc, .slice (some ⟨b, off, none⟩) n cap] 42 (0, 0))
 at_ : DAt B W d n k fb fo fc b off cap RB RO RC
theorem TBox.grow {B : Nat} {W W' : World} {P : Nat} {d : DfaV} {n k S fb fo fc b off cap : Nat} {RB RO RC : Nat → Nat} (h : TBox B W P d n k S fb fo fc b off cap RB RO RC) (hg : W.grownBy W' none) : TBox B W' P d n k S fb fo fc b off cap RB RO RC :=
 ⟨zB h.box hg (by simp), h.at_.kept hg (by simp)⟩
section
variable {B : Nat} {W : World} {P : Nat} {d : DfaV} {n k S fb fo fc b off cap : Nat} {RB RO RC : Nat → Nat}
set_option maxHeartbeats 400000 in
theorem trim1_any (h : TBox B W P d n k S fb fo fc b off cap RB RO RC) {q a : Nat} (hq : q < n) (ha : a < k) :
  Calls Try.prog 122 #[.int .i64 (q : Int), .int .i64 (a : Int), .pointer (some ⟨P, 0, none⟩)] W fun e w' => e = .returned (.int .i64 ((nx d q a : Nat) : Int)) ∧ W = w' := by
 obtain ⟨c0, c1, c2, c3⟩ := zG h.box
 have c4 := h.at_.hd q hq
 have c5 := h.at_.el q a hq ha
 have hc := h.at_.cap
 have hr := h.at_.rcap q hq
 have hd := h.at_.ok
 have hn := hd.nbig
 have hk := hd.k6
 unfold maxLen at hc hr
 clear h hd
 go_enter Try.func122, Try.ntmps122
 go_wp2
 go_ret
 exact ⟨rfl, rfl⟩
set_option maxHeartbeats 400000 in
theorem trim2_any (h : TBox B W P d n k S fb fo fc b off cap RB RO RC) {q : Nat} (hq : q < n) :
  Calls Try.prog 123 #[.int .i64 (q : Int), .pointer (some ⟨P, 0, none⟩)] W fun e w' => e = .returned (.bool (d.final.getD q false)) ∧ W = w' := by
 obtain ⟨c0, c1, c2, c3⟩ := zG h.box
 have c4 := h.at_.fin hq
 have hc := h.at_.fcap
 have hd := h.at_.ok
 have hn := hd.nbig
 unfold maxLen at hc
 clear h hd
 go_enter Try.func123, Try.ntmps123
 go_wp2
 go_ret
 exact ⟨rfl, rfl⟩
end
def ExplOk (W : World) (d : DfaV) (k : Nat) (e : Ending) (W' : World) : Prop :=
 ∃ v sa sc, e = .returned (.tuple #[v, .slice sa (zX d k).length sc, .int .i64 0]) ∧ tQ W W' v (xV d k) ∧ W'.ownsRow W.heap.size 3 1 (.slice sa (zX d k).length sc) (zX d k).length (nats (zX d k)) ∧ W.grownBy W' none
set_option maxRecDepth 100000 in
set_option maxHeartbeats 2000000 in
theorem explore_any (B : Nat) (W : World) (P : Nat) (d : DfaV) (n k S fb fo fc b off cap : Nat) (RB RO RC : Nat → Nat) (hS : S = st0 d) (h5 : n ≤ 512) (h : TBox B W P d n k S fb fo fc b off cap RB RO RC) :
  Calls Try.prog 121 #[.int .i64 (k : Int), .int .i64 (S : Int), .func (.func 122) #[] #[.pointer (some ⟨P, 0, none⟩)], .func (.func 123) #[] #[.pointer (some ⟨P, 0, none⟩)]] W (ExplOk W d k) := by
 have hd := h.at_.ok
 have hn := hd.nbig
 have hk := hd.k6
 have hk1 := hd.k1
 have hS4 : S < n := by rw [hS]; exact pF hd
 obtain ⟨w1, hw1⟩ : ∃ w1, w1 = (W.alloc (.cells #[.int .i64 0, .int .i64 0, .slice none 0 0, .slice none 0 0] 42)).alloc (.cells #[.slice none 0 0, .map none] 181) := ⟨_, rfl⟩
 have hg1 : W.grownBy w1 none := by rw [hw1]; exact vG (World.grownBy_alloc W _ none) _
 have hb0 : w1.heap[W.heap.size]? = some (.cells #[.int .i64 0, .int .i64 0, .slice none 0 0, .slice none 0 0] 42 (0, 0)) := by rw [hw1]; exact oE W _ _
 have hbN : w1.heap[W.heap.size + 1]? = some (.cells #[.slice none 0 0, .map none] 181 (0, 0)) := by rw [hw1]; exact pZ W _ _
 have hz1 : w1.heap.size = W.heap.size + 2 := by rw [hw1, zJ, zJ]
 obtain ⟨oN, hoN⟩ : ∃ o, o = W.heap.size + 1 := ⟨_, rfl⟩
 obtain ⟨o0, ho0⟩ : ∃ o, o = W.heap.size := ⟨_, rfl⟩
 rw [← ho0] at hb0
 rw [← hoN] at hbN
 have HNM : Hid (NumSt W.heap.size w1 oN none 0 none []) := Kh ⟨hbN, World.ownsRow_nil _ _ _ _, .inl ⟨rfl, rfl⟩, by omega⟩
 have HB0 := Kh hb0; have HG1 := Kh hg1; have HW1 := Kh hw1; have HD := Kh hd; have HT := Kh h; have HS := Kh hS; have HOO := Kh ho0
 have HON := Kh hoN
 have hoN1 : W.heap.size < oN := by omega
 have hoN2 : oN < w1.heap.size := by omega
 have ho01 : W.heap.size ≤ o0 := by omega
 have ho02 : o0 < oN := by omega
 clear hoN ho0
 clear hb0 hbN hg1 hw1 hd h hS
 go_enter Try.func121, Try.ntmps121
 go_upto_region 2 with fail
 rw [← HW1.out, ← HON.out, ← HOO.out]
 go_wp2_with fail
 refine (numOf_any W.heap.size w1 oN none 0 none [] S HNM.out (by omega) (by simp) (by omega)).mono ?_
 rintro e w2 ⟨sa2, sc2, mv2, rfl, hnum2, hbut2, hmv2⟩
 have hl2 : xK ([] : List Nat) S = [S] := by simp [xK]
 rw [hl2] at hnum2
 have hz2 := hbut2.size
 have HNUM := Kh hnum2; have HBUT := Kh hbut2
 obtain ⟨o2, ho2⟩ : ∃ o, o = w2.heap.size := ⟨_, rfl⟩
 clear hl2 hnum2 hbut2 hmv2
 go_wp2_with fail
 obtain ⟨w3, hw3⟩ : ∃ w3, w3 = w2.alloc (.cells #[.int .i64 (k : Int), .int .i64 0, .slice none 0 0, .slice none 0 0] 42) := ⟨_, rfl⟩
 have hg3 := World.grownBy_alloc w2 (.cells #[.int .i64 (k : Int), .int .i64 0, .slice none 0 0, .slice none 0 0] 42) none
 have hb3 := heap_alloc_new w2 (.cells #[.int .i64 (k : Int), .int .i64 0, .slice none 0 0, .slice none 0 0] 42)
 rw [← hw3] at hg3 hb3
 rw [← ho2] at hb3
 have hz3 := hg3.size
 have ho2W : W.heap.size ≤ o2 := by omega
 have ho2l := zN hb3
 have HG3 := Kh (zA (HBUT.out.grown HG1.out (fun k hk => .inr (HNM.out.ge k hk).1)) hg3 (by simp))
 have HST : Hid (ExSt W.heap.size W w3 oN o2 (fun _ => False) (fun _ => False) k [S] (exF d [S] 0) (exT d k [S] 0) [] sa2 sc2 mv2 none 0 none 0) := Kh ⟨HNUM.out.kept hg3 (by simp), fun _ _ h => h, fun _ h => h, fun _ h => h.elim, hb3, World.ownsRow_nil _ _ _ _, World.ownsRow_nil _ _ _ _, vX.nil, ho2W, ⟨Nat.le_refl _, by omega⟩, HG3.out⟩
 have HO2 := Kh ho2; have HW3 := Kh hw3; have HB03 := Kh (zB (HBUT.out.heap HB0.out (fun h => by
  rcases h with h | h | h
  ·omega
  ·simp [Value.ownBlock] at h
  ·simp at h)) hg3 (by simp))
 have ho0n : o0 ≠ o2 := by omega
 have ho0lt : o0 < w3.heap.size := by omega
 clear hg3 hb3 hw3 ho2
 rw [← HO2.out, ← HW3.out]
 go_loopg [13, 14, 15, 16] n (fun gh i a14 a15 a16 wr => ∃ (q : Nat) (l : List Nat) (hs : List Value) (X : Nat → Prop) (sa : Option Addr) (sc : Nat) (mv : Option Nat) (sf : Option Addr) (cf : Nat) (sn : Option Addr) (cn : Nat), gh + q = n ∧ i = .int .i64 q ∧ q ≤ l.length ∧ ExL d n k q l ∧ wr.heap[o0]? = some (.cells #[.int .i64 0, .int .i64 0, .slice none 0 0, .slice none 0 0] 42 (0, 0)) ∧ ExSt W.heap.size W wr oN o2 X X k l (exF d l q) (exT d k l q) hs sa sc mv sf cf sn cn)
 case atStart => exact ⟨0, [S], [], fun _ => False, sa2, sc2, mv2, none, 0, none, 0, rfl, rfl, by simp, by rw [HS.out]; exact ExL.start HD.out, HB03.out, HST.out⟩
 case round =>
  clear HST HNUM HBUT HB0 HNM HG3 HB03 HW1 HW3
  obtain ⟨q, l, hs, X, sa, sc, mv, sf, cf, sn, cn, hgh, rfl, hql, hex, hb0, hst⟩ := hrel
  have HGH := Kh hgh; have HEX := Kh hex; have HB0 := Kh hb0; have HST := Kh hst
  have hln := hex.le
  have hzr := hst.grown.size
  obtain ⟨c0, c1⟩ := vO hst.num.box
  clear hgh hex hb0 hst
  by_cases hk' : q < l.length
  ·have hk'' : (q : Int) < l.length := by omega
   obtain ⟨lb, lo, lc, el, hlB, hl1, hl2, hlr⟩ := (Row.of_owns HST.out.num.own).some_ (by rw [yF]; omega)
   rw [yF] at el hl1
   simp only [Value.slice.injEq] at el
   obtain ⟨rfl, _, rfl⟩ := el
   have cq := hlr.nat q hk'
   obtain ⟨s, hs'⟩ : ∃ s, s = l.getD q 0 := ⟨_, rfl⟩
   have hsn : s < n := by rw [hs', zI hk']; exact HEX.out.acc.lt _ (List.getElem_mem hk')
   rw [← hs'] at cq
   have HSV := Kh hs'
   clear hlr hs'
   go_wp2_with (first | (at_make; refine make1 rfl _ _ _ rfl xP rfl .i64 .i64 _ _ k rfl rfl rfl rfl ?b1 ?b2 ?_) | fail)
   case b1 => omega
   case b2 => unfold maxLen; omega
   intro w4 harr hg4 hlt4
   obtain ⟨g, hg⟩ : ∃ g, g = wr.heap.size := ⟨_, rfl⟩
   rw [← hg] at harr ⊢
   have HA4 : Hid (Arr w4 g 3 (nats (pQ d k s 0))) := Kh (by rw [exRow_zero, xU]; exact harr)
   have HS4 := Kh (HST.out.fresh hg4 (g := g) (by omega) (by omega))
   have HB4 := Kh (zB HB0.out hg4 (by simp))
   have hXg : ¬ X g := fun hx => by have := HST.out.lt g hx; omega
   have HXG := Kh hXg
   have hgW : W.heap.size ≤ g := by omega
   have hgo0 : o0 < g := by have := zN HB0.out; omega
   have hrs := fun x (hx : x ≤ k) => HEX.out.rowLen HD.out hk' hx
   have HRS := Kh hrs
   clear harr hg4 hXg hlt4 hg hrs HST HB0 c0 c1 cq
   go_wp2_with fail
   go_loopg [16, 37] k (fun gh a16 i wr => ∃ (x : Nat) (sa : Option Addr) (sc : Nat) (mv : Option Nat), gh + x = k ∧ i = .int .i64 x ∧ Arr wr g 3 (nats (pQ d k s x)) ∧ wr.heap[o0]? = some (.cells #[.int .i64 0, .int .i64 0, .slice none 0 0, .slice none 0 0] 42 (0, 0)) ∧ ExSt W.heap.size W wr oN o2 X (fun j => X j ∨ j = g) k (vI d l q x) (exF d l q) (exT d k l q) hs sa sc mv sf cf sn cn)
   case atStart => exact ⟨0, _, _, _, rfl, rfl, HA4.out, HB4.out, HS4.out⟩
   case round =>
    clear HA4 HS4 HB4 hl1 hl2
    obtain ⟨x, sa, sc, mv, hgh, rfl, harr, hb0, hst⟩ := hrel
    have HGH2 := Kh hgh; have HAR := Kh harr; have HB0 := Kh hb0; have HST := Kh hst
    have hzx := hst.grown.size
    have hlx := hst.loB.2
    clear hgh harr hb0 hst
    by_cases hx' : x < k
    ·have hx'' : (x : Int) < k := by omega
     have HTB := Kh (HT.out.grow HST.out.grown)
     have hml := HRS.out x (by omega)
     have hmid := kF HD.out hsn hx'
     go_wp2_with fail
     refine (trim1_any HTB.out hsn hx').mono ?_
     rintro e w5 ⟨rfl, rfl⟩
     obtain ⟨y, hy⟩ : ∃ y, y = nx d s x := ⟨_, rfl⟩
     rw [← hy] at hmid ⊢
     have HY := Kh hy
     clear hy
     go_wp2_with fail
     refine (numOf_any W.heap.size wr oN sa sc mv (vI d l q x) y HST.out.num (by omega) (by omega) (by omega)).mono ?_
     rintro e w5 ⟨sa5, sc5, mv5, rfl, hnum5, hbut5, hmv5⟩
     have e5 : xK (vI d l q x) y = vI d l q (x + 1) := by rw [HY.out, HSV.out]; rfl
     have e6 : (vI d l q (x + 1)).idxOf y = (zX d k).idxOf y := by rw [HY.out, HSV.out]; exact HEX.out.idx HD.out hk' hx'
     rw [e5] at hnum5
     rw [e5, e6]
     have hz5 := hbut5.size
     have ha5 := HAR.out.but hbut5 (fun hf => HST.out.sep g hf (.inr rfl))
     have hb5 := hbut5.heap HB0.out (fun hf => by
      rcases hf with e | e | e
      ·omega
      ·rw [← zR sa (vI d l q x).length sc] at e
       exact zS HST.out.num.own HB0.out (by decide) e
      ·rcases HST.out.num.map with ⟨e2, _⟩ | ⟨mb, e2, _, _, _, _, hm⟩
       ·rw [e2] at e; cases e
       ·rw [e2] at e
        have := Option.some.inj e
        subst this
        obtain ⟨es, cl, hm⟩ := hm.obj
        rw [HB0.out] at hm; simp at hm)
     have hs5 := HST.out.num_step hnum5 hbut5 hmv5
     have cg := ha5.nat x (by rw [pP (by omega)]; exact hx')
     have fg := ha5.frozen x
     have hset := ha5.nat_set x (by rw [pP (by omega)]; exact hx') ((zX d k).idxOf y)
     have hex : (pQ d k s x).set x ((zX d k).idxOf y) = pQ d k s (x + 1) := by rw [HY.out]; exact exRow_set hx'
     rw [hex] at hset
     have HSET := Kh hset; have HB5 := Kh hb5; have HA5 := Kh ha5; have HS5 := Kh hs5
     have hrl : (nats (pQ d k s x)).length = k := by rw [yF, pP (by omega)]
     obtain ⟨I, hI⟩ : ∃ I, I = (zX d k).idxOf y := ⟨_, rfl⟩
     rw [← hI] at HSET ⊢
     clear e5 e6 hnum5 hbut5 hmv5 ha5 hb5 hs5 hset hex hI
     go_wp2_with fail
     go_roundg (k - (x + 1))
     case measure => have := HGH2.out; omega
     case rel =>
      obtain ⟨cur, rest, hcur, _⟩ := HA5.out
      have hgs := zD w5 ⟨g, x, none⟩ (.int .i64 (I : Int))
      exact ⟨x + 1, sa5, sc5, mv5, by omega, by go_num, HSET.out, zB HB5.out hgs (fun e => by have e : g = o0 := Option.some.inj e; omega), HS5.out.put hgs hcur (.inr rfl) HXG.out hgW⟩
    ·have hxk : x = k := by have := HGH2.out; omega
     subst hxk
     have hx'' : ¬ (x : Int) < x := by omega
     obtain ⟨m, hm⟩ : ∃ m, m = vI d l q x := ⟨_, rfl⟩
     have hml := HRS.out x (by omega)
     have HXN := Kh (HEX.out.next HD.out hk')
     have hmi : q < m.length := by
      have := (uR d l q x).length_le
      rw [hm]; omega
     have HPX := Kh (uR d l q x)
     rw [← hm] at HXN HPX HST hml
     have HM := Kh hm
     clear hm
     obtain ⟨c0, c1⟩ := vO HST.out.num.box
     obtain ⟨d0, d1, d2, d3⟩ := zG HST.out.box
     have f3 := zE HST.out.box 3
     have hm5 : ¬ ((512 : Int) < m.length) := by omega
     have hrowT : Hid (RowX (fun j => X j ∨ (X j ∨ j = g)) 3 wr (.slice (some ⟨g, 0, none⟩) x x) (ints (sI (zX d x) (d.next.getD s [])))) := Kh (by
      have e := exRow_full HD.out (q := s) (fun a ha => by rw [HSV.out]; exact HEX.out.done_mem HD.out hk' ha) hsn
      have h9 := RowX.of_arr (X := fun j => X j ∨ (X j ∨ j = g)) HAR.out (by rw [yF, pP (Nat.le_refl x)]) (by unfold maxLen; omega) (.inr (.inr rfl))
      rw [show nats (pQ d x s x) = ints (zl (pQ d x s x)) by simp [nats, ints, zl], e] at h9
      exact h9)
     go_wp2_with (first | (at_builtin; refine app1s rfl _ _ _ rfl qY o2 (.slice sn (exT d x l q).length cn) (exT d x l q).length hs rfl HST.out.ownN (.slice (some ⟨g, 0, none⟩) x x) rfl rfl ?a1 ?a2 ?a3 ?_; (case a1 => (unfold maxLen; rw [exT_len hql]; omega)); (case a2 => (rw [exT_len hql]; omega)); (case a3 => exact Nat.le_of_lt (zN HST.out.box)); intro sn6 cn6 w6 hown6 hg6 hz6 hmv6; (have hb6 := zB HST.out.box hg6 (zS HST.out.ownN HST.out.box (by decide))); (obtain ⟨e0, e1, e2, e3⟩ := zG hb6); (have fz6 := zE hb6 3)) | fail)
     have HS6 := Kh (HST.out.pushN rfl hown6 hg6 hrowT.out rfl)
     obtain ⟨wo, hwo⟩ : ∃ W7, W7 = w6.setCell ⟨o2, 3, none⟩ (.slice sn6 ((exT d x l q).length + 1) cn6) := ⟨_, rfl⟩
     rw [← hwo] at HS6 ⊢
     have HWO := Kh hwo
     have HB7 : Hid (wo.heap[o0]? = some (.cells #[.int .i64 0, .int .i64 0, .slice none 0 0, .slice none 0 0] 42 (0, 0))) := Kh (by
      rw [hwo]
      exact zB (zB HB0.out hg6 (zS HST.out.ownN HB0.out (by decide))) (zD w6 ⟨o2, 3, none⟩ _) (fun e => ho0n (Option.some.inj e).symm))
     have HTB := Kh (HT.out.grow HS6.out.grown)
     obtain ⟨d0, d1, d2, d3⟩ := zG HS6.out.box
     have fz2 := zE HS6.out.box 2
     have HOF : Hid (∀ w', wo.grownBy w' none → w'.ownsRow o2 4 1 (.slice sf (exF d l q).length cf) (exF d l q).length (bls (exF d l q)) ∧ o2 ≤ w'.heap.size) := Kh (fun w' hg => ⟨zV HS6.out.ownF hg, Nat.le_of_lt (Nat.lt_of_lt_of_le (zN HS6.out.box) hg.size)⟩)
     have HFZ : Hid (∀ w7 w', wo.grownBy w7 none → w7.grownBy w' (Value.slice sf (exF d l q).length cf).ownBlock → w'.frozen? ⟨o2, 2, none⟩ = false ∧ w'.cell? ⟨o2, 2, none⟩ = some (.slice sf (exF d l q).length cf)) := Kh (fun w7 w' h7 hg => by
      have hb := zB (zB HS6.out.box h7 (by simp)) hg (zS HS6.out.ownF HS6.out.box (by decide))
      exact ⟨zE hb 2, (zG hb).2.2.1⟩)
     have HFL := Kh (exF_len (d := d) hql)
     have ho2wo := zN HS6.out.box
     obtain ⟨bf, hbf⟩ : ∃ bf, bf = d.final.getD s false := ⟨_, rfl⟩
     have HBF := Kh hbf
     have HC2 : Hid (∀ w', wo.grownBy w' none → Calls Try.prog 123 #[.int .i64 (s : Int), .pointer (some ⟨P, 0, none⟩)] w' fun e w'' => e = .returned (.bool bf) ∧ w' = w'') := Kh (fun w' hg => by rw [hbf]; exact trim2_any (HTB.out.grow hg) hsn)
     clear hbf
     clear hwo hz6 hmv6 hown6 hg6 hb6 e0 e1 e2 e3 fz6
     have HPUSH : Hid (∀ (W1 w' : World) (sf' : Option Addr) (cf' : Nat), w'.ownsRow o2 4 1 (.slice sf' ((exF d l q).length + 1) cf') ((exF d l q).length + 1) (bls (exF d l q) ++ [.bool bf]) → W1.grownBy w' (Value.slice sf (exF d l q).length cf).ownBlock → wo.grownBy W1 none →
       (∃ (hs : List Value) (X : Nat → Prop) (sa : Option Addr) (sc : Nat) (mv : Option Nat) (sn : Option Addr) (cn : Nat), ExSt W.heap.size W (w'.setCell ⟨o2, 2, none⟩ (.slice sf' ((exF d l q).length + 1) cf')) oN o2 X X x m (exF d m (q + 1)) (exT d x m (q + 1)) hs sa sc mv sf' cf' sn cn) ∧
       (w'.setCell ⟨o2, 2, none⟩ (.slice sf' ((exF d l q).length + 1) cf')).heap[o0]? = some (.cells #[.int .i64 0, .int .i64 0, .slice none 0 0, .slice none 0 0] 42 (0, 0)) ∧ w'.frozen? ⟨o2, 2, none⟩ = false ∧ w'.cell? ⟨o2, 2, none⟩ = some (.slice sf (exF d l q).length cf)) := Kh (fun W1 w' sf' cf' ho hg h1 => by
      have hS1 := HS6.out.grow h1
      have hb1 := zB hS1.box hg (zS hS1.ownF hS1.box (by decide))
      have hp := hS1.pushF (b := bf) rfl ho hg rfl
      have eF : exF d l q ++ [bf] = exF d m (q + 1) := by rw [exF_next HPX.out hk', ← HSV.out, ← HBF.out]
      have eT : exT d x l q ++ [sI (zX d x) (d.next.getD s [])] = exT d x m (q + 1) := by rw [exT_next HPX.out hk', ← HSV.out]
      rw [eF, eT] at hp
      exact ⟨⟨_, _, _, _, _, _, _, hp⟩, zB (zB (zB HB7.out h1 (by simp)) hg (zS hS1.ownF (zB HB7.out h1 (by simp)) (by decide))) (zD w' ⟨o2, 2, none⟩ _) (fun e => ho0n (Option.some.inj e).symm), zE hb1 2, (zG hb1).2.2.1⟩)
     have HG4 : Hid (∀ W1 : World, wo.grownBy W1 none → W1.ownsRow o2 4 1 (.slice sf (exF d l q).length cf) (exF d l q).length (bls (exF d l q)) ∧ o2 ≤ W1.heap.size) := HOF
     clear HOF HFZ
     go_region_law (first | (go_simp; go_at_call 123; refine (HC2.out _ (by first | exact zP wo none | exact zT wo _ none)).mono ?_; rintro e w' ⟨rfl, rfl⟩) | (refine pE ?g1 (.tmp 61) (.tmp 65) 39 ?g2 qC o2 (.slice sf (exF d l q).length cf) (exF d l q).length (bls (exF d l q)) ?g3 ?g4 (.bool bf) wo.heap.size (0, 0) ?g5 ?g6 ?g7 ?g8 ?g9 ?g10 ?_; (case g1 => rfl); (case g2 => rfl); (case g3 => rfl); (case g4 => (refine (HG4.out _ ?_).1; exact sG (o := .cells #[.bool bf] 4) rfl rfl rfl rfl)); (case g5 => rfl); (case g6 => exact heap_alloc_new (wo.drew) _); (case g7 => rfl); (case g8 => (rw [HFL.out]; unfold maxLen; omega)); (case g9 => (rw [HFL.out]; omega)); (case g10 => (refine (HG4.out _ ?_).2; exact sG (o := .cells #[.bool bf] 4) rfl rfl rfl rfl)); intro sf8 cf8 w8 hown8 hg8; have hp8 := HPUSH.out _ _ _ _ hown8 hg8 (sG (o := .cells #[.bool bf] 4) rfl rfl rfl rfl); have hfz8 := hp8.2.2.1; have hfc8 := hp8.2.2.2; have HP8 := Kh hp8; clear hp8 hown8 hg8) | fail)
     all_goals
      clear HPUSH HG4 HC2 HB7 HBF HWO HTB HS6 d0 d1 d2 d3 fz2 hfz8 hfc8 HFL HRS hrowT HAR HB0
      obtain ⟨w9, hw9⟩ : ∃ W9, W9 = w8.setCell ⟨o2, 2, none⟩ (.slice sf8 ((exF d l q).length + 1) cf8) := ⟨_, rfl⟩
      rw [← hw9] at HP8 ⊢
      clear hw9
      go_wp2
      go_roundg (n - (q + 1))
      case measure => have := HGH.out; omega
      case rel =>
       obtain ⟨⟨hs9, X9, sa9, sc9, mv9, sn9, cn9, hst9⟩, hb09, _, _⟩ := HP8.out
       exact ⟨q + 1, m, hs9, X9, sa9, sc9, mv9, sf8, cf8, sn9, cn9, by have := HGH.out; omega, by go_num, hmi, HXN.out, hb09, hst9⟩
  ·have hk'' : ¬ (q : Int) < l.length := by omega
   have HDN := Kh (HEX.out.done hk')
   have HQL : Hid (q = l.length) := Kh (by omega)
   obtain ⟨d0, d1, d2, d3⟩ := zG HST.out.box
   obtain ⟨e0, e1, e2, e3⟩ := zG HB0.out
   have f0 := zE HB0.out 0
   have f1 := zE HB0.out 1
   have f2 := zE HB0.out 2
   have f3 := zE HB0.out 3
   go_wp2_with fail
   obtain ⟨c0, c1⟩ := vO HST.out.num.box
   have hne9 : o0 ≠ oN := by omega
   go_region
   all_goals (try go_frame)
   all_goals go_wp2
   obtain ⟨hbz, hgz⟩ := vD HB0.out (.int .i64 (k : Int)) (.int .i64 0) (.slice sf (exF d l q).length cf) (.slice sn (exT d k l q).length cn)
   obtain ⟨wz, hwz⟩ : ∃ wz, wz = (((wr.setCell ⟨o0, 0, none⟩ (.int .i64 (k : Int))).setCell ⟨o0, 1, none⟩ (.int .i64 0)).setCell ⟨o0, 2, none⟩ (.slice sf (exF d l q).length cf)).setCell ⟨o0, 3, none⟩ (.slice sn (exT d k l q).length cn) := ⟨_, rfl⟩
   rw [← hwz] at hbz hgz ⊢
   clear hwz
   have hgd := zA (row := some o0) hgz (zP wz none) (by simp)
   have hbd : wz.drew.heap[o0]? = some (.cells #[.int .i64 (k : Int), .int .i64 0, .slice sf (exF d l q).length cf, .slice sn (exT d k l q).length cn] 42 (0, 0)) := hbz
   obtain ⟨wf, hwf⟩ : ∃ wf, wf = wz.drew := ⟨_, rfl⟩
   rw [← hwf] at hgd hbd ⊢
   obtain ⟨r0, r1, r2, r3⟩ := zG hbd
   clear hwf hbz hgz
   refine bodyPost_ret (v := .tuple #[.agg #[.int .i64 (k : Int), .int .i64 0, .slice sf (exF d l q).length cf, .slice sn (exT d k l q).length cn], .slice sa l.length sc, .int .i64 0]) (by simp [results, Try.results121, go_sem, r0, r1, r2, r3]) rfl ?_
   have eF : exF d l q = (xV d k).final := by
    rw [exF, HQL.out, List.take_length, HDN.out]; rfl
   have eT : exT d k l q = (xV d k).next := by
    rw [exT, HQL.out, List.take_length, HDN.out]; rfl
   have hst := HST.out
   have hg9 : W.grownBy wf none := zA hst.grown hgd (fun k e => by have e : o0 = k := Option.some.inj e; omega)
   have hoth : zY wr 3 o0 := ⟨_, _, _, HB0.out, by decide⟩
   have hlF : (exF d l q).length = (exT d k l q).length := by rw [exF_len (by omega), exT_len (by omega)]
   have hb2 := zB hst.box hgd (fun e => ho0n (Option.some.inj e))
   have hF2 := hst.ownF.kept hgd (.inr (zS hst.ownF HB0.out (by decide)))
   have hN2 := hst.ownN.kept hgd (.inr (zS hst.ownN HB0.out (by decide)))
   have hr2 := (hst.rows.keptT hgd (fun k e => by have e : o0 = k := Option.some.inj e; subst e; exact hoth)).rowsT
   have hl2 := hst.num.own.kept hgd (.inr (zS hst.num.own HB0.out (by decide)))
   have hdl : (xV d k).letters = k := HD.out.hk
   rw [eF] at hlF hb2 hF2 ⊢
   rw [eT] at hlF hb2 hN2 hr2 ⊢
   refine ⟨_, sa, sc, by rw [← HDN.out], ?_, by rw [← HDN.out]; exact hl2, hg9⟩
   exact ⟨o2, hs, sf, cf, sn, cn, by rw [hdl]; rfl, ho2W, by rw [hdl]; exact hb2, hF2, hN2, hr2, hlF⟩
end Go.Proofs.Ytjfdomfendbhfaa
