/- Part 7 of the proof: Round2, Begin, Going, FamB, Sames, MapIn, Numb. -/
import Derived.Test.YtdjhoadoiknaoaaDoorZD6
import Derived.Maps.Own
import Derived.Maps.Views
set_option linter.unusedVariables false
set_option linter.unusedSimpArgs false
namespace Go.Proofs.YtdjhoadoiknaoaaDoor
open Go.RowKit
def RowO (F C B:Nat) (w:World) (v:Value) (xs:List Value):Prop :=
 (∃ a cap,v=.slice a 0 cap∧xs=[])∨∃ b off cap,v=.slice (some ⟨b,off,none⟩) xs.length cap∧(b < F∨C≤b)∧b < B∧xs.length≤cap∧cap≤maxLen∧uD w b off xs
section
variable {F C B:Nat} {w w':World} {v:Value} {xs:List Value}
theorem RowO.row (h:RowO F C B w v xs):Row B w v xs:=by
 rcases h with h|⟨b,off,cap,h1,h2,h3,h4,h5,h6⟩
 ·exact .inl h
 ·exact .inr ⟨b,off,cap,h1,h3,h4,h5,h6⟩
theorem RowO.of_owns {base e n:Nat} (h:w.ownsRow base e 1 v n xs) (hC:C≤base):RowO F C w.heap.size w v xs:=by
 have hl:xs.length=n:=by have:=h.1;omega
 rcases h.2 with ⟨rfl,rfl⟩|⟨g,cap,cur,rfl,hb,hg,hnc,hcm,hcs,htake⟩
 ·exact .inl ⟨_,_,rfl,List.eq_nil_of_length_eq_zero hl⟩
 ·exact .inr ⟨g,0,cap,by rw [hl],.inr (by omega),zQ hg,by omega,hcm,(Arr.of_owns h).row⟩
theorem RowO.mono {B':Nat} (h:RowO F C B w v xs) (hB:B≤B'):RowO F C B' w v xs:=by
 rcases h with h|⟨b,off,cap,h1,h2,h3,h4⟩
 ·exact .inl h
 ·exact .inr ⟨b,off,cap,h1,h2,by omega,h4⟩
theorem RowO.kept {row:Option Nat} (h:RowO F C B w v xs) (hg:w.grownBy w' row) (hr:∀ k,row=some k→(F≤k∧k < C)∨B≤k):RowO F C B w' v xs:=by
 rcases h with h|⟨b,off,cap,h1,h2,h3,h4,h5,h6⟩
 ·exact .inl h
 ·exact .inr ⟨b,off,cap,h1,h2,h3,h4,h5,h6.kept hg (fun e=>by have:=hr b e;omega)⟩
theorem uD.below {S b off:Nat} (h:uD w b off xs) (hb:Below S w w') (hs:b < S):uD w' b off xs :=
 ⟨Nat.lt_of_lt_of_le h.1 hb.size,fun i hi=>(World.cell?_of_block (hb.block b hs)).trans (h.2 i hi)⟩
theorem RowO.below {S:Nat} (h:RowO F C B w v xs) (hb:Below S w w') (hs:B≤S):RowO F C B w' v xs:=by
 rcases h with h|⟨b,off,cap,h1,h2,h3,h4,h5,h6⟩
 ·exact .inl h
 ·exact .inr ⟨b,off,cap,h1,h2,h3,h4,h5,h6.below hb (by omega)⟩
theorem TabOk.below {S:Nat} (h:TabOk w) (hb:Below S w w') (hs:1 < S):TabOk w' :=
 ⟨Nat.lt_of_lt_of_le h.1 hb.size,fun j hj=>(World.cell?_of_block (hb.block _ hs)).trans (h.2 j hj)⟩
end
theorem SetsAt.below {F C S p go g0 n k kh:Nat} {w w':World} {tb:Nat→Nat→Nat} {gr:Nat→Nat} {om:List Nat} (h:SetsAt F C w p go g0 n k kh tb gr om) (hb:Below S w w') (hs:C≤S):SetsAt F C w' p go g0 n k kh tb gr om:=by
 have key:∀ q,q < C→w'.heap[q]?=w.heap[q]?:=fun q hq=>hb.block q (by omega)
 have ka:∀ {q e xs},Arr w q e xs→q < C→Arr w' q e xs:=fun ha hq=>by
  obtain ⟨cur,rest,h1,h2⟩:=ha
  exact ⟨cur,rest,(key _ hq).trans h1,h2⟩
 exact ⟨(key p h.lop.2).trans h.box,ka h.rows h.log.2,fun x hx=>ka (h.rowc x hx) (h.lor x hx).2,ka h.oms h.loo.2,h.oml,h.omok,h.ne,h.lop,h.log,h.loo,h.lor⟩
theorem vD.below {F C S p go n:Nat} {w w':World} {tb:Nat→Nat→Nat} (h:vD F C w p go n tb) (hb:Below S w w') (hs:C≤S):vD F C w' p go n tb:=by
 obtain ⟨g0,gr,om,h⟩:=h
 exact ⟨g0,gr,om,h.below hb hs⟩
theorem vD.go_lt {F C p go n:Nat} {w:World} {tb:Nat→Nat→Nat} (h:vD F C w p go n tb):F≤go∧go < C:=by
 obtain ⟨g0,gr,om,h⟩:=h
 exact h.loo
theorem Rs.kept {w0 w w':World} {bi bm g n M N go:Nat} {mv:Value} {bs:List Bool} {lst:List Nat} (h:Rs w0 w bi bm g n M N mv bs lst (some go)) (hg:w.grownBy w' (some go)) (hgo:go < w0.heap.size):Rs w0 w' bi bm g n M N mv bs lst (some go):=by
 have hlo:=h.lo
 have ne:∀ q,w0.heap.size≤q→(some go:Option Nat)≠some q:=fun q hq e=>by have:go=q:=Oj e;omega
 exact ⟨zE h.box1 hg (ne _ hlo.1),zE h.box2 hg (ne _ hlo.2.1),yF h.own hg (fun k e=>by have:go=k:=Oj e;omega),h.shape,h.arr.kept hg (ne _ hlo.2.2),h.len,h.cnt,h.mem,h.lt,hlo,zF h.fr hg⟩
theorem Rs.quiet {w0 w:World} {bi bm g n M N go:Nat} {mv:Value} {bs:List Bool} {lst:List Nat} (h:Rs w0 w bi bm g n M N mv bs lst (some go)) (m:Nat) (hgo:go < w0.heap.size):Rs w0 (w.drewN m) bi bm g n M N mv bs lst (some go) :=
 h.kept (zJ w m _) hgo
def RMem (n:Nat) (tb:Nat→Nat→Nat) (l:List Nat) (k j:Nat) (lst:List Nat):Prop :=
 ∀ y,y∈lst ↔ y∈l∨(∃ a∈l.take k,(∃ b∈l,zU n tb a b=y)∨yM n tb a=y)∨(∃ b∈l.take j,zU n tb (l.getD k 0) b=y)
theorem RMem.prod {n:Nat} {tb:Nat→Nat→Nat} {l:List Nat} {k j:Nat} {lst lst':List Nat} (h:RMem n tb l k j lst) (hj:j < l.length) (h':∀ y,y∈lst' ↔ y∈lst∨y=zU n tb (l.getD k 0) (l.getD j 0)):RMem n tb l k (j+1) lst':=by
 intro y
 rw [h' y,h y,yG (d:=0) hj]
 constructor
 ·rintro ((h|h|⟨b,hb,h⟩)|h)
  ·exact .inl h
  ·exact .inr (.inl h)
  ·exact .inr (.inr ⟨b,List.mem_append_left _ hb,h⟩)
  ·exact .inr (.inr ⟨l.getD j 0,by simp,h.symm⟩)
 ·rintro (h|h|⟨b,hb,h⟩)
  ·exact .inl (.inl h)
  ·exact .inl (.inr (.inl h))
  ·rcases List.mem_append.1 hb with hb|hb
   ·exact .inl (.inr (.inr ⟨b,hb,h⟩))
   ·simp only [List.mem_singleton] at hb
    subst hb
    exact .inr h.symm
theorem RMem.omega {n:Nat} {tb:Nat→Nat→Nat} {l:List Nat} {k:Nat} {lst lst':List Nat} (h:RMem n tb l k l.length lst) (hk:k < l.length) (h':∀ y,y∈lst' ↔ y∈lst∨y=yM n tb (l.getD k 0)):RMem n tb l (k+1) 0 lst':=by
 intro y
 rw [h' y,h y,yG (d:=0) hk,List.take_length]
 constructor
 ·rintro ((h|⟨a,ha,h⟩|⟨b,hb,h⟩)|h)
  ·exact .inl h
  ·exact .inr (.inl ⟨a,List.mem_append_left _ ha,h⟩)
  ·exact .inr (.inl ⟨l.getD k 0,by simp,.inl ⟨b,hb,h⟩⟩)
  ·exact .inr (.inl ⟨l.getD k 0,by simp,.inr h.symm⟩)
 ·rintro (h|⟨a,ha,h⟩|⟨b,hb,h⟩)
  ·exact .inl (.inl h)
  ·rcases List.mem_append.1 ha with ha|ha
   ·exact .inl (.inr (.inl ⟨a,ha,h⟩))
   ·simp only [List.mem_singleton] at ha
    subst ha
    rcases h with ⟨b,hb,h⟩|h
    ·exact .inl (.inr (.inr ⟨b,hb,h⟩))
    ·exact .inr h.symm
  ·simp at hb
theorem RMem.start {n:Nat} {tb:Nat→Nat→Nat} {l:List Nat}:RMem n tb l 0 0 l:=by intro y;simp
theorem RMem.end_ {n:Nat} {tb:Nat→Nat→Nat} {l:List Nat} {lst:List Nat} (h:RMem n tb l l.length 0 lst):∀ y,y∈lst ↔ y∈wV n tb l:=by
 intro y
 rw [h y,vK,List.take_length]
 simp
def RoundOk (F C:Nat) (w:World) (p go n:Nat) (tb:Nat→Nat→Nat) (l:List Nat) (e:Ending) (w':World):Prop :=
 ∃ (sa:Option Addr) (sc:Nat),e=.returned (.agg #[.slice sa (zV n tb l).length sc,.bool (decide (zV n tb l=l))])∧w'.ownsRow w.heap.size 3 1 (.slice sa (zV n tb l).length sc) (zV n tb l).length (nats (zV n tb l)) ∧
  vD F C w' p go n tb∧w.grownBy w' (some go)
theorem qCH (l:List Nat):nats l=(l.map fun (x:Nat)=>(x:Int)).map (Value.int .i64):=by simp [nats]
theorem qBY {l m:List Nat}:((l.map fun (x:Nat)=>(x:Int)) == (m.map fun (x:Nat)=>(x:Int)))=decide (l=m):=by
 rw [Bool.eq_iff_iff,beq_iff_eq,decide_eq_true_eq]
 constructor
 ·intro h
  have:=congrArg (List.map Int.toNat) h
  simpa [List.map_map,Function.comp_def] using this
 ·rintro rfl;rfl
theorem gP {n:Nat} {tb:Nat→Nat→Nat} {l:List Nat} (ht:Tb n tb) (hl:∀ b∈l,b < 2 ^ n) (h0:0 < l.length):0 < (zV n tb l).length:=by
 obtain ⟨a,ha⟩:=List.exists_mem_of_length_pos h0
 obtain ⟨b,hb,_⟩:=lV (vJ ht hl) _ a (Nat.le_refl _) (vK.2 (.inl ha))
 exact List.length_pos_of_mem hb
theorem gW (n:Nat) (l:List Nat):(wT n l).length≤2 ^ n:=by
 have:=qBN n l (2 ^ n)
 rwa [maxTo_full] at this
set_option maxRecDepth 100000 in
set_option maxHeartbeats 2000000 in
theorem aB (F C B : Nat) (w : World) (p go n : Nat) (tb : Nat → Nat → Nat) (fv : Value) (d : Bool) (l : List Nat) (h : vD F C w p go n tb) (ht : Tb n tb) (hn : n ≤ 12) (hl : RowO F C B w fv (nats l)) (h0 : 0 < l.length) (hlt : ∀ b ∈ l, b < 2 ^ n) (hll : l.length ≤ 1000000) (hB : B ≤ w.heap.size) (hC : C ≤ w.heap.size) (hgF : 1 < F) (hT : TabOk w) :
  Calls Tryd.prog 49 #[.pointer (some ⟨p, 0, none⟩), .agg #[fv, .bool d]] w (RoundOk F C w p go n tb l) := by
 have hsh := qE (m := n) (by omega)
 obtain ⟨N, hN⟩ : ∃ N, N = 2 ^ n := ⟨_, rfl⟩
 have hN4 : N ≤ 4096 := by have := uR hn; omega
 rw [← hN] at hsh
 obtain ⟨fb0, fo0, fc0, rfl, _, _, _, _⟩ := hl.row.some_ (by rw [zN]; exact h0)
 rw [zN]
 have HN := Kh hN; have H := Kh h; have HL := Kh hl; have HLT := Kh hlt; have HT := Kh hT; have HTB := Kh ht
 clear h hl hlt hN hT ht
 go_enter Tryd.func49, Tryd.ntmps49
 go_upto_region 1 with fail
 obtain ⟨wA, hWA⟩ : ∃ wA, wA = (w.alloc (.cells #[.slice (some ⟨fb0, fo0, none⟩) l.length fc0, .bool d] 49)).alloc (.cells #[.slice none 0 0, .bool false] 49) := ⟨_, rfl⟩
 have hfb : wA.heap[w.heap.size]? = some (.cells #[.slice (some ⟨fb0, fo0, none⟩) l.length fc0, .bool d] 49 (0, 0)) := by
  rw [hWA]; exact zE (heap_alloc_new w _) (Ga _ _ none) (by simp)
 have hrb : wA.heap[w.heap.size + 1]? = some (.cells #[.slice none 0 0, .bool false] 49 (0, 0)) := by
  have := heap_alloc_new (w.alloc (.cells #[.slice (some ⟨fb0, fo0, none⟩) l.length fc0, .bool d] 49)) (.cells #[.slice none 0 0, .bool false] 49)
  rw [zO] at this
  rw [hWA]; exact this
 have hgA : w.grownBy wA none := by rw [hWA]; exact yA (Ga w _ none) _
 have hzA : wA.heap.size = w.heap.size + 2 := by rw [hWA, zO, zO]
 rw [← hWA]
 have HFB := Kh hfb; have HRB := Kh hrb; have HGA := Kh hgA; have HZA := Kh hzA
 have c0 := (H.out.kept hgA (by simp)).c0
 have hzA' : w.heap.size + 1 < wA.heap.size := by omega
 clear hWA hfb hrb hgA hzA
 go_upto_region 2 with (at_make; refine kB rfl _ _ _ rfl wJ rfl _ _ _ _ N rfl rfl hsh hsh ?b1 ?b2 ?_; (case b1 => omega); (case b2 => (unfold maxLen; omega)); intro w1 ha1 hg1 hz1)
 rw [← vS] at ha1
 obtain ⟨w2, hW2⟩ : ∃ w2, w2 = w1.alloc (.cells #[.slice (some ⟨wA.heap.size, 0, none⟩) N N] 25) := ⟨_, rfl⟩
 have hg2 : w1.grownBy w2 none := by rw [hW2]; exact Ga _ _ _
 have hbi : w2.heap[w1.heap.size]? = some (.cells #[.slice (some ⟨wA.heap.size, 0, none⟩) N N] 25 (0, 0)) := by rw [hW2]; exact heap_alloc_new w1 _
 have hz2 : w1.heap.size < w2.heap.size := zQ hbi
 rw [← hW2]
 have hgA2 := zF hg1 hg2
 have cf := zI (zE HFB.out hgA2 (by simp)) 0 (by simp)
 simp only [List.getElem_toArray, List.getElem_cons_zero] at cf
 have HA2 := Kh (ha1.kept hg2 (by simp)); have HBI := Kh hbi; have HGA2 := Kh hgA2
 have hlw := HL.out.kept (zF HGA.out hgA2) (by simp)
 have hrow := hlw.row
 rcases hlw with ⟨_, _, e, e2⟩ | ⟨b1, o1, c1, e, hb1, hb2, hb3, hb4, hra⟩
 ·exfalso
  have := congrArg List.length e2
  rw [zN, List.length_nil] at this
  omega
 simp only [Value.slice.injEq, Option.some.injEq, Addr.mk.injEq, and_true, zN] at e
 obtain ⟨⟨rfl, rfl⟩, -, rfl⟩ := e
 rw [zN] at hb3
 have hcl := Tryd.slices_Clone_int fb0 fo0 l.length fc0 (l.map fun (x : Nat) => (x : Int)) w2 (by simp) (by omega) (fun j hj => by
  have hj' : j < l.length := by simpa using hj
  have := hra.nat j hj'
  rw [this]; simp [List.getD, hj'])
 have HCL := Kh hcl
 clear hW2 hg2 hbi hgA2 ha1 hg1 hcl hra hrow
 go_wp2_with fail
 refine HCL.out.mono ?_
 rintro e w3 ⟨v', rfl, hown, hnn, hbel⟩
 rw [show ((l.map fun (x : Nat) => (x : Int)).take l.length).map (Value.int .i64) = nats l by rw [List.take_of_length_le (by simp), qCH]] at hown
 obtain ⟨sa0, sc0, rfl⟩ := rB hown
 have hgB0 := grown_of_below (row := none) hbel
 have HOWN := Kh hown; have HG23 := Kh hgB0
 clear hown hbel hgB0 hnn cf
 go_upto_region 3 with fail
 obtain ⟨wB, hWB⟩ : ∃ wB, wB = w3.alloc (.cells #[.slice sa0 l.length sc0] 22) := ⟨_, rfl⟩
 have hg3B : w3.grownBy wB none := by rw [hWB]; exact Ga _ _ _
 have hbm : wB.heap[w3.heap.size]? = some (.cells #[.slice sa0 l.length sc0] 22 (0, 0)) := by rw [hWB]; exact heap_alloc_new w3 _
 have hown2 : wB.ownsRow w2.heap.size 3 1 (.slice sa0 l.length sc0) l.length (nats l) := by rw [hWB]; exact HOWN.out.alloc _
 rw [← hWB]
 have hgAB := zF (zF HGA2.out HG23.out) hg3B
 have hg2B := zF HG23.out hg3B
 have hz23 := HG23.out.size
 have hgow := H.out.go_lt
 have hgoA : go < wA.heap.size := by omega
 have hRS : Rs wA wB w1.heap.size w3.heap.size wA.heap.size n l.length N (.slice sa0 l.length sc0) (List.replicate N false) l (some go) := by
  refine ⟨zE HBI.out hg2B (by simp), hbm, yJ hown2 (by omega), ⟨_, _, rfl⟩, HA2.out.kept hg2B (by simp), by simp, by simp, fun x hx hb => ?_, fun x hx => by rw [HN.out]; exact HLT.out x hx, ⟨by omega, by omega, Nat.le_refl _⟩, wI hgAB⟩
  simp [List.getD, List.getElem?_replicate, hx] at hb
 have HRS := Kh hRS
 have hgw := zF HGA.out hgAB
 have HSW := Kh (H.out.kept hgw (by simp)); have HLW := Kh (HL.out.kept hgw (by simp)); have HFW := Kh (zE HFB.out hgAB (by simp)); have HRW := Kh (zE HRB.out hgAB (by simp)); have HTW := Kh (HT.out.kept hgw (by simp))
 have HBE := Kh (wI (row := some go) hgw)
 have hg1lt : 1 < w.heap.size := HT.out.1
 clear hWB hg3B hbm hown2 hgAB hg2B hRS hgw HOWN HG23 HBI HA2 HGA2 HFB HRB
 have cf := zI HFW.out 0 (by simp)
 simp only [List.getElem_toArray, List.getElem_cons_zero] at cf
 go_wp2
 go_loopg [26] l.length (fun gh i wr => ∃ (k : Nat) (mv : Value) (bs : List Bool) (lst : List Nat), gh + k = l.length ∧ i = .int .i64 k ∧ Rs wA wr w1.heap.size w3.heap.size wA.heap.size n l.length N mv bs lst (some go) ∧ vD F C wr p go n tb ∧ w.grownBy wr (some go) ∧ TabOk wr ∧ wr.heap[w.heap.size]? = some (.cells #[.slice (some ⟨fb0, fo0, none⟩) l.length fc0, .bool d] 49 (0, 0)) ∧ wr.heap[w.heap.size + 1]? = some (.cells #[.slice none 0 0, .bool false] 49 (0, 0)) ∧ RMem n tb l k 0 lst)
 case atStart => exact ⟨0, _, _, l, rfl, rfl, HRS.out, HSW.out, HBE.out, HTW.out, HFW.out, HRW.out, RMem.start⟩
 case round =>
  clear HRS HSW HLW HFW HRW HTW HBE cf
  obtain ⟨k, mv, bs, lst, hg, rfl, hrs, hs, hgr, hT, hfb, hrb, hmem⟩ := hrel
  have HG := Kh hg; have HRS := Kh hrs; have HSK := Kh hs; have HTK := Kh hT; have HFK := Kh hfb; have HRK := Kh hrb; have HM := Kh hmem
  have cf := zI hfb 0 (by simp)
  simp only [List.getElem_toArray, List.getElem_cons_zero] at cf
  clear hg hrs hs hT hfb hrb hmem
  by_cases hk : k < l.length
  ·have hk' : (k : Int) < l.length := by omega
   have hlk := HL.out.kept hgr (by simp; omega)
   rcases hlk with ⟨_, _, e, e2⟩ | ⟨b1, o1, c1, e, _, _, _, _, hra⟩
   ·exfalso
    have := congrArg List.length e2
    rw [zN, List.length_nil] at this
    omega
   simp only [Value.slice.injEq, Option.some.injEq, Addr.mk.injEq, and_true, zN] at e
   obtain ⟨⟨rfl, rfl⟩, -, rfl⟩ := e
   have ck := hra.nat k hk
   obtain ⟨a, ha⟩ : ∃ a, a = l.getD k 0 := ⟨_, rfl⟩
   have haN : a < 2 ^ n := by rw [ha]; exact nQ HLT.out hk
   rw [← ha] at ck
   have HAK := Kh ha
   clear hra ha
   go_wp2
   go_loopg [33] l.length (fun gh i wr => ∃ (j : Nat) (mv : Value) (bs : List Bool) (lst : List Nat), gh + j = l.length ∧ i = .int .i64 j ∧ Rs wA wr w1.heap.size w3.heap.size wA.heap.size n l.length N mv bs lst (some go) ∧ vD F C wr p go n tb ∧ w.grownBy wr (some go) ∧ TabOk wr ∧ wr.heap[w.heap.size]? = some (.cells #[.slice (some ⟨fb0, fo0, none⟩) l.length fc0, .bool d] 49 (0, 0)) ∧ wr.heap[w.heap.size + 1]? = some (.cells #[.slice none 0 0, .bool false] 49 (0, 0)) ∧ RMem n tb l k j lst)
   case atStart => exact ⟨0, mv, bs, lst, rfl, rfl, HRS.out, HSK.out, hgr, HTK.out, HFK.out, HRK.out, HM.out⟩
   case round =>
    clear HRS HSK HTK HFK HRK HM hgr cf ck
    obtain ⟨j, mv, bs, lst, hg, rfl, hrs, hs, hgr, hT, hfb, hrb, hmem⟩ := hrel
    have HGJ := Kh hg; have HRS := Kh hrs; have HSK := Kh hs; have HTK := Kh hT; have HFK := Kh hfb; have HRK := Kh hrb; have HM := Kh hmem
    clear hg hrs hs hT hfb hrb hmem
    by_cases hj : j < l.length
    ·have hj' : (j : Int) < l.length := by omega
     have hlk := HL.out.kept hgr (by simp; omega)
     rcases hlk with ⟨_, _, e, e2⟩ | ⟨b1, o1, c1, e, _, _, _, _, hra⟩
     ·exfalso
      have := congrArg List.length e2
      rw [zN, List.length_nil] at this
      omega
     simp only [Value.slice.injEq, Option.some.injEq, Addr.mk.injEq, and_true, zN] at e
     obtain ⟨⟨rfl, rfl⟩, -, rfl⟩ := e
     have cj := hra.nat j hj
     obtain ⟨b, hb⟩ : ∃ b, b = l.getD j 0 := ⟨_, rfl⟩
     have hbN : b < 2 ^ n := by rw [hb]; exact nQ HLT.out hj
     rw [← hb] at cj
     have HBJ := Kh hb
     clear hra hb
     go_wp2_with fail
     refine (qX F C wr p go n tb a b HSK.out HTB.out.lt hn haN hbN HTK.out).mono ?_
     rintro e w4 ⟨rfl, m, rfl⟩
     have hpN : zU n tb a b < N := by rw [HN.out]; exact wP HTB.out.lt _ _
     go_wp2_with fail
     refine (qBF wA _ w1.heap.size w3.heap.size wA.heap.size n l.length N (zU n tb a b) mv bs lst (some go) hpN hN4 hll (HRS.out.quiet m hgoA)).mono ?_
     rintro e w5 ⟨rfl, bs5, mv5, lst5, hrs5, hm5, hb5⟩
     have hdr := zJ wr m (some go)
     have hs5 := Kh ((HSK.out.kept (zJ wr m none) (by simp)).below hb5 (by omega))
     have ht5 := Kh (TabOk.below (HTK.out.of_heap (w' := wr.drewN m) rfl) hb5 (by omega))
     have hf5 := Kh ((hb5.block w.heap.size (by omega)).trans HFK.out)
     have hr5 := Kh ((hb5.block (w.heap.size + 1) (by omega)).trans HRK.out)
     have hgr5 : Hid (w.grownBy w5 (some go)) := by
      have h1 := hrs5.fr
      exact Kh (zF (wI HGA.out) h1)
     have hmem5 := Kh (HM.out.prod hj (lst' := lst5) (fun y => by rw [← HAK.out, ← HBJ.out]; exact hm5 y))
     have HRS5 := Kh hrs5
     clear hm5 hb5 hrs5 hdr cj
     go_wp2
     go_roundg (l.length - (j + 1))
     case measure => have := HGJ.out; omega
     case rel => exact ⟨j + 1, mv5, bs5, lst5, by omega, by go_num, HRS5.out, hs5.out, hgr5.out, ht5.out, hf5.out, hr5.out, hmem5.out⟩
    ·have hjl : j = l.length := by have := HGJ.out; omega
     have HJL := Kh hjl
     clear hjl
     go_wp2_with fail
     refine (jI F C wr p go n tb a HSK.out HTB.out hn haN HTK.out).mono ?_
     rintro e w4 ⟨rfl, hs4, hg4⟩
     have hoN : yM n tb a < N := by rw [HN.out]; exact tR HTB.out haN
     have hrs4 := HRS.out.kept hg4 hgoA
     have ht4 := Kh (HTK.out.kept hg4 (fun e => by have : go = 1 := Oj e; have := HSK.out.go_lt; omega))
     have hf4 := Kh (zE HFK.out hg4 (fun e => by have : go = w.heap.size := Oj e; omega))
     have hr4 := Kh (zE HRK.out hg4 (fun e => by have : go = w.heap.size + 1 := Oj e; omega))
     have HS4 := Kh hs4
     clear hs4 hg4
     go_wp2_with fail
     refine (qBF wA w4 w1.heap.size w3.heap.size wA.heap.size n l.length N (yM n tb a) mv bs lst (some go) hoN hN4 hll hrs4).mono ?_
     rintro e w5 ⟨rfl, bs5, mv5, lst5, hrs5, hm5, hb5⟩
     have hs5 := Kh (HS4.out.below hb5 (by omega))
     have ht5 := Kh (ht4.out.below hb5 (by omega))
     have hf5 := Kh ((hb5.block w.heap.size (by omega)).trans hf4.out)
     have hr5 := Kh ((hb5.block (w.heap.size + 1) (by omega)).trans hr4.out)
     have hgr5 : Hid (w.grownBy w5 (some go)) := Kh (zF (wI HGA.out) hrs5.fr)
     have hmem5 := Kh (RMem.omega (by have := HM.out; rw [HJL.out] at this; exact this) hk (lst' := lst5) (fun y => by rw [← HAK.out]; exact hm5 y))
     have HRS5 := Kh hrs5
     clear hm5 hb5 hrs5 hrs4
     go_wp2
     go_roundg (l.length - (k + 1))
     case measure => have := HG.out; omega
     case rel => exact ⟨k + 1, mv5, bs5, lst5, by omega, by go_num, HRS5.out, hs5.out, hgr5.out, ht5.out, hf5.out, hr5.out, hmem5.out⟩
  ·have hkl : k = l.length := by have := HG.out; omega
   have hmx : Hid (wT n lst = zV n tb l) := by
    have := HM.out
    rw [hkl] at this
    exact Kh (eC this.end_)
   clear hkl
   have cm := zI HRS.out.box2 0 (by simp)
   simp only [List.getElem_toArray, List.getElem_cons_zero] at cm
   have hzr := hgr.size
   have hzA3 := HRS.out.fr.size
   go_wp2_with fail
   refine (kL F C wr p go n tb mv wr.heap.size lst HSK.out hn (Row.of_owns HRS.out.own) (fun b hb => by rw [← HN.out]; exact HRS.out.lt b hb) (Nat.le_refl _)).mono ?_
   rintro e w4 ⟨sa4, sc4, rfl, hown4, hg4⟩
   rw [hmx.out] at hown4 ⊢
   have hR1 := gW n lst
   rw [hmx.out, ← HN.out] at hR1
   have hR0 := gP HTB.out HLT.out h0
   obtain ⟨R, hR⟩ : ∃ R, R = zV n tb l := ⟨_, rfl⟩
   rw [← hR] at hown4 hR1 hR0 ⊢
   have HRR := Kh hR
   obtain ⟨kb, rfl, hsc1, hsc2, harr4⟩ := yK hown4 hR0
   have hgr4 := zG hgr hg4 (by simp)
   have hf4 := zE HFK.out hg4 (by simp)
   have hr4 := zE HRK.out hg4 (by simp)
   have cf4 := zI hf4 0 (by simp)
   simp only [List.getElem_toArray, List.getElem_cons_zero] at cf4
   have hlk := HL.out.kept hgr4 (by simp; omega)
   rcases hlk with ⟨_, _, e, e2⟩ | ⟨b1, o1, c1, e, _, _, _, _, hra⟩
   ·exfalso
    have := congrArg List.length e2
    rw [zN, List.length_nil] at this
    omega
   simp only [Value.slice.injEq, Option.some.injEq, Addr.mk.injEq, and_true, zN] at e
   obtain ⟨⟨rfl, rfl⟩, -, rfl⟩ := e
   have heq := Tryd.slices_Equal_int kb 0 R.length sc4 fb0 fo0 l.length fc0 (R.map fun (x : Nat) => (x : Int)) (l.map fun (x : Nat) => (x : Int)) w4 (by simp) (by simp) (by omega) (by omega)
    (fun j hj => by
     have hj' : j < R.length := by simpa using hj
     rw [Nat.zero_add, harr4.nat j hj']; simp [List.getD, hj'])
    (fun j hj => by
     have hj' : j < l.length := by simpa using hj
     rw [hra.nat j hj']; simp [List.getD, hj'])
   rw [List.take_of_length_le (by simp), List.take_of_length_le (by simp), qBY] at heq
   have HEQ := Kh heq; have HO4 := Kh hown4; have HS4 := Kh (HSK.out.kept hg4 (by simp)); have HR4 := Kh hr4
   have cr0 := zI hr4 0 (by simp)
   have cr1 := zI hr4 1 (by simp)
   have fr0 := zD hr4 0
   have fr1 := zD hr4 1
   simp only [List.getElem_toArray, List.getElem_cons_zero, List.getElem_cons_succ] at cr0 cr1
   have hz4 := hg4.size
   clear hmx heq hown4 hr4 hf4 hra harr4 hR cm
   go_wp2_with fail
   refine HEQ.out.mono ?_
   rintro e w5 ⟨rfl, m, rfl⟩
   go_wp2
   have hg5 : w4.grownBy (((w4.drewN m).setCell ⟨w.heap.size + 1, 0, none⟩ (.slice (some ⟨kb, 0, none⟩) R.length sc4)).setCell ⟨w.heap.size + 1, 1, none⟩ (.bool (decide (R = l)))) (some (w.heap.size + 1)) :=
    zF (zF (zJ w4 m _) (zH (w4.drewN m) ⟨w.heap.size + 1, 0, none⟩ _)) (zH ((w4.drewN m).setCell ⟨w.heap.size + 1, 0, none⟩ (.slice (some ⟨kb, 0, none⟩) R.length sc4)) ⟨w.heap.size + 1, 1, none⟩ _)
   refine bodyPost_ret (v := .agg #[.slice (some ⟨kb, 0, none⟩) R.length sc4, .bool (decide (R = l))]) (by simp [results, Tryd.results49, go_sem, cr0, cr1]) rfl ?_
   rw [HRR.out] at *
   exact ⟨some ⟨kb, 0, none⟩, sc4, rfl, yJ (yF HO4.out hg5 (fun q e => by have : w.heap.size + 1 = q := Oj e; omega)) (by omega), HS4.out.kept hg5 (fun q e => by have : w.heap.size + 1 = q := Oj e; omega), zG hgr4 hg5 (fun q e => by have : w.heap.size + 1 = q := Oj e; omega)⟩
def uH (t:List (List Int)) (im:List Int):List Nat:=wT t.length (genL t im)
def BeginOk (w:World) (t:List (List Int)) (im:List Int) (e:Ending) (w':World):Prop :=
 w.grownBy w' none∧((yS t im≠0∧e=.returned (.tuple #[.agg #[.slice none 0 0,.bool false],.int .i64 (yS t im)])) ∨
  (yS t im=0∧∃ (sa:Option Addr) (sc:Nat),e=.returned (.tuple #[.agg #[.slice sa (uH t im).length sc,.bool false],.int .i64 0])∧w'.ownsRow w.heap.size 3 1 (.slice sa (uH t im).length sc) (uH t im).length (nats (uH t im))))
set_option maxHeartbeats 400000 in
theorem begin_any (B:Nat) (w:World) (v iv:Value) (t:List (List Int)) (im:List Int) (hB:B≤w.heap.size) (h:Mat B w v t) (hi:Row B w iv (ints im)) (hT:TabOk w) :
  Calls Tryd.prog 24 #[v,iv] w (BeginOk w t im):=by
 have H:=Kh h;have HI:=Kh hi;have HT:=Kh hT
 clear h hi hT
 go_enter Tryd.func24,Tryd.ntmps24
 go_upto_region 1 with fail
 obtain ⟨wA,hWA⟩:∃ wA,wA=w.alloc (.cells #[.slice none 0 0,.bool false] 49):=⟨_,rfl⟩
 have hrb:wA.heap[w.heap.size]?=some (.cells #[.slice none 0 0,.bool false] 49 (0,0)):=by rw [hWA];exact heap_alloc_new w _
 have hgA:w.grownBy wA none:=by rw [hWA];exact Ga w _ none
 have hzA:wA.heap.size=w.heap.size+1:=by rw [hWA,zO]
 rw [← hWA]
 have HGA:=Kh hgA;have HRA:=Kh hrb
 have hBA:B≤wA.heap.size:=by omega
 have HCH:=Kh (eT B wA v iv t im hBA (H.out.kept hgA (by simp)) (HI.out.kept hgA (by simp)))
 clear hWA hrb hgA
 go_wp2_with fail
 refine HCH.out.mono ?_
 rintro e w1 ⟨rfl,hg1⟩
 have hr1:=zE HRA.out hg1 (by simp)
 have HG1:=Kh hg1;have HR1:=Kh hr1
 have hz1:=hg1.size
 clear HCH hr1 hg1
 by_cases hz:yS t im=0
 ·rw [hz]
  have HZ:=Kh hz
  have hgd:=uP.1 hz
  have HGD:=Kh hgd
  have hle:=hgd.le
  have hva:=hgd.valid
  have HVA:=Kh hva
  have HN:=Kh (qZ B w1 v t (by omega) ((H.out.kept HGA.out (by simp)).kept HG1.out (by simp)) hva hle ((HT.out.kept HGA.out (by simp)).kept HG1.out (by simp)))
  clear hz hgd hva
  go_wp2_with fail
  refine HN.out.mono ?_
  rintro e w2 ⟨p,go,rfl,hs2,hg2⟩
  have HS2:=Kh hs2;have HG2:=Kh hg2
  have hz2:=hg2.size
  have HG:=Kh (oE B w2 v iv t im (by omega) (((H.out.kept HGA.out (by simp)).kept HG1.out (by simp)).kept hg2 (by simp)) (((HI.out.kept HGA.out (by simp)).kept HG1.out (by simp)).kept hg2 (by simp)) HGD.out)
  clear hs2 hg2 HN
  go_wp2_with fail
  refine HG.out.mono ?_
  rintro e w3 ⟨sa,sc,rfl,hown,hg3⟩
  have HG3:=Kh hg3
  have hz3:=hg3.size
  have HM:=Kh (kL w1.heap.size w2.heap.size w3 p go t.length (entN t) _ w3.heap.size (genL t im) (HS2.out.kept hg3 (by simp)) hle (Row.of_owns hown) (nT HGD.out) (Nat.le_refl _))
  clear hown hg3 HG
  go_wp2_with fail
  refine HM.out.mono ?_
  rintro e w4 ⟨sa4,sc4,rfl,hown4,hg4⟩
  have hz4:=hg4.size
  have hgr:w1.grownBy w4 none:=zF (zF HG2.out HG3.out) hg4
  have hr4:=zE HR1.out hgr (by simp)
  have cr0:=zI hr4 0 (by simp)
  have cr1:=zI hr4 1 (by simp)
  have fr0:=zD hr4 0
  have fr1:=zD hr4 1
  simp only [List.getElem_toArray,List.getElem_cons_zero,List.getElem_cons_succ] at cr0 cr1
  have HO4:=Kh hown4
  have HGR:=Kh (zF (zF HGA.out HG1.out) hgr)
  clear hown4 hr4 hgr hg4 HM
  change Hid (w4.ownsRow w3.heap.size 3 1 (.slice sa4 (uH t im).length sc4) (uH t im).length (nats (uH t im))) at HO4
  go_wp2
  have hg5:w4.grownBy ((w4.setCell ⟨w.heap.size,0,none⟩ (.slice sa4 (uH t im).length sc4)).setCell ⟨w.heap.size,1,none⟩ (.bool false)) (some w.heap.size) :=
   zF (zH w4 ⟨w.heap.size,0,none⟩ _) (zH (w4.setCell ⟨w.heap.size,0,none⟩ (.slice sa4 (uH t im).length sc4)) ⟨w.heap.size,1,none⟩ _)
  refine bodyPost_ret (v:=.tuple #[.agg #[.slice sa4 (uH t im).length sc4,.bool false],.int .i64 0]) (by simp [results,Tryd.results24,go_sem,cr0,cr1];rfl) rfl ?_
  exact ⟨zG HGR.out hg5 (fun q e=>by have:w.heap.size=q:=Oj e;omega),.inr ⟨HZ.out,sa4,sc4,rfl,yJ (yF HO4.out hg5 (fun q e=>by have:w.heap.size=q:=Oj e;omega)) (by omega)⟩⟩
 ·obtain ⟨E,hE⟩:∃ E,E=yS t im:=⟨_,rfl⟩
  rw [← hE] at hz ⊢
  have HE:=Kh hE
  have cr0:=zI HR1.out 0 (by simp)
  have cr1:=zI HR1.out 1 (by simp)
  have fr0:=zD HR1.out 0
  have fr1:=zD HR1.out 1
  simp only [List.getElem_toArray,List.getElem_cons_zero,List.getElem_cons_succ] at cr0 cr1
  have e1:(E != 0)=true:=by rw [bne_iff_ne];exact hz
  clear hE
  go_wp2
  have hg5:w1.grownBy ((w1.setCell ⟨w.heap.size,0,none⟩ (.slice none 0 0)).setCell ⟨w.heap.size,1,none⟩ (.bool false)) (some w.heap.size) :=
   zF (zH w1 ⟨w.heap.size,0,none⟩ _) (zH (w1.setCell ⟨w.heap.size,0,none⟩ (.slice none 0 0)) ⟨w.heap.size,1,none⟩ _)
  refine bodyPost_ret (v:=.tuple #[.agg #[.slice none 0 0,.bool false],.int .i64 E]) (by simp [results,Tryd.results24,go_sem,cr0,cr1]) rfl ?_
  exact ⟨zG (zF HGA.out HG1.out) hg5 (fun q e=>by have:w.heap.size=q:=Oj e;omega),.inl ⟨by rw [← HE.out];exact hz,by rw [← HE.out]⟩⟩
set_option maxHeartbeats 400000 in
theorem rbegin_any (B:Nat) (w:World) (v iv:Value) (t:List (List Int)) (im:List Int) (hB:B≤w.heap.size) (h:Mat B w v t) (hi:Row B w iv (ints im)) :
  Calls Tryd.prog 25 #[v,iv] w (BeginOk w t im):=by
 have H:=Kh h;have HI:=Kh hi
 clear h hi
 go_enter Tryd.func25,Tryd.ntmps25
 go_upto_region 1 with fail
 obtain ⟨wA,hWA⟩:∃ wA,wA=w.alloc (.cells #[.slice none 0 0,.bool false] 49):=⟨_,rfl⟩
 have hrb:wA.heap[w.heap.size]?=some (.cells #[.slice none 0 0,.bool false] 49 (0,0)):=by rw [hWA];exact heap_alloc_new w _
 have hgA:w.grownBy wA none:=by rw [hWA];exact Ga w _ none
 have hzA:wA.heap.size=w.heap.size+1:=by rw [hWA,zO]
 rw [← hWA]
 have HGA:=Kh hgA;have HRA:=Kh hrb
 have HCH:=Kh (bB B wA v iv t im (H.out.kept hgA (by simp)) (HI.out.kept hgA (by simp)))
 clear hWA hrb hgA
 go_wp2_with fail
 refine HCH.out.mono ?_
 rintro e w1 ⟨rfl,hd1⟩
 have hg1:wA.grownBy w1 none:=by obtain ⟨m,rfl⟩:=hd1;exact zJ _ _ _
 have hr1:=zE HRA.out hg1 (by simp)
 have HG1:=Kh hg1;have HR1:=Kh hr1
 have hz1:=hg1.size
 clear HCH hr1 hg1 hd1
 by_cases hz:yS t im=0
 ·rw [hz]
  have HZ:=Kh hz
  have hgd:=uP.1 hz
  have HGD:=Kh hgd
  have hle:=hgd.le
  have HG:=Kh (begin40_any B w1 v iv t im (by omega) ((H.out.kept HGA.out (by simp)).kept HG1.out (by simp)) ((HI.out.kept HGA.out (by simp)).kept HG1.out (by simp)) hgd)
  clear hz hgd
  go_wp2_with fail
  refine HG.out.mono ?_
  rintro e w3 ⟨sa,sc,rfl,hown,hg3⟩
  have HG3:=Kh hg3
  have hz3:=hg3.size
  have HM:=Kh (iI w3.heap.size w3 _ (genL t im) t.length hle (Nat.le_refl _) (Row.of_owns hown) (nT HGD.out))
  clear hown hg3 HG
  go_wp2_with fail
  refine HM.out.mono ?_
  rintro e w4 ⟨sa4,sc4,rfl,hown4,hg4⟩
  have hz4:=hg4.size
  have hgr:w1.grownBy w4 none:=zF HG3.out hg4
  have hr4:=zE HR1.out hgr (by simp)
  have cr0:=zI hr4 0 (by simp)
  have cr1:=zI hr4 1 (by simp)
  have fr0:=zD hr4 0
  have fr1:=zD hr4 1
  simp only [List.getElem_toArray,List.getElem_cons_zero,List.getElem_cons_succ] at cr0 cr1
  have HO4:=Kh hown4
  have HGR:=Kh (zF (zF HGA.out HG1.out) hgr)
  clear hown4 hr4 hgr hg4 HM
  change Hid (w4.ownsRow w3.heap.size 3 1 (.slice sa4 (uH t im).length sc4) (uH t im).length (nats (uH t im))) at HO4
  go_wp2
  have hg5:w4.grownBy ((w4.setCell ⟨w.heap.size,0,none⟩ (.slice sa4 (uH t im).length sc4)).setCell ⟨w.heap.size,1,none⟩ (.bool false)) (some w.heap.size) :=
   zF (zH w4 ⟨w.heap.size,0,none⟩ _) (zH (w4.setCell ⟨w.heap.size,0,none⟩ (.slice sa4 (uH t im).length sc4)) ⟨w.heap.size,1,none⟩ _)
  refine bodyPost_ret (v:=.tuple #[.agg #[.slice sa4 (uH t im).length sc4,.bool false],.int .i64 0]) (by simp [results,Tryd.results25,go_sem,cr0,cr1];rfl) rfl ?_
  exact ⟨zG HGR.out hg5 (fun q e=>by have:w.heap.size=q:=Oj e;omega),.inr ⟨HZ.out,sa4,sc4,rfl,yJ (yF HO4.out hg5 (fun q e=>by have:w.heap.size=q:=Oj e;omega)) (by omega)⟩⟩
 ·obtain ⟨E,hE⟩:∃ E,E=yS t im:=⟨_,rfl⟩
  rw [← hE] at hz ⊢
  have HE:=Kh hE
  have cr0:=zI HR1.out 0 (by simp)
  have cr1:=zI HR1.out 1 (by simp)
  have fr0:=zD HR1.out 0
  have fr1:=zD HR1.out 1
  simp only [List.getElem_toArray,List.getElem_cons_zero,List.getElem_cons_succ] at cr0 cr1
  have e1:(E != 0)=true:=by rw [bne_iff_ne];exact hz
  clear hE
  go_wp2
  have hg5:w1.grownBy ((w1.setCell ⟨w.heap.size,0,none⟩ (.slice none 0 0)).setCell ⟨w.heap.size,1,none⟩ (.bool false)) (some w.heap.size) :=
   zF (zH w1 ⟨w.heap.size,0,none⟩ _) (zH (w1.setCell ⟨w.heap.size,0,none⟩ (.slice none 0 0)) ⟨w.heap.size,1,none⟩ _)
  refine bodyPost_ret (v:=.tuple #[.agg #[.slice none 0 0,.bool false],.int .i64 E]) (by simp [results,Tryd.results25,go_sem,cr0,cr1]) rfl ?_
  exact ⟨zG (zF HGA.out HG1.out) hg5 (fun q e=>by have:w.heap.size=q:=Oj e;omega),.inl ⟨by rw [← HE.out];exact hz,by rw [← HE.out]⟩⟩
noncomputable def tK (t:List (List Int)) (im:List Int):List Nat:=uU t.length (entN t) (uH t im)
def qAG (w:World) (t:List (List Int)) (im:List Int) (e:Ending) (w':World):Prop :=
 w.grownBy w' none∧((yS t im≠0∧e=.returned (.tuple #[.slice none 0 0,.int .i64 (yS t im)])) ∨
  (yS t im=0∧∃ v,e=.returned (.tuple #[v,.int .i64 0])∧Row w'.heap.size w' v (nats (tK t im))))
theorem gO {t:List (List Int)} {im:List Int} (h:Good t im):kD t.length (uH t im,false):=⟨fun _ hb=>qBO hb,aO (nT h)⟩
theorem fL {t:List (List Int)} {im:List Int} (h:Good t im):0 < (uH t im).length:=by
 obtain ⟨b,hb,_⟩:=lV (nT h) _ (2 ^ (vC t).toNat) (Nat.le_refl _) (by simp [genL])
 exact List.length_pos_of_mem hb
def kV (n:Nat) (tb:Nat→Nat→Nat) (l0 l:List Nat) (d:Bool):Prop:=kD n (l,d)∧∃ k,yZ n tb k (l0,false)=(l,d)
theorem kV.step {n:Nat} {tb:Nat→Nat→Nat} {l0 l:List Nat} (ht:Tb n tb) (h:kV n tb l0 l false):kV n tb l0 (zV n tb l) (decide (zV n tb l=l)):=by
 obtain ⟨hf,k,hk⟩:=h
 refine ⟨nV ht hf,k+1,?_⟩
 rw [pQ,hk,uL];rfl
theorem kV.stop {n:Nat} {tb:Nat→Nat→Nat} {l0 l:List Nat} (ht:Tb n tb) (h0:kD n (l0,false)) (h:kV n tb l0 l true):l=uU n tb l0:=by
 obtain ⟨_,k,hk⟩:=h
 have:=roundsGo_stop ht h0 (k:=k) (by rw [hk])
 rw [hk] at this
 exact this
def togo (n:Nat) (l:List Nat) (d:Bool):Nat:=if d then 0 else gap n l+1
theorem kV.less {n:Nat} {tb:Nat→Nat→Nat} {l0 l:List Nat} (ht:Tb n tb) (h:kV n tb l0 l false):togo n (zV n tb l) (decide (zV n tb l=l)) < togo n l false:=by
 unfold togo
 by_cases e:zV n tb l=l
 ·simp [e]
 ·have:=aU ht h.1.1 h.1.2 e
  simp [e,this]
theorem kV.le {n:Nat} {tb:Nat→Nat→Nat} {l0 l:List Nat} {d:Bool} (h:kV n tb l0 l d):l.length≤2 ^ n:=by
 have:=gW n l
 rw [h.1.2] at this
 exact this
structure Held (F C bx:Nat) (w:World) (k sc:Nat) (l:List Nat):Prop where
 row:uD w k 0 (nats l)
 le:l.length≤sc
 mx:sc≤maxLen
 out:k < F∨C≤k
 nb:k≠bx
theorem Held.rowO {F C bx k sc:Nat} {w:World} {l:List Nat} (h:Held F C bx w k sc l):RowO F C w.heap.size w (.slice (some ⟨k,0,none⟩) l.length sc) (nats l) :=
 .inr ⟨k,0,sc,by rw [zN],h.out,h.row.1,by rw [zN];exact h.le,h.mx,h.row⟩
theorem Held.kept {F C bx k sc:Nat} {w w':World} {l:List Nat} {row:Option Nat} (h:Held F C bx w k sc l) (hg:w.grownBy w' row) (hr:row≠some k):Held F C bx w' k sc l :=
 ⟨h.row.kept hg hr,h.le,h.mx,h.out,h.nb⟩
theorem Held.of_owns {F C bx base k sc:Nat} {w:World} {l:List Nat} (h:w.ownsRow base 3 1 (.slice (some ⟨k,0,none⟩) l.length sc) l.length (nats l)) (h0:0 < l.length) (ho:k < F∨C≤k) (hn:k≠bx):Held F C bx w k sc l:=by
 obtain ⟨kb,e,h1,h2,h3⟩:=yK h h0
 simp only [Option.some.injEq,Addr.mk.injEq,and_true] at e
 subst e
 exact ⟨h3.row,h1,h2,ho,hn⟩
def dB (n:Nat) (zs:List Int) (i:Nat):Bool:=decide (zs.getD i 0≠0) && setB n (zs.getD i 0) && decide (i=0∨zs.getD (i - 1) 0 < zs.getD i 0)
theorem jS {n:Nat} {zs:List Int} {i:Nat} {z u:Int} (hz:z=zs.getD i 0) (hu:u=zs.getD (i - 1) 0):dB n zs i=(decide (z≠0) && setB n z && decide (i=0∨u < z)):=by subst hz;subst hu;rfl
def oR (n:Nat) (zs:List Int) (k:Nat):Bool:=(List.range k).all (dB n zs)
theorem dZ (n:Nat) (zs:List Int) (k:Nat):oR n zs (k+1)=(oR n zs k && dB n zs k):=by simp [oR,List.range_succ]
theorem lU {n:Nat} {zs:List Int} {k i:Nat} (h:oR n zs k=true) (hi:i < k):dB n zs i=true:=by
 simp only [oR,List.all_eq_true] at h
 exact h i (List.mem_range.2 hi)
theorem bF {n:Nat} {zs:List Int} {k i:Nat} (h:dB n zs i=false) (hi:i < k):oR n zs k=false:=by
 cases e:oR n zs k with
 | false=>rfl
 | true=>rw [lU e hi] at h;exact absurd h (by simp)
def natL (zs:List Int):List Nat:=zs.map Int.toNat
theorem nJ (zs:List Int):(natL zs).length=zs.length:=by simp [natL]
theorem aL (zs:List Int) (i:Nat):(natL zs).getD i 0=(zs.getD i 0).toNat:=by
 simp only [natL,List.getD,List.getElem?_map]
 cases zs[i]? <;> rfl
theorem aS {n:Nat} {zs:List Int} (h:oR n zs zs.length=true):ints zs=nats (natL zs):=by
 unfold ints nats natL
 rw [List.map_map]
 refine List.map_congr_left fun z hz=>?_
 obtain ⟨i,hi,rfl⟩:=List.getElem_of_mem hz
 have:=lU h hi
 simp only [dB,setB,List.getD,List.getElem?_eq_getElem hi,Option.getD_some,Bool.and_eq_true,decide_eq_true_eq] at this
 simp only [Function.comp]
 congr 1
 omega
theorem qAN {n:Nat} {zs:List Int} (h:oR n zs zs.length=true):∀ b∈natL zs,b < 2 ^ n:=by
 intro b hb
 obtain ⟨z,hz,rfl⟩:=List.mem_map.1 hb
 obtain ⟨i,hi,rfl⟩:=List.getElem_of_mem hz
 have:=lU h hi
 simp only [dB,setB,List.getD,List.getElem?_eq_getElem hi,Option.getD_some,Bool.and_eq_true,decide_eq_true_eq] at this
 omega
theorem natL_sorted {n:Nat} {zs:List Int} (h:oR n zs zs.length=true):(natL zs).Pairwise (· < ·):=by
 have step:∀ i,i+1 < zs.length→(natL zs).getD i 0 < (natL zs).getD (i+1) 0:=by
  intro i hi
  rw [aL,aL]
  have h1:=lU h hi
  have h2:=lU h (i:=i) (by omega)
  simp only [dB,setB,Bool.and_eq_true,decide_eq_true_eq] at h1 h2
  have:=h1.2
  simp only [Nat.add_sub_cancel] at this
  omega
 rw [List.pairwise_iff_getElem]
 have key:∀ d i,i+d+1 < zs.length→(natL zs).getD i 0 < (natL zs).getD (i+d+1) 0:=by
  intro d
  induction d with
  | zero=>intro i hi;exact step i hi
  | succ d ih=>intro i hi;exact Nat.lt_trans (ih i (by omega)) (step (i+d+1) (by omega))
 intro i j hi hj hij
 have:=key (j - i - 1) i (by rw [nJ] at hj;omega)
 rw [show i+(j - i - 1)+1=j from by omega] at this
 simpa [List.getD,List.getElem?_eq_getElem hi,List.getElem?_eq_getElem hj] using this
def famB (n:Nat) (zs:List Int):Bool:=decide (0 < zs.length) && oR n zs zs.length && decide ((wT n (natL zs)).length=zs.length)
theorem cJ:∀ {m l:List Nat},l.Pairwise (· < ·)→m.Pairwise (· < ·)→(∀ a∈l,a∈m)→l.Sublist m
 | [],l,_,_,hs=>by
  cases l with
  | nil=>exact List.Sublist.refl _
  | cons a l=>exact absurd (hs a (by simp)) (by simp)
 | b :: m,[],_,_,_=>List.nil_sublist _
 | b :: m,a :: l,hl,hm,hs=>by
  have hm':=List.pairwise_cons.1 hm
  have hl':=List.pairwise_cons.1 hl
  by_cases e:a=b
  ·subst e
   refine (cJ hl'.2 hm'.2 fun x hx=>?_).cons_cons a
   rcases List.mem_cons.1 (hs x (List.mem_cons_of_mem _ hx)) with rfl|h
   ·exact absurd (hl'.1 x hx) (Nat.lt_irrefl _)
   ·exact h
  ·have ha:a∈m:=by
    rcases List.mem_cons.1 (hs a (by simp)) with h|h
    ·exact absurd h e
    ·exact h
   have hab:=hm'.1 a ha
   refine (cJ hl hm'.2 fun x hx=>?_).cons b
   rcases List.mem_cons.1 (hs x hx) with rfl|h
   ·rcases List.mem_cons.1 hx with rfl|hx
    ·exact absurd rfl e
    ·have:=hl'.1 x hx;omega
   ·exact h
theorem sub_eq {l m:List Nat} (hl:l.Pairwise (· < ·)) (hm:m.Pairwise (· < ·)) (hs:∀ a∈l,a∈m) (hlen:l.length=m.length):l=m:=(cJ hl hm hs).eq_of_length hlen
theorem qBT {n:Nat} {zs:List Int} (h:famB n zs=true):kD n (natL zs,false)∧0 < (natL zs).length∧ints zs=nats (natL zs):=by
 simp only [famB,Bool.and_eq_true,decide_eq_true_eq] at h
 obtain ⟨⟨h1,h2⟩,h3⟩:=h
 refine ⟨⟨qAN h2,?_⟩,by rw [nJ];exact h1,aS h2⟩
 exact sub_eq (mS _ _) (natL_sorted h2) (fun a ha=>jM (qAN h2) ha) (by rw [h3,nJ])
theorem qDC {n:Nat} {zs:List Int} (h0:0 < zs.length) (h:oR n zs zs.length=true):famB n zs=decide ((wT n (natL zs)).length=zs.length):=by
 simp [famB,h0,h]
theorem qAQ {n:Nat} {zs:List Int} (h:oR n zs zs.length=false):famB n zs=false:=by simp [famB,h]
theorem famB_nil {n:Nat} {zs:List Int} (h:zs.length=0):famB n zs=false:=by simp [famB,h]
theorem tJ {xs:List Int} {k:Nat} (h:k < xs.length):xs.take (k+1)=xs.take k ++ [xs.getD k 0]:=by
 rw [List.take_add_one];simp [List.getD,h]
set_option maxHeartbeats 400000 in
theorem dN (B C:Nat) (w:World) (va vb:Value) (xs ys:List Int) (ha:Row B w va (ints xs)) (hb:Row C w vb (ints ys)) :
  Calls Tryd.prog 67 #[va,vb] w fun e w'=>e=.returned (.bool (decide (xs=ys)))∧∃ m,w'=w.drewN m:=by
 have hxl:=ha.len_le
 rw [zM] at hxl
 unfold maxLen at hxl
 have hyl:=hb.len_le
 rw [zM] at hyl
 unfold maxLen at hyl
 obtain ⟨aa,ac,rfl⟩:=ha.shape
 obtain ⟨ba,bc,rfl⟩:=hb.shape
 rw [zM] at ha hb ⊢
 rw [zM]
 by_cases hl:xs.length=ys.length
 ·by_cases h0:xs.length=0
  ·have hx:xs=[]:=List.eq_nil_of_length_eq_zero h0
   have hy:ys=[]:=List.eq_nil_of_length_eq_zero (by omega)
   subst hx;subst hy
   clear ha hb
   go_enter Tryd.func67,Tryd.ntmps67
   go_wp2
   go_loopg [13] 0 (fun g i wr=>i=.int .i64 0∧wr=w)
   case atStart=>exact ⟨rfl,rfl⟩
   case round =>
    obtain ⟨rfl,rfl⟩:=hrel
    go_wp2
    go_ret
    exact ⟨zZ rfl,0,rfl⟩
  ·obtain ⟨ab,ao,ac',e,_,_,_,hra⟩:=ha.some_ (by rw [zM];omega)
   simp only [Value.slice.injEq] at e
   obtain ⟨rfl,-,-⟩:=e
   obtain ⟨bb,bo,bc',e,_,_,_,hrb⟩:=hb.some_ (by rw [zM];omega)
   simp only [Value.slice.injEq] at e
   obtain ⟨rfl,-,-⟩:=e
   have RA:=Kh hra;have RB:=Kh hrb;have HL:=Kh hl
   clear ha hb hra hrb
   rw [← hl]
   clear hl
   go_enter Tryd.func67,Tryd.ntmps67
   go_wp2
   go_loopg [13] xs.length (fun g i wr=>∃ k:Nat,g+k=xs.length∧i=.int .i64 k∧xs.take k=ys.take k∧∃ m,wr=w.drewN m)
   case atStart=>exact ⟨0,rfl,rfl,rfl,0,rfl⟩
   case round =>
    obtain ⟨k,hg,rfl,hok,m,rfl⟩:=hrel
    have HG:=Kh hg;have OK:=Kh hok;clear hg hok
    by_cases hk:k < xs.length
    ·have hk':(k:Int) < xs.length:=by omega
     have ca:=RA.out.int k hk
     have cb:=RB.out.int k (by have:=HL.out;omega)
     obtain ⟨z,hz⟩:∃ z,z=xs.getD k 0:=⟨_,rfl⟩
     obtain ⟨u,hu⟩:∃ u,u=ys.getD k 0:=⟨_,rfl⟩
     rw [← hz] at ca
     rw [← hu] at cb
     have HZ:=Kh hz;have HU:=Kh hu;clear hz hu
     by_cases hzu:z=u
     ·have HN:Hid (xs.take (k+1)=ys.take (k+1)):=Kh (by rw [tJ hk,tJ (by have:=HL.out;omega),OK.out,← HZ.out,← HU.out,hzu])
      subst hzu
      go_wp2
      go_quiet (fail)
      go_wp2
      go_roundg (xs.length - (k+1))
      case measure=>have:=HG.out;omega
      case rel=>exact ⟨k+1,by omega,by go_num,HN.out,_,rfl⟩
     ·have e1:(z != u)=true:=by rw [bne_iff_ne];exact hzu
      have HN:Hid (decide (xs=ys)=false):=Kh (by rw [decide_eq_false_iff_not];rintro rfl;exact hzu (by rw [HZ.out,HU.out]))
      go_wp2
      go_quiet (fail)
      go_wp2
      go_ret
      exact ⟨zZ HN.out.symm,_,by rw [World.drewN_drewN]⟩
    ·have HY:Hid (decide (xs=ys)=true):=by
      have hkz:k=xs.length:=by have:=HG.out;omega
      have:=OK.out
      rw [List.take_of_length_le (by omega),List.take_of_length_le (by have:=HL.out;omega)] at this
      exact Kh (by rw [decide_eq_true_eq];exact this)
     go_wp2
     go_ret
     exact ⟨zZ HY.out.symm,m,rfl⟩
 ·have e1:((xs.length:Int) != (ys.length:Int))=true:=by rw [bne_iff_ne];omega
  have HN:Hid (decide (xs=ys)=false):=Kh (by rw [decide_eq_false_iff_not];rintro rfl;exact hl rfl)
  clear ha hb
  go_enter Tryd.func67,Tryd.ntmps67
  go_wp2
  go_ret
  exact ⟨zZ HN.out.symm,0,rfl⟩
set_option maxHeartbeats 400000 in
theorem lL (B C:Nat) (w:World) (va vb:Value) (xs ys:List Int) (ha:Row B w va (ints xs)) (hb:Row C w vb (ints ys)) :
  Calls Tryd.prog 30 #[va,vb] w fun e w'=>e=.returned (.bool (decide (xs=ys)))∧∃ m,w'=w.drewN m:=by
 have hxl:=ha.len_le
 rw [zM] at hxl
 unfold maxLen at hxl
 have hyl:=hb.len_le
 rw [zM] at hyl
 unfold maxLen at hyl
 obtain ⟨aa,ac,rfl⟩:=ha.shape
 obtain ⟨ba,bc,rfl⟩:=hb.shape
 rw [zM] at ha hb ⊢
 rw [zM]
 by_cases hl:xs.length=ys.length
 ·by_cases h0:xs.length=0
  ·have hx:xs=[]:=List.eq_nil_of_length_eq_zero h0
   have hy:ys=[]:=List.eq_nil_of_length_eq_zero (by omega)
   subst hx;subst hy
   clear ha hb
   go_enter Tryd.func30,Tryd.ntmps30
   go_wp2
   go_loopg [13] 0 (fun g i wr=>i=.int .i64 0∧wr=w)
   case atStart=>exact ⟨rfl,rfl⟩
   case round =>
    obtain ⟨rfl,rfl⟩:=hrel
    go_wp2
    go_ret
    exact ⟨zZ rfl,0,rfl⟩
  ·obtain ⟨ab,ao,ac',e,_,_,_,hra⟩:=ha.some_ (by rw [zM];omega)
   simp only [Value.slice.injEq] at e
   obtain ⟨rfl,-,-⟩:=e
   obtain ⟨bb,bo,bc',e,_,_,_,hrb⟩:=hb.some_ (by rw [zM];omega)
   simp only [Value.slice.injEq] at e
   obtain ⟨rfl,-,-⟩:=e
   have RA:=Kh hra;have RB:=Kh hrb;have HL:=Kh hl
   clear ha hb hra hrb
   rw [← hl]
   clear hl
   go_enter Tryd.func30,Tryd.ntmps30
   go_wp2
   go_loopg [13] xs.length (fun g i wr=>∃ k:Nat,g+k=xs.length∧i=.int .i64 k∧xs.take k=ys.take k∧∃ m,wr=w.drewN m)
   case atStart=>exact ⟨0,rfl,rfl,rfl,0,rfl⟩
   case round =>
    obtain ⟨k,hg,rfl,hok,m,rfl⟩:=hrel
    have HG:=Kh hg;have OK:=Kh hok;clear hg hok
    by_cases hk:k < xs.length
    ·have hk':(k:Int) < xs.length:=by omega
     have ca:=RA.out.int k hk
     have cb:=RB.out.int k (by have:=HL.out;omega)
     obtain ⟨z,hz⟩:∃ z,z=xs.getD k 0:=⟨_,rfl⟩
     obtain ⟨u,hu⟩:∃ u,u=ys.getD k 0:=⟨_,rfl⟩
     rw [← hz] at ca
     rw [← hu] at cb
     have HZ:=Kh hz;have HU:=Kh hu;clear hz hu
     by_cases hzu:z=u
     ·have HN:Hid (xs.take (k+1)=ys.take (k+1)):=Kh (by rw [tJ hk,tJ (by have:=HL.out;omega),OK.out,← HZ.out,← HU.out,hzu])
      subst hzu
      go_wp2
      go_quiet (fail)
      go_wp2
      go_roundg (xs.length - (k+1))
      case measure=>have:=HG.out;omega
      case rel=>exact ⟨k+1,by omega,by go_num,HN.out,_,rfl⟩
     ·have e1:(z != u)=true:=by rw [bne_iff_ne];exact hzu
      have HN:Hid (decide (xs=ys)=false):=Kh (by rw [decide_eq_false_iff_not];rintro rfl;exact hzu (by rw [HZ.out,HU.out]))
      go_wp2
      go_quiet (fail)
      go_wp2
      go_ret
      exact ⟨zZ HN.out.symm,_,by rw [World.drewN_drewN]⟩
    ·have HY:Hid (decide (xs=ys)=true):=by
      have hkz:k=xs.length:=by have:=HG.out;omega
      have:=OK.out
      rw [List.take_of_length_le (by omega),List.take_of_length_le (by have:=HL.out;omega)] at this
      exact Kh (by rw [decide_eq_true_eq];exact this)
     go_wp2
     go_ret
     exact ⟨zZ HY.out.symm,m,rfl⟩
 ·have e1:((xs.length:Int) != (ys.length:Int))=true:=by rw [bne_iff_ne];omega
  have HN:Hid (decide (xs=ys)=false):=Kh (by rw [decide_eq_false_iff_not];rintro rfl;exact hl rfl)
  clear ha hb
  go_enter Tryd.func30,Tryd.ntmps30
  go_wp2
  go_ret
  exact ⟨zZ HN.out.symm,0,rfl⟩
def tZ (xs:List Int) (s:Int):Bool:=xs.any fun b=>bits .and .i64 b s == s
def lI (xs:List Int) (s:Int) (k:Nat):Bool:=tZ (xs.take k) s
theorem withinTo_succ {xs:List Int} {s:Int} {k:Nat} (h:k < xs.length):lI xs s (k+1)=(lI xs s k || (bits .and .i64 (xs.getD k 0) s == s)):=by
 unfold lI tZ
 rw [tJ h,List.any_append]
 simp
theorem within_yes {xs:List Int} {s:Int} {k:Nat} (h:k < xs.length) (hb:(bits .and .i64 (xs.getD k 0) s == s)=true):tZ xs s=true:=by
 unfold tZ
 rw [List.any_eq_true]
 exact ⟨xs.getD k 0,by simp [List.getD,h],hb⟩
set_option maxHeartbeats 400000 in
theorem within_any (B:Nat) (w:World) (va:Value) (xs:List Int) (s:Int) (ha:Row B w va (ints xs)) :
  Calls Tryd.prog 34 #[va,.int .i64 s] w fun e w'=>e=.returned (.bool (tZ xs s))∧w=w':=by
 have hxl:=ha.len_le
 rw [zM] at hxl
 unfold maxLen at hxl
 obtain ⟨aa,ac,rfl⟩:=ha.shape
 rw [zM] at ha ⊢
 have HA:=Kh ha
 clear ha
 go_enter Tryd.func34,Tryd.ntmps34
 go_wp2
 go_loopg [9] xs.length (fun g i wr=>∃ k:Nat,g+k=xs.length∧i=.int .i64 k∧lI xs s k=false∧w=wr)
 case atStart=>exact ⟨0,rfl,rfl,rfl,rfl⟩
 case round =>
  obtain ⟨k,hg,rfl,hok,rfl⟩:=hrel
  have HG:=Kh hg;have OK:=Kh hok;clear hg hok
  by_cases hk:k < xs.length
  ·have hk':(k:Int) < xs.length:=by omega
   obtain ⟨ab,ao,ac',e,_,_,_,hra⟩:=HA.out.some_ (by rw [zM];omega)
   simp only [Value.slice.injEq] at e
   obtain ⟨rfl,-,-⟩:=e
   have ca:=hra.int k hk
   obtain ⟨z,hz⟩:∃ z,z=xs.getD k 0:=⟨_,rfl⟩
   rw [← hz] at ca
   have HZ:=Kh hz;clear hz hra
   cases hb:(bits .and .i64 z s == s) with
   | true =>
    have HY:Hid (tZ xs s=true):=Kh (within_yes hk (by rw [← HZ.out];exact hb))
    go_wp2
    go_ret
    exact ⟨zZ HY.out.symm,rfl⟩
   | false =>
    have HN:Hid (lI xs s (k+1)=false):=Kh (by rw [withinTo_succ hk,OK.out,← HZ.out,hb];rfl)
    go_wp2
    go_roundg (xs.length - (k+1))
    case measure=>have:=HG.out;omega
    case rel=>exact ⟨k+1,by omega,by go_num,HN.out,rfl⟩
  ·have HN:Hid (tZ xs s=false):=by
    have hkz:k=xs.length:=by have:=HG.out;omega
    have:=OK.out
    unfold lI at this
    rw [List.take_of_length_le (by omega)] at this
    exact Kh this
   go_wp2
   go_ret
   exact ⟨zZ HN.out.symm,rfl⟩
end Go.Proofs.YtdjhoadoiknaoaaDoor
namespace Go.Proofs.YtdjhoadoiknaoaaDoor
open Go.RowKit Go.Maps
theorem eF:Keyed Tryd.prog 3:=int_keyed (q:=.i64) (by kernel_rfl)
theorem aP:Tryd.prog.underlying 118=some (.map 3 4):=by kernel_rfl
theorem iT:Tryd.prog.underlying 4=some .bool:=by kernel_rfl
theorem zero_bool (w:World):(zeroValue 4).run Tryd.prog w=.ok (.bool false) w:=by kernel_rfl
theorem key_wf {x:Nat} (hx:x < 4611686018427387904):(Lit.int .i64 (x:Int)).wf=true:=by
 have h1:IntKind.i64.min = -9223372036854775808:=rfl
 have h2:IntKind.i64.max=9223372036854775807:=rfl
 simp [Lit.wf];omega
theorem key_of {x:Nat} (hx:x < 4611686018427387904):keyOf Tryd.prog 3 (.int .i64 (x:Int))=some (.int .i64 (x:Int)):=keyOf_int_mk (q:=.i64) (by kernel_rfl) (key_wf hx)
theorem bool_inv {v:Value} {c:Bool} {ps:List MemPlace} (h:plainElem (H:=Unit) Tryd.prog 4 v=some (.lit (.bool c),ps)):v=.bool c:=by
 unfold plainElem at h
 rw [iT] at h
 cases v <;> simp at h
 rw [h.1]
def pM (w:World) (b n:Nat) (l:List Nat):Prop :=
 ∃ D:DataW Unit,w.ownsMap Tryd.prog 3 (plainElem Tryd.prog 4) b n D∧IsMap D∧∀ x:Nat,x < 4611686018427387904→D.atKey (.int .i64 (x:Int)) (.lit (.bool false))=.lit (.bool (decide (x∈l)))
theorem pM.made (w:World):pM (w.alloc (.map #[] 0)) w.heap.size 0 []:=by
 refine ⟨.map [],World.ownsMap_made _ _ _ _,⟨_,rfl⟩,fun x _=>?_⟩
 rw [WideAt.atKey_none _ (by simp)]
 simp
theorem pM.kept {w w':World} {b n:Nat} {l:List Nat} {row:Option Nat} (h:pM w b n l) (hg:w.grownBy w' row) (hne:row≠some b):pM w' b n l:=by
 obtain ⟨D,h1,h2,h3⟩:=h
 exact ⟨D,h1.kept hg (fun e=>hne e.symm),h2,h3⟩
theorem pM.lt {w:World} {b n:Nat} {l:List Nat} (h:pM w b n l):b < w.heap.size:=by
 obtain ⟨D,h1,_⟩:=h
 exact h1.lt
theorem pM.lookup {w:World} {b n:Nat} {l:List Nat} (h:pM w b n l) {x:Nat} (hx:x < 4611686018427387904):(Instr.lookup 118 (.map (some b)) (.int .i64 (x:Int)) false).run Tryd.prog w=.ok (.bool (decide (x∈l))) w:=by
 obtain ⟨D,h1,h2,h3⟩:=h
 obtain ⟨v,ps,hrun,hv⟩:=h1.lookup eF aP (zero_bool w) (plainElem_bool iT false) (key_of hx)
 rw [h3 x hx] at hv
 rw [hrun,bool_inv hv]
theorem pM.update {w:World} {b n:Nat} {l:List Nat} (h:pM w b n l) (hn:n < maxLen) {x:Nat} (hx:x < 4611686018427387904) :
  ∃ w',(Instr.mapUpdate 118 (.map (some b)) (.int .i64 (x:Int)) (.bool true)).run Tryd.prog w=.ok () w'∧pM w' b (n+1) (x :: l)∧w.grownBy w' (some b):=by
 obtain ⟨D,h1,h2,h3⟩:=h
 obtain ⟨w',hrun,hown,hg⟩:=h1.update eF aP hn (key_of hx) (plainElem_bool iT true)
 refine ⟨w',hrun,⟨_,hown,?_,fun y hy=>?_⟩,hg⟩
 ·exact h2.put _ _
 ·by_cases e:y=x
  ·subst e
   rw [atKey_put_same (k:=.int .i64 (y:Int)) h2 (by simp [WideAt.IsKeyLit])]
   simp
  ·rw [atKey_put_other (by intro h;injection h with _ h;omega),h3 y hy]
   simp [e]
theorem step_in {w:World} {ops:Array Oper} {rest:List Oper} {o:Oper} {a:Act} {Q:Exit→Act→World→Prop} (hg:o.guard=none) (m x v:Operand) (hop:o.op=Op.mapUpdate 118 m x v)
  (b n:Nat) (l:List Nat) (z:Nat) (hm:a.eval m=.map (some b)) (hx:a.eval x=.int .i64 (z:Int)) (hv:a.eval v=.bool true) (h:pM w b n l) (hn:n < maxLen) (hz:z < 4611686018427387904)
  (hK:∀ w',pM w' b (n+1) (z :: l)→w.grownBy w' (some b)→wpList Tryd.prog ops Q rest (a.put o.dst undef) w') :
  wpList Tryd.prog ops Q (o :: rest) a w:=by
 refine wpList_plain hg fun K' hK'=>?_
 obtain ⟨w',hrun,r1,r2⟩:=h.update hn hz
 unfold Oper.wp
 simp [execOp,hop,hm,hx,hv,hrun,Result.andThen]
 exact hK' _ _ (hK w' r1 r2)
end Go.Proofs.YtdjhoadoiknaoaaDoor
namespace Go.Proofs.YtdjhoadoiknaoaaDoor
def tL {α:Type} [DecidableEq α] (acc:List α) (x:α):List α:=if x∈acc then acc else acc ++ [x]
def yV {α:Type} [DecidableEq α] (l:List α):List α:=l.foldl tL []
section
variable {α:Type} [DecidableEq α]
theorem qO {acc:List α} {x:α} (h:x∈acc):tL acc x=acc:=if_pos h
theorem qP {acc:List α} {x:α} (h:x ∉ acc):tL acc x=acc ++ [x]:=if_neg h
theorem dU {acc:List α} {x y:α}:y∈tL acc x ↔ y∈acc∨y=x:=by
 unfold tL
 split
 ·rename_i h
  exact ⟨.inl,fun h'=>by rcases h' with h'|rfl <;> assumption⟩
 ·simp
theorem pF (l:List α) (x:α):yV (l ++ [x])=tL (yV l) x:=by simp [yV,List.foldl_append]
theorem mem_foldl_addNew (l:List α):∀ (acc:List α) (y:α),y∈l.foldl tL acc ↔ y∈acc∨y∈l:=by
 induction l with
 | nil=>intro acc y;simp
 | cons a l ih=>intro acc y;rw [List.foldl_cons,ih,dU,List.mem_cons];exact or_assoc
theorem vG {l:List α} {y:α}:y∈yV l ↔ y∈l:=by rw [yV,mem_foldl_addNew];simp
theorem gF {acc:List α} {x:α} (h:acc.Nodup):(tL acc x).Nodup:=by
 unfold tL
 split
 ·exact h
 ·rename_i hx
  rw [List.nodup_append]
  exact ⟨h,by simp,fun a ha b hb=>by rw [List.mem_singleton] at hb;subst hb;rintro rfl;exact hx ha⟩
theorem foldl_addNew_nodup (l:List α):∀ {acc:List α},acc.Nodup→(l.foldl tL acc).Nodup:=by
 induction l with
 | nil=>intro acc h;exact h
 | cons a l ih=>intro acc h;exact ih (gF h)
theorem pW (l:List α):(yV l).Nodup:=foldl_addNew_nodup l (by simp)
theorem jV (acc:List α) (x:α):acc <+: tL acc x:=by
 unfold tL;split
 ·exact List.prefix_refl _
 ·exact List.prefix_append _ _
theorem foldl_addNew_prefix (l:List α):∀ (acc:List α),acc <+: l.foldl tL acc:=by
 induction l with
 | nil=>intro acc;exact List.prefix_refl _
 | cons a l ih=>intro acc;exact (jV acc a).trans (ih _)
theorem pV (l:List α) (k:Nat):yV (l.take k) <+: yV l:=by
 conv=>rhs;rw [← List.take_append_drop k l]
 rw [yV,yV,List.foldl_append]
 exact foldl_addNew_prefix _ _
theorem qD (l:List α):(yV l).length≤l.length:=by
 have key:∀ (l acc:List α),(l.foldl tL acc).length≤acc.length+l.length:=by
  intro l
  induction l with
  | nil=>intro acc;simp
  | cons a l ih =>
   intro acc
   rw [List.foldl_cons]
   have h1:=ih (tL acc a)
   have h2:(tL acc a).length≤acc.length+1:=by unfold tL;split <;> simp
   rw [List.length_cons];omega
 simpa [yV] using key l []
theorem idxOf_prefix {l m:List α} {x:α} (h:l <+: m) (hx:x∈l):m.idxOf x=l.idxOf x:=by
 obtain ⟨r,rfl⟩:=h
 rw [List.idxOf_append,if_pos hx]
theorem idxOf_inj {l:List α} {x y:α} (hx:x∈l) (h:l.idxOf x=l.idxOf y):x=y:=by
 have h1:=List.idxOf_lt_length_of_mem hx
 have e1:=List.getElem_idxOf h1
 have e2:=List.getElem_idxOf (show l.idxOf y < l.length by omega)
 rw [← e1,← e2];simp only [h]
def numb (l:List α):List Nat:=l.map fun x=>(yV l).idxOf x
theorem xW (l:List α):(numb l).length=l.length:=by simp [numb]
theorem lS {l:List α} {i:Nat} (h:i < l.length):(numb l)[i]'(by rw [xW];exact h)=(yV l).idxOf l[i]:=by simp [numb]
theorem qCW {l:List α}:∀ c∈numb l,c < (yV l).length:=by
 intro c hc
 obtain ⟨x,hx,rfl⟩:=List.mem_map.1 hc
 exact List.idxOf_lt_length_of_mem (vG.2 hx)
theorem fX {l:List α} {i j:Nat} (hi:i < l.length) (hj:j < l.length):(numb l).getD i 0=(numb l).getD j 0 ↔ l[i]=l[j]:=by
 simp only [List.getD,List.getElem?_eq_getElem (show i < (numb l).length by rw [xW];exact hi),List.getElem?_eq_getElem (show j < (numb l).length by rw [xW];exact hj),Option.getD_some,lS hi,lS hj]
 exact ⟨fun h=>idxOf_inj (vG.2 (List.getElem_mem hi)) h,fun h=>by rw [h]⟩
theorem numb_take {l:List α} {k:Nat} (hk:k < l.length):(yV (l.take (k+1))).idxOf l[k]=(yV l).idxOf l[k]:=by
 refine (idxOf_prefix (pV l (k+1)) (vG.2 ?_)).symm
 rw [List.take_succ_eq_append_getElem hk];exact List.mem_append_right _ (List.mem_singleton_self _)
end
def SameKer (p q:List Nat):Prop:=p.length=q.length∧∀ i j,i < p.length→j < p.length→(p.getD i 0=p.getD j 0 ↔ q.getD i 0=q.getD j 0)
def Norm (p:List Nat):Prop:=numb p=p
theorem zY {α:Type} {l:List α} {i:Nat} {d:α} (h:i < l.length):l.getD i d=l[i]:=by simp [List.getD,List.getElem?_eq_getElem h]
theorem dT {α β:Type} [DecidableEq α] [DecidableEq β]:∀ (l:List α) (m:List β) (he:l.length=m.length),(∀ i j (hi:i < l.length) (hj:j < l.length),(l[i]=l[j] ↔ m[i]'(by omega)=m[j]'(by omega)))→numb l=numb m:=by
 intro l m he h
 -- positions of first occurrences
 have key:∀ (k:Nat) (hk:k≤l.length),∃ ps:List (Fin l.length),yV (l.take k)=ps.map (fun i=>l[i])∧yV (m.take k)=ps.map (fun i=>m[i.1]'(by omega)):=by
  intro k
  induction k with
  | zero=>intro _;exact ⟨[],by simp [yV],by simp [yV]⟩
  | succ k ih =>
   intro hk
   obtain ⟨ps,h1,h2⟩:=ih (by omega)
   have hkl:k < l.length:=by omega
   rw [List.take_succ_eq_append_getElem hkl,List.take_succ_eq_append_getElem (show k < m.length by omega),pF,pF,h1,h2]
   have hmem:(l[k]∈ps.map (fun i=>l[i])) ↔ (m[k]'(by omega)∈ps.map (fun i=>m[i.1]'(by omega))):=by
    simp only [List.mem_map]
    constructor
    ·rintro ⟨i,hi,e⟩;exact ⟨i,hi,(h i.1 k i.2 hkl).1 e⟩
    ·rintro ⟨i,hi,e⟩;exact ⟨i,hi,(h i.1 k i.2 hkl).2 e⟩
   by_cases hm:l[k]∈ps.map (fun i=>l[i])
   ·exact ⟨ps,qO hm,qO (hmem.1 hm)⟩
   ·refine ⟨ps ++ [⟨k,hkl⟩],?_,?_⟩
    ·rw [qP hm];simp
    ·rw [qP (fun h'=>hm (hmem.2 h'))];simp
 obtain ⟨ps,h1,h2⟩:=key l.length (Nat.le_refl _)
 rw [List.take_length] at h1
 rw [show m.take l.length=m from List.take_of_length_le (by omega)] at h2
 refine List.ext_getElem (by simp [numb,he]) fun i hi _=>?_
 rw [xW] at hi
 rw [lS hi,lS (by omega),h1,h2]
 have aux:∀ (qs:List (Fin l.length)),(qs.map (fun i=>l[i])).idxOf l[i]=(qs.map (fun i=>m[i.1]'(by omega))).idxOf (m[i]'(by omega)):=by
  intro qs
  induction qs with
  | nil=>simp
  | cons a qs ih =>
   rw [List.map_cons,List.map_cons,List.idxOf_cons,List.idxOf_cons,ih]
   have:=h a.1 i a.2 hi
   by_cases e:l[a]=l[i]
   ·have e':=this.1 e
    simp only [beq_iff_eq.2 e,beq_iff_eq.2 e']
   ·have e':¬ (m[a.1]'(by omega)=m[i]'(by omega)):=fun h'=>e (this.2 h')
    simp only [beq_eq_false_iff_ne.2 e,beq_eq_false_iff_ne.2 e']
 exact aux ps
theorem aI {α:Type} [DecidableEq α] (l:List α):Norm (numb l):=by
 refine dT _ _ (xW l) fun i j hi hj=>?_
 rw [xW] at hi hj
 have:=fX (l:=l) hi hj
 rw [zY (by rw [xW];exact hi),zY (by rw [xW];exact hj)] at this
 exact this
theorem norm_ext {p q:List Nat} (hp:Norm p) (hq:Norm q) (h:SameKer p q):p=q:=by
 rw [← hp,← hq]
 refine dT _ _ h.1 fun i j hi hj=>?_
 have:=h.2 i j hi hj
 rw [zY hi,zY hj,zY (by rw [← h.1];exact hi),zY (by rw [← h.1];exact hj)] at this
 exact this
end Go.Proofs.YtdjhoadoiknaoaaDoor
