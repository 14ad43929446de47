/- Part 13 of the proof: Round2, Begin, Going, FamB. -/
import Derived.Test.YtdjhoadoiknaoaaDoorZC12
set_option linter.unusedVariables false
set_option linter.unusedSimpArgs false
namespace Go.Proofs.YtdjhoadoiknaoaaDoor
open Go.RowKit
def RowO (F C B:Nat) (w:World) (v:Value) (xs:List Value):Prop :=
 (∃ a cap,v=.slice a 0 cap∧xs=[])∨∃ b off cap,v=.slice (some ⟨b,off,none⟩) xs.length cap∧(b < F∨C≤b)∧b < B∧xs.length≤cap∧cap≤maxLen∧RowAt w b off xs
section
variable {F C B:Nat} {w w':World} {v:Value} {xs:List Value}
theorem RowO.row (h:RowO F C B w v xs):Row B w v xs:=by
 rcases h with h|⟨b,off,cap,h1,h2,h3,h4,h5,h6⟩
 ·exact .inl h
 ·exact .inr ⟨b,off,cap,h1,h3,h4,h5,h6⟩
theorem RowO.of_owns {base e n:Nat} (h:w.ownsRow base e 1 v n xs) (hC:C≤base):RowO F C w.heap.size w v xs:=by
 have hl:xs.length=n:=by have:=h.1;omega
 rcases h.2 with ⟨rfl,rfl⟩|⟨g,cap,cur,rfl,hb,hg,hnc,hcm,hcs,htake⟩
 ·exact .inl ⟨_,_,rfl,List.eq_nil_of_length_eq_zero hl⟩
 ·exact .inr ⟨g,0,cap,by rw [hl],.inr (by omega),zQ hg,by omega,hcm,(Arr.of_owns h).row⟩
theorem RowO.mono {B':Nat} (h:RowO F C B w v xs) (hB:B≤B'):RowO F C B' w v xs:=by
 rcases h with h|⟨b,off,cap,h1,h2,h3,h4⟩
 ·exact .inl h
 ·exact .inr ⟨b,off,cap,h1,h2,by omega,h4⟩
theorem RowO.kept {row:Option Nat} (h:RowO F C B w v xs) (hg:w.grownBy w' row) (hr:∀ k,row=some k→(F≤k∧k < C)∨B≤k):RowO F C B w' v xs:=by
 rcases h with h|⟨b,off,cap,h1,h2,h3,h4,h5,h6⟩
 ·exact .inl h
 ·exact .inr ⟨b,off,cap,h1,h2,h3,h4,h5,h6.kept hg (fun e=>by have:=hr b e;omega)⟩
theorem RowAt.below {S b off:Nat} (h:RowAt w b off xs) (hb:Below S w w') (hs:b < S):RowAt w' b off xs :=
 ⟨Nat.lt_of_lt_of_le h.1 hb.size,fun i hi=>(World.cell?_of_block (hb.block b hs)).trans (h.2 i hi)⟩
theorem RowO.below {S:Nat} (h:RowO F C B w v xs) (hb:Below S w w') (hs:B≤S):RowO F C B w' v xs:=by
 rcases h with h|⟨b,off,cap,h1,h2,h3,h4,h5,h6⟩
 ·exact .inl h
 ·exact .inr ⟨b,off,cap,h1,h2,h3,h4,h5,h6.below hb (by omega)⟩
theorem TabOk.below {S:Nat} (h:TabOk w) (hb:Below S w w') (hs:1 < S):TabOk w' :=
 ⟨Nat.lt_of_lt_of_le h.1 hb.size,fun j hj=>(World.cell?_of_block (hb.block _ hs)).trans (h.2 j hj)⟩
end
theorem SetsAt.below {F C S p go g0 n k kh:Nat} {w w':World} {tb:Nat→Nat→Nat} {gr:Nat→Nat} {om:List Nat} (h:SetsAt F C w p go g0 n k kh tb gr om) (hb:Below S w w') (hs:C≤S):SetsAt F C w' p go g0 n k kh tb gr om:=by
 have key:∀ q,q < C→w'.heap[q]?=w.heap[q]?:=fun q hq=>hb.block q (by omega)
 have ka:∀ {q e xs},Arr w q e xs→q < C→Arr w' q e xs:=fun ha hq=>by
  obtain ⟨cur,rest,h1,h2⟩:=ha
  exact ⟨cur,rest,(key _ hq).trans h1,h2⟩
 exact ⟨(key p h.lop.2).trans h.box,ka h.rows h.log.2,fun x hx=>ka (h.rowc x hx) (h.lor x hx).2,ka h.oms h.loo.2,h.oml,h.omok,h.ne,h.lop,h.log,h.loo,h.lor⟩
theorem wH.below {F C S p go n:Nat} {w w':World} {tb:Nat→Nat→Nat} (h:wH F C w p go n tb) (hb:Below S w w') (hs:C≤S):wH F C w' p go n tb:=by
 obtain ⟨g0,gr,om,h⟩:=h
 exact ⟨g0,gr,om,h.below hb hs⟩
theorem wH.go_lt {F C p go n:Nat} {w:World} {tb:Nat→Nat→Nat} (h:wH F C w p go n tb):F≤go∧go < C:=by
 obtain ⟨g0,gr,om,h⟩:=h
 exact h.loo
theorem Rs.kept {w0 w w':World} {bi bm g n M N go:Nat} {mv:Value} {bs:List Bool} {lst:List Nat} (h:Rs w0 w bi bm g n M N mv bs lst (some go)) (hg:w.grownBy w' (some go)) (hgo:go < w0.heap.size):Rs w0 w' bi bm g n M N mv bs lst (some go):=by
 have hlo:=h.lo
 have ne:∀ q,w0.heap.size≤q→(some go:Option Nat)≠some q:=fun q hq e=>by have:go=q:=Oj e;omega
 exact ⟨zE h.box1 hg (ne _ hlo.1),zE h.box2 hg (ne _ hlo.2.1),yB h.own hg (fun k e=>by have:go=k:=Oj e;omega),h.shape,h.arr.kept hg (ne _ hlo.2.2),h.len,h.cnt,h.mem,h.lt,hlo,zG h.fr hg⟩
theorem Rs.quiet {w0 w:World} {bi bm g n M N go:Nat} {mv:Value} {bs:List Bool} {lst:List Nat} (h:Rs w0 w bi bm g n M N mv bs lst (some go)) (m:Nat) (hgo:go < w0.heap.size):Rs w0 (w.drewN m) bi bm g n M N mv bs lst (some go) :=
 h.kept (zJ w m _) hgo
def RMem (n:Nat) (tb:Nat→Nat→Nat) (l:List Nat) (k j:Nat) (lst:List Nat):Prop :=
 ∀ y,y∈lst ↔ y∈l∨(∃ a∈l.take k,(∃ b∈l,zP n tb a b=y)∨yC n tb a=y)∨(∃ b∈l.take j,zP n tb (l.getD k 0) b=y)
theorem RMem.prod {n:Nat} {tb:Nat→Nat→Nat} {l:List Nat} {k j:Nat} {lst lst':List Nat} (h:RMem n tb l k j lst) (hj:j < l.length) (h':∀ y,y∈lst' ↔ y∈lst∨y=zP n tb (l.getD k 0) (l.getD j 0)):RMem n tb l k (j+1) lst':=by
 intro y
 rw [h' y,h y,yF (d:=0) hj]
 constructor
 ·rintro ((h|h|⟨b,hb,h⟩)|h)
  ·exact .inl h
  ·exact .inr (.inl h)
  ·exact .inr (.inr ⟨b,List.mem_append_left _ hb,h⟩)
  ·exact .inr (.inr ⟨l.getD j 0,by simp,h.symm⟩)
 ·rintro (h|h|⟨b,hb,h⟩)
  ·exact .inl (.inl h)
  ·exact .inl (.inr (.inl h))
  ·rcases List.mem_append.1 hb with hb|hb
   ·exact .inl (.inr (.inr ⟨b,hb,h⟩))
   ·simp only [List.mem_singleton] at hb
    subst hb
    exact .inr h.symm
theorem RMem.omega {n:Nat} {tb:Nat→Nat→Nat} {l:List Nat} {k:Nat} {lst lst':List Nat} (h:RMem n tb l k l.length lst) (hk:k < l.length) (h':∀ y,y∈lst' ↔ y∈lst∨y=yC n tb (l.getD k 0)):RMem n tb l (k+1) 0 lst':=by
 intro y
 rw [h' y,h y,yF (d:=0) hk,List.take_length]
 constructor
 ·rintro ((h|⟨a,ha,h⟩|⟨b,hb,h⟩)|h)
  ·exact .inl h
  ·exact .inr (.inl ⟨a,List.mem_append_left _ ha,h⟩)
  ·exact .inr (.inl ⟨l.getD k 0,by simp,.inl ⟨b,hb,h⟩⟩)
  ·exact .inr (.inl ⟨l.getD k 0,by simp,.inr h.symm⟩)
 ·rintro (h|⟨a,ha,h⟩|⟨b,hb,h⟩)
  ·exact .inl (.inl h)
  ·rcases List.mem_append.1 ha with ha|ha
   ·exact .inl (.inr (.inl ⟨a,ha,h⟩))
   ·simp only [List.mem_singleton] at ha
    subst ha
    rcases h with ⟨b,hb,h⟩|h
    ·exact .inl (.inr (.inr ⟨b,hb,h⟩))
    ·exact .inr h.symm
  ·simp at hb
theorem RMem.start {n:Nat} {tb:Nat→Nat→Nat} {l:List Nat}:RMem n tb l 0 0 l:=by intro y;simp
theorem RMem.end_ {n:Nat} {tb:Nat→Nat→Nat} {l:List Nat} {lst:List Nat} (h:RMem n tb l l.length 0 lst):∀ y,y∈lst ↔ y∈tK n tb l:=by
 intro y
 rw [h y,wR,List.take_length]
 simp
def RoundOk (F C:Nat) (w:World) (p go n:Nat) (tb:Nat→Nat→Nat) (l:List Nat) (e:Ending) (w':World):Prop :=
 ∃ (sa:Option Addr) (sc:Nat),e=.returned (.agg #[.slice sa (yA n tb l).length sc,.bool (decide (yA n tb l=l))])∧w'.ownsRow w.heap.size 3 1 (.slice sa (yA n tb l).length sc) (yA n tb l).length (nats (yA n tb l)) ∧
  wH F C w' p go n tb∧w.grownBy w' (some go)
theorem natsI (l:List Nat):nats l=(l.map fun (x:Nat)=>(x:Int)).map (Value.int .i64):=by simp [nats]
theorem cast_inj {l m:List Nat}:((l.map fun (x:Nat)=>(x:Int)) == (m.map fun (x:Nat)=>(x:Int)))=decide (l=m):=by
 rw [Bool.eq_iff_iff,beq_iff_eq,decide_eq_true_eq]
 constructor
 ·intro h
  have:=congrArg (List.map Int.toNat) h
  simpa [List.map_map,Function.comp_def] using this
 ·rintro rfl;rfl
theorem jC {n:Nat} {tb:Nat→Nat→Nat} {l:List Nat} (ht:Tb n tb) (hl:∀ b∈l,b < 2 ^ n) (h0:0 < l.length):0 < (yA n tb l).length:=by
 obtain ⟨a,ha⟩:=List.exists_mem_of_length_pos h0
 obtain ⟨b,hb,_⟩:=rQ (vH ht hl) _ a (Nat.le_refl _) (wR.2 (.inl ha))
 exact List.length_pos_of_mem hb
theorem jJ (n:Nat) (l:List Nat):(maxOf n l).length≤2 ^ n:=by
 have:=maxTo_le n l (2 ^ n)
 rwa [maxTo_full] at this
set_option maxRecDepth 100000 in
set_option maxHeartbeats 2000000 in
theorem round_any (F C B : Nat) (w : World) (p go n : Nat) (tb : Nat → Nat → Nat) (fv : Value) (d : Bool) (l : List Nat) (h : wH F C w p go n tb) (ht : Tb n tb) (hn : n ≤ 12) (hl : RowO F C B w fv (nats l)) (h0 : 0 < l.length) (hlt : ∀ b ∈ l, b < 2 ^ n) (hll : l.length ≤ 1000000) (hB : B ≤ w.heap.size) (hC : C ≤ w.heap.size) (hgF : 1 < F) (hT : TabOk w) :
  Calls Tryd.prog 49 #[.pointer (some ⟨p, 0, none⟩), .agg #[fv, .bool d]] w (RoundOk F C w p go n tb l) := by
 have hsh := rW (m := n) (by omega)
 obtain ⟨N, hN⟩ : ∃ N, N = 2 ^ n := ⟨_, rfl⟩
 have hN4 : N ≤ 4096 := by have := uG hn; omega
 rw [← hN] at hsh
 obtain ⟨fb0, fo0, fc0, rfl, _, _, _, _⟩ := hl.row.some_ (by rw [zN]; exact h0)
 rw [zN]
 have HN := Kh hN; have H := Kh h; have HL := Kh hl; have HLT := Kh hlt; have HT := Kh hT; have HTB := Kh ht
 clear h hl hlt hN hT ht
 go_enter Tryd.func49, Tryd.ntmps49
 go_upto_region 1 with fail
 obtain ⟨wA, hWA⟩ : ∃ wA, wA = (w.alloc (.cells #[.slice (some ⟨fb0, fo0, none⟩) l.length fc0, .bool d] 49)).alloc (.cells #[.slice none 0 0, .bool false] 49) := ⟨_, rfl⟩
 have hfb : wA.heap[w.heap.size]? = some (.cells #[.slice (some ⟨fb0, fo0, none⟩) l.length fc0, .bool d] 49 (0, 0)) := by
  rw [hWA]; exact zE (heap_alloc_new w _) (Ga _ _ none) (by simp)
 have hrb : wA.heap[w.heap.size + 1]? = some (.cells #[.slice none 0 0, .bool false] 49 (0, 0)) := by
  have := heap_alloc_new (w.alloc (.cells #[.slice (some ⟨fb0, fo0, none⟩) l.length fc0, .bool d] 49)) (.cells #[.slice none 0 0, .bool false] 49)
  rw [zO] at this
  rw [hWA]; exact this
 have hgA : w.grownBy wA none := by rw [hWA]; exact xG (Ga w _ none) _
 have hzA : wA.heap.size = w.heap.size + 2 := by rw [hWA, zO, zO]
 rw [← hWA]
 have HFB := Kh hfb; have HRB := Kh hrb; have HGA := Kh hgA; have HZA := Kh hzA
 have c0 := (H.out.kept hgA (by simp)).c0
 have hzA' : w.heap.size + 1 < wA.heap.size := by omega
 clear hWA hfb hrb hgA hzA
 go_upto_region 2 with (at_make; refine make1 rfl _ _ _ rfl wD rfl _ _ _ _ N rfl rfl hsh hsh ?b1 ?b2 ?_; (case b1 => omega); (case b2 => (unfold maxLen; omega)); intro w1 ha1 hg1 hz1)
 rw [← wU] at ha1
 obtain ⟨w2, hW2⟩ : ∃ w2, w2 = w1.alloc (.cells #[.slice (some ⟨wA.heap.size, 0, none⟩) N N] 25) := ⟨_, rfl⟩
 have hg2 : w1.grownBy w2 none := by rw [hW2]; exact Ga _ _ _
 have hbi : w2.heap[w1.heap.size]? = some (.cells #[.slice (some ⟨wA.heap.size, 0, none⟩) N N] 25 (0, 0)) := by rw [hW2]; exact heap_alloc_new w1 _
 have hz2 : w1.heap.size < w2.heap.size := zQ hbi
 rw [← hW2]
 have hgA2 := zG hg1 hg2
 have cf := zI (zE HFB.out hgA2 (by simp)) 0 (by simp)
 simp only [List.getElem_toArray, List.getElem_cons_zero] at cf
 have HA2 := Kh (ha1.kept hg2 (by simp)); have HBI := Kh hbi; have HGA2 := Kh hgA2
 have hlw := HL.out.kept (zG HGA.out hgA2) (by simp)
 have hrow := hlw.row
 rcases hlw with ⟨_, _, e, e2⟩ | ⟨b1, o1, c1, e, hb1, hb2, hb3, hb4, hra⟩
 ·exfalso
  have := congrArg List.length e2
  rw [zN, List.length_nil] at this
  omega
 simp only [Value.slice.injEq, Option.some.injEq, Addr.mk.injEq, and_true, zN] at e
 obtain ⟨⟨rfl, rfl⟩, -, rfl⟩ := e
 rw [zN] at hb3
 have hcl := Tryd.slices_Clone_int fb0 fo0 l.length fc0 (l.map fun (x : Nat) => (x : Int)) w2 (by simp) (by omega) (fun j hj => by
  have hj' : j < l.length := by simpa using hj
  have := hra.nat j hj'
  rw [this]; simp [List.getD, hj'])
 have HCL := Kh hcl
 clear hW2 hg2 hbi hgA2 ha1 hg1 hcl hra hrow
 go_wp2_with fail
 refine HCL.out.mono ?_
 rintro e w3 ⟨v', rfl, hown, hnn, hbel⟩
 rw [show ((l.map fun (x : Nat) => (x : Int)).take l.length).map (Value.int .i64) = nats l by rw [List.take_of_length_le (by simp), natsI]] at hown
 obtain ⟨sa0, sc0, rfl⟩ := tX hown
 have hgB0 := grown_of_below (row := none) hbel
 have HOWN := Kh hown; have HG23 := Kh hgB0
 clear hown hbel hgB0 hnn cf
 go_upto_region 3 with fail
 obtain ⟨wB, hWB⟩ : ∃ wB, wB = w3.alloc (.cells #[.slice sa0 l.length sc0] 22) := ⟨_, rfl⟩
 have hg3B : w3.grownBy wB none := by rw [hWB]; exact Ga _ _ _
 have hbm : wB.heap[w3.heap.size]? = some (.cells #[.slice sa0 l.length sc0] 22 (0, 0)) := by rw [hWB]; exact heap_alloc_new w3 _
 have hown2 : wB.ownsRow w2.heap.size 3 1 (.slice sa0 l.length sc0) l.length (nats l) := by rw [hWB]; exact HOWN.out.alloc _
 rw [← hWB]
 have hgAB := zG (zG HGA2.out HG23.out) hg3B
 have hg2B := zG HG23.out hg3B
 have hz23 := HG23.out.size
 have hgow := H.out.go_lt
 have hgoA : go < wA.heap.size := by omega
 have hRS : Rs wA wB w1.heap.size w3.heap.size wA.heap.size n l.length N (.slice sa0 l.length sc0) (List.replicate N false) l (some go) := by
  refine ⟨zE HBI.out hg2B (by simp), hbm, yK hown2 (by omega), ⟨_, _, rfl⟩, HA2.out.kept hg2B (by simp), by simp, by simp, fun x hx hb => ?_, fun x hx => by rw [HN.out]; exact HLT.out x hx, ⟨by omega, by omega, Nat.le_refl _⟩, xZ hgAB⟩
  simp [List.getD, List.getElem?_replicate, hx] at hb
 have HRS := Kh hRS
 have hgw := zG HGA.out hgAB
 have HSW := Kh (H.out.kept hgw (by simp)); have HLW := Kh (HL.out.kept hgw (by simp)); have HFW := Kh (zE HFB.out hgAB (by simp)); have HRW := Kh (zE HRB.out hgAB (by simp)); have HTW := Kh (HT.out.kept hgw (by simp))
 have HBE := Kh (xZ (row := some go) hgw)
 have hg1lt : 1 < w.heap.size := HT.out.1
 clear hWB hg3B hbm hown2 hgAB hg2B hRS hgw HOWN HG23 HBI HA2 HGA2 HFB HRB
 have cf := zI HFW.out 0 (by simp)
 simp only [List.getElem_toArray, List.getElem_cons_zero] at cf
 go_wp2
 go_loopg [26] l.length (fun gh i wr => ∃ (k : Nat) (mv : Value) (bs : List Bool) (lst : List Nat), gh + k = l.length ∧ i = .int .i64 k ∧ Rs wA wr w1.heap.size w3.heap.size wA.heap.size n l.length N mv bs lst (some go) ∧ wH F C wr p go n tb ∧ w.grownBy wr (some go) ∧ TabOk wr ∧ wr.heap[w.heap.size]? = some (.cells #[.slice (some ⟨fb0, fo0, none⟩) l.length fc0, .bool d] 49 (0, 0)) ∧ wr.heap[w.heap.size + 1]? = some (.cells #[.slice none 0 0, .bool false] 49 (0, 0)) ∧ RMem n tb l k 0 lst)
 case atStart => exact ⟨0, _, _, l, rfl, rfl, HRS.out, HSW.out, HBE.out, HTW.out, HFW.out, HRW.out, RMem.start⟩
 case round =>
  clear HRS HSW HLW HFW HRW HTW HBE cf
  obtain ⟨k, mv, bs, lst, hg, rfl, hrs, hs, hgr, hT, hfb, hrb, hmem⟩ := hrel
  have HG := Kh hg; have HRS := Kh hrs; have HSK := Kh hs; have HTK := Kh hT; have HFK := Kh hfb; have HRK := Kh hrb; have HM := Kh hmem
  have cf := zI hfb 0 (by simp)
  simp only [List.getElem_toArray, List.getElem_cons_zero] at cf
  clear hg hrs hs hT hfb hrb hmem
  by_cases hk : k < l.length
  ·have hk' : (k : Int) < l.length := by omega
   have hlk := HL.out.kept hgr (by simp; omega)
   rcases hlk with ⟨_, _, e, e2⟩ | ⟨b1, o1, c1, e, _, _, _, _, hra⟩
   ·exfalso
    have := congrArg List.length e2
    rw [zN, List.length_nil] at this
    omega
   simp only [Value.slice.injEq, Option.some.injEq, Addr.mk.injEq, and_true, zN] at e
   obtain ⟨⟨rfl, rfl⟩, -, rfl⟩ := e
   have ck := hra.nat k hk
   obtain ⟨a, ha⟩ : ∃ a, a = l.getD k 0 := ⟨_, rfl⟩
   have haN : a < 2 ^ n := by rw [ha]; exact jM HLT.out hk
   rw [← ha] at ck
   have HAK := Kh ha
   clear hra ha
   go_wp2
   go_loopg [33] l.length (fun gh i wr => ∃ (j : Nat) (mv : Value) (bs : List Bool) (lst : List Nat), gh + j = l.length ∧ i = .int .i64 j ∧ Rs wA wr w1.heap.size w3.heap.size wA.heap.size n l.length N mv bs lst (some go) ∧ wH F C wr p go n tb ∧ w.grownBy wr (some go) ∧ TabOk wr ∧ wr.heap[w.heap.size]? = some (.cells #[.slice (some ⟨fb0, fo0, none⟩) l.length fc0, .bool d] 49 (0, 0)) ∧ wr.heap[w.heap.size + 1]? = some (.cells #[.slice none 0 0, .bool false] 49 (0, 0)) ∧ RMem n tb l k j lst)
   case atStart => exact ⟨0, mv, bs, lst, rfl, rfl, HRS.out, HSK.out, hgr, HTK.out, HFK.out, HRK.out, HM.out⟩
   case round =>
    clear HRS HSK HTK HFK HRK HM hgr cf ck
    obtain ⟨j, mv, bs, lst, hg, rfl, hrs, hs, hgr, hT, hfb, hrb, hmem⟩ := hrel
    have HGJ := Kh hg; have HRS := Kh hrs; have HSK := Kh hs; have HTK := Kh hT; have HFK := Kh hfb; have HRK := Kh hrb; have HM := Kh hmem
    clear hg hrs hs hT hfb hrb hmem
    by_cases hj : j < l.length
    ·have hj' : (j : Int) < l.length := by omega
     have hlk := HL.out.kept hgr (by simp; omega)
     rcases hlk with ⟨_, _, e, e2⟩ | ⟨b1, o1, c1, e, _, _, _, _, hra⟩
     ·exfalso
      have := congrArg List.length e2
      rw [zN, List.length_nil] at this
      omega
     simp only [Value.slice.injEq, Option.some.injEq, Addr.mk.injEq, and_true, zN] at e
     obtain ⟨⟨rfl, rfl⟩, -, rfl⟩ := e
     have cj := hra.nat j hj
     obtain ⟨b, hb⟩ : ∃ b, b = l.getD j 0 := ⟨_, rfl⟩
     have hbN : b < 2 ^ n := by rw [hb]; exact jM HLT.out hj
     rw [← hb] at cj
     have HBJ := Kh hb
     clear hra hb
     go_wp2_with fail
     refine (tW F C wr p go n tb a b HSK.out HTB.out.lt hn haN hbN HTK.out).mono ?_
     rintro e w4 ⟨rfl, m, rfl⟩
     have hpN : zP n tb a b < N := by rw [HN.out]; exact xU HTB.out.lt _ _
     go_wp2_with fail
     refine (radd_any wA _ w1.heap.size w3.heap.size wA.heap.size n l.length N (zP n tb a b) mv bs lst (some go) hpN hN4 hll (HRS.out.quiet m hgoA)).mono ?_
     rintro e w5 ⟨rfl, bs5, mv5, lst5, hrs5, hm5, hb5⟩
     have hdr := zJ wr m (some go)
     have hs5 := Kh ((HSK.out.kept (zJ wr m none) (by simp)).below hb5 (by omega))
     have ht5 := Kh (TabOk.below (HTK.out.of_heap (w' := wr.drewN m) rfl) hb5 (by omega))
     have hf5 := Kh ((hb5.block w.heap.size (by omega)).trans HFK.out)
     have hr5 := Kh ((hb5.block (w.heap.size + 1) (by omega)).trans HRK.out)
     have hgr5 : Hid (w.grownBy w5 (some go)) := by
      have h1 := hrs5.fr
      exact Kh (zG (xZ HGA.out) h1)
     have hmem5 := Kh (HM.out.prod hj (lst' := lst5) (fun y => by rw [← HAK.out, ← HBJ.out]; exact hm5 y))
     have HRS5 := Kh hrs5
     clear hm5 hb5 hrs5 hdr cj
     go_wp2
     go_roundg (l.length - (j + 1))
     case measure => have := HGJ.out; omega
     case rel => exact ⟨j + 1, mv5, bs5, lst5, by omega, by go_num, HRS5.out, hs5.out, hgr5.out, ht5.out, hf5.out, hr5.out, hmem5.out⟩
    ·have hjl : j = l.length := by have := HGJ.out; omega
     have HJL := Kh hjl
     clear hjl
     go_wp2_with fail
     refine (oD F C wr p go n tb a HSK.out HTB.out hn haN HTK.out).mono ?_
     rintro e w4 ⟨rfl, hs4, hg4⟩
     have hoN : yC n tb a < N := by rw [HN.out]; exact vO HTB.out haN
     have hrs4 := HRS.out.kept hg4 hgoA
     have ht4 := Kh (HTK.out.kept hg4 (fun e => by have : go = 1 := Oj e; have := HSK.out.go_lt; omega))
     have hf4 := Kh (zE HFK.out hg4 (fun e => by have : go = w.heap.size := Oj e; omega))
     have hr4 := Kh (zE HRK.out hg4 (fun e => by have : go = w.heap.size + 1 := Oj e; omega))
     have HS4 := Kh hs4
     clear hs4 hg4
     go_wp2_with fail
     refine (radd_any wA w4 w1.heap.size w3.heap.size wA.heap.size n l.length N (yC n tb a) mv bs lst (some go) hoN hN4 hll hrs4).mono ?_
     rintro e w5 ⟨rfl, bs5, mv5, lst5, hrs5, hm5, hb5⟩
     have hs5 := Kh (HS4.out.below hb5 (by omega))
     have ht5 := Kh (ht4.out.below hb5 (by omega))
     have hf5 := Kh ((hb5.block w.heap.size (by omega)).trans hf4.out)
     have hr5 := Kh ((hb5.block (w.heap.size + 1) (by omega)).trans hr4.out)
     have hgr5 : Hid (w.grownBy w5 (some go)) := Kh (zG (xZ HGA.out) hrs5.fr)
     have hmem5 := Kh (RMem.omega (by have := HM.out; rw [HJL.out] at this; exact this) hk (lst' := lst5) (fun y => by rw [← HAK.out]; exact hm5 y))
     have HRS5 := Kh hrs5
     clear hm5 hb5 hrs5 hrs4
     go_wp2
     go_roundg (l.length - (k + 1))
     case measure => have := HG.out; omega
     case rel => exact ⟨k + 1, mv5, bs5, lst5, by omega, by go_num, HRS5.out, hs5.out, hgr5.out, ht5.out, hf5.out, hr5.out, hmem5.out⟩
  ·have hkl : k = l.length := by have := HG.out; omega
   have hmx : Hid (maxOf n lst = yA n tb l) := by
    have := HM.out
    rw [hkl] at this
    exact Kh (maxOf_congr this.end_)
   clear hkl
   have cm := zI HRS.out.box2 0 (by simp)
   simp only [List.getElem_toArray, List.getElem_cons_zero] at cm
   have hzr := hgr.size
   have hzA3 := HRS.out.fr.size
   go_wp2_with fail
   refine (pN F C wr p go n tb mv wr.heap.size lst HSK.out hn (Row.of_owns HRS.out.own) (fun b hb => by rw [← HN.out]; exact HRS.out.lt b hb) (Nat.le_refl _)).mono ?_
   rintro e w4 ⟨sa4, sc4, rfl, hown4, hg4⟩
   rw [hmx.out] at hown4 ⊢
   have hR1 := jJ n lst
   rw [hmx.out, ← HN.out] at hR1
   have hR0 := jC HTB.out HLT.out h0
   obtain ⟨R, hR⟩ : ∃ R, R = yA n tb l := ⟨_, rfl⟩
   rw [← hR] at hown4 hR1 hR0 ⊢
   have HRR := Kh hR
   obtain ⟨kb, rfl, hsc1, hsc2, harr4⟩ := yQ hown4 hR0
   have hgr4 := zF hgr hg4 (by simp)
   have hf4 := zE HFK.out hg4 (by simp)
   have hr4 := zE HRK.out hg4 (by simp)
   have cf4 := zI hf4 0 (by simp)
   simp only [List.getElem_toArray, List.getElem_cons_zero] at cf4
   have hlk := HL.out.kept hgr4 (by simp; omega)
   rcases hlk with ⟨_, _, e, e2⟩ | ⟨b1, o1, c1, e, _, _, _, _, hra⟩
   ·exfalso
    have := congrArg List.length e2
    rw [zN, List.length_nil] at this
    omega
   simp only [Value.slice.injEq, Option.some.injEq, Addr.mk.injEq, and_true, zN] at e
   obtain ⟨⟨rfl, rfl⟩, -, rfl⟩ := e
   have heq := Tryd.slices_Equal_int kb 0 R.length sc4 fb0 fo0 l.length fc0 (R.map fun (x : Nat) => (x : Int)) (l.map fun (x : Nat) => (x : Int)) w4 (by simp) (by simp) (by omega) (by omega)
    (fun j hj => by
     have hj' : j < R.length := by simpa using hj
     rw [Nat.zero_add, harr4.nat j hj']; simp [List.getD, hj'])
    (fun j hj => by
     have hj' : j < l.length := by simpa using hj
     rw [hra.nat j hj']; simp [List.getD, hj'])
   rw [List.take_of_length_le (by simp), List.take_of_length_le (by simp), cast_inj] at heq
   have HEQ := Kh heq; have HO4 := Kh hown4; have HS4 := Kh (HSK.out.kept hg4 (by simp)); have HR4 := Kh hr4
   have cr0 := zI hr4 0 (by simp)
   have cr1 := zI hr4 1 (by simp)
   have fr0 := zD hr4 0
   have fr1 := zD hr4 1
   simp only [List.getElem_toArray, List.getElem_cons_zero, List.getElem_cons_succ] at cr0 cr1
   have hz4 := hg4.size
   clear hmx heq hown4 hr4 hf4 hra harr4 hR cm
   go_wp2_with fail
   refine HEQ.out.mono ?_
   rintro e w5 ⟨rfl, m, rfl⟩
   go_wp2
   have hg5 : w4.grownBy (((w4.drewN m).setCell ⟨w.heap.size + 1, 0, none⟩ (.slice (some ⟨kb, 0, none⟩) R.length sc4)).setCell ⟨w.heap.size + 1, 1, none⟩ (.bool (decide (R = l)))) (some (w.heap.size + 1)) :=
    zG (zG (zJ w4 m _) (zH (w4.drewN m) ⟨w.heap.size + 1, 0, none⟩ _)) (zH ((w4.drewN m).setCell ⟨w.heap.size + 1, 0, none⟩ (.slice (some ⟨kb, 0, none⟩) R.length sc4)) ⟨w.heap.size + 1, 1, none⟩ _)
   refine bodyPost_ret (v := .agg #[.slice (some ⟨kb, 0, none⟩) R.length sc4, .bool (decide (R = l))]) (by simp [results, Tryd.results49, go_sem, cr0, cr1]) rfl ?_
   rw [HRR.out] at *
   exact ⟨some ⟨kb, 0, none⟩, sc4, rfl, yK (yB HO4.out hg5 (fun q e => by have : w.heap.size + 1 = q := Oj e; omega)) (by omega), HS4.out.kept hg5 (fun q e => by have : w.heap.size + 1 = q := Oj e; omega), zF hgr4 hg5 (fun q e => by have : w.heap.size + 1 = q := Oj e; omega)⟩
def tB (t:List (List Int)) (im:List Int):List Nat:=maxOf t.length (genL t im)
def BeginOk (w:World) (t:List (List Int)) (im:List Int) (e:Ending) (w':World):Prop :=
 w.grownBy w' none∧((yO t im≠0∧e=.returned (.tuple #[.agg #[.slice none 0 0,.bool false],.int .i64 (yO t im)])) ∨
  (yO t im=0∧∃ (sa:Option Addr) (sc:Nat),e=.returned (.tuple #[.agg #[.slice sa (tB t im).length sc,.bool false],.int .i64 0])∧w'.ownsRow w.heap.size 3 1 (.slice sa (tB t im).length sc) (tB t im).length (nats (tB t im))))
set_option maxHeartbeats 400000 in
theorem begin_any (B:Nat) (w:World) (v iv:Value) (t:List (List Int)) (im:List Int) (hB:B≤w.heap.size) (h:Mat B w v t) (hi:Row B w iv (ints im)) (hT:TabOk w) :
  Calls Tryd.prog 24 #[v,iv] w (BeginOk w t im):=by
 have H:=Kh h;have HI:=Kh hi;have HT:=Kh hT
 clear h hi hT
 go_enter Tryd.func24,Tryd.ntmps24
 go_upto_region 1 with fail
 obtain ⟨wA,hWA⟩:∃ wA,wA=w.alloc (.cells #[.slice none 0 0,.bool false] 49):=⟨_,rfl⟩
 have hrb:wA.heap[w.heap.size]?=some (.cells #[.slice none 0 0,.bool false] 49 (0,0)):=by rw [hWA];exact heap_alloc_new w _
 have hgA:w.grownBy wA none:=by rw [hWA];exact Ga w _ none
 have hzA:wA.heap.size=w.heap.size+1:=by rw [hWA,zO]
 rw [← hWA]
 have HGA:=Kh hgA;have HRA:=Kh hrb
 have hBA:B≤wA.heap.size:=by omega
 have HCH:=Kh (mM B wA v iv t im hBA (H.out.kept hgA (by simp)) (HI.out.kept hgA (by simp)))
 clear hWA hrb hgA
 go_wp2_with fail
 refine HCH.out.mono ?_
 rintro e w1 ⟨rfl,hg1⟩
 have hr1:=zE HRA.out hg1 (by simp)
 have HG1:=Kh hg1;have HR1:=Kh hr1
 have hz1:=hg1.size
 clear HCH hr1 hg1
 by_cases hz:yO t im=0
 ·rw [hz]
  have HZ:=Kh hz
  have hgd:=wV.1 hz
  have HGD:=Kh hgd
  have hle:=hgd.le
  have hva:=hgd.valid
  have HVA:=Kh hva
  have HN:=Kh (tY B w1 v t (by omega) ((H.out.kept HGA.out (by simp)).kept HG1.out (by simp)) hva hle ((HT.out.kept HGA.out (by simp)).kept HG1.out (by simp)))
  clear hz hgd hva
  go_wp2_with fail
  refine HN.out.mono ?_
  rintro e w2 ⟨p,go,rfl,hs2,hg2⟩
  have HS2:=Kh hs2;have HG2:=Kh hg2
  have hz2:=hg2.size
  have HG:=Kh (sJ B w2 v iv t im (by omega) (((H.out.kept HGA.out (by simp)).kept HG1.out (by simp)).kept hg2 (by simp)) (((HI.out.kept HGA.out (by simp)).kept HG1.out (by simp)).kept hg2 (by simp)) HGD.out)
  clear hs2 hg2 HN
  go_wp2_with fail
  refine HG.out.mono ?_
  rintro e w3 ⟨sa,sc,rfl,hown,hg3⟩
  have HG3:=Kh hg3
  have hz3:=hg3.size
  have HM:=Kh (pN w1.heap.size w2.heap.size w3 p go t.length (entN t) _ w3.heap.size (genL t im) (HS2.out.kept hg3 (by simp)) hle (Row.of_owns hown) (qX HGD.out) (Nat.le_refl _))
  clear hown hg3 HG
  go_wp2_with fail
  refine HM.out.mono ?_
  rintro e w4 ⟨sa4,sc4,rfl,hown4,hg4⟩
  have hz4:=hg4.size
  have hgr:w1.grownBy w4 none:=zG (zG HG2.out HG3.out) hg4
  have hr4:=zE HR1.out hgr (by simp)
  have cr0:=zI hr4 0 (by simp)
  have cr1:=zI hr4 1 (by simp)
  have fr0:=zD hr4 0
  have fr1:=zD hr4 1
  simp only [List.getElem_toArray,List.getElem_cons_zero,List.getElem_cons_succ] at cr0 cr1
  have HO4:=Kh hown4
  have HGR:=Kh (zG (zG HGA.out HG1.out) hgr)
  clear hown4 hr4 hgr hg4 HM
  change Hid (w4.ownsRow w3.heap.size 3 1 (.slice sa4 (tB t im).length sc4) (tB t im).length (nats (tB t im))) at HO4
  go_wp2
  have hg5:w4.grownBy ((w4.setCell ⟨w.heap.size,0,none⟩ (.slice sa4 (tB t im).length sc4)).setCell ⟨w.heap.size,1,none⟩ (.bool false)) (some w.heap.size) :=
   zG (zH w4 ⟨w.heap.size,0,none⟩ _) (zH (w4.setCell ⟨w.heap.size,0,none⟩ (.slice sa4 (tB t im).length sc4)) ⟨w.heap.size,1,none⟩ _)
  refine bodyPost_ret (v:=.tuple #[.agg #[.slice sa4 (tB t im).length sc4,.bool false],.int .i64 0]) (by simp [results,Tryd.results24,go_sem,cr0,cr1];rfl) rfl ?_
  exact ⟨zF HGR.out hg5 (fun q e=>by have:w.heap.size=q:=Oj e;omega),.inr ⟨HZ.out,sa4,sc4,rfl,yK (yB HO4.out hg5 (fun q e=>by have:w.heap.size=q:=Oj e;omega)) (by omega)⟩⟩
 ·obtain ⟨E,hE⟩:∃ E,E=yO t im:=⟨_,rfl⟩
  rw [← hE] at hz ⊢
  have HE:=Kh hE
  have cr0:=zI HR1.out 0 (by simp)
  have cr1:=zI HR1.out 1 (by simp)
  have fr0:=zD HR1.out 0
  have fr1:=zD HR1.out 1
  simp only [List.getElem_toArray,List.getElem_cons_zero,List.getElem_cons_succ] at cr0 cr1
  have e1:(E != 0)=true:=by rw [bne_iff_ne];exact hz
  clear hE
  go_wp2
  have hg5:w1.grownBy ((w1.setCell ⟨w.heap.size,0,none⟩ (.slice none 0 0)).setCell ⟨w.heap.size,1,none⟩ (.bool false)) (some w.heap.size) :=
   zG (zH w1 ⟨w.heap.size,0,none⟩ _) (zH (w1.setCell ⟨w.heap.size,0,none⟩ (.slice none 0 0)) ⟨w.heap.size,1,none⟩ _)
  refine bodyPost_ret (v:=.tuple #[.agg #[.slice none 0 0,.bool false],.int .i64 E]) (by simp [results,Tryd.results24,go_sem,cr0,cr1]) rfl ?_
  exact ⟨zF (zG HGA.out HG1.out) hg5 (fun q e=>by have:w.heap.size=q:=Oj e;omega),.inl ⟨by rw [← HE.out];exact hz,by rw [← HE.out]⟩⟩
noncomputable def uI (t:List (List Int)) (im:List Int):List Nat:=vY t.length (entN t) (tB t im)
def ClosureOk (w:World) (t:List (List Int)) (im:List Int) (e:Ending) (w':World):Prop :=
 w.grownBy w' none∧((yO t im≠0∧e=.returned (.tuple #[.slice none 0 0,.int .i64 (yO t im)])) ∨
  (yO t im=0∧∃ v,e=.returned (.tuple #[v,.int .i64 0])∧Row w'.heap.size w' v (nats (uI t im))))
theorem lL {t:List (List Int)} {im:List Int} (h:Good t im):FamOk t.length (tB t im,false):=⟨fun _ hb=>maxOf_lt hb,maxOf_max (qX h)⟩
theorem start_pos {t:List (List Int)} {im:List Int} (h:Good t im):0 < (tB t im).length:=by
 obtain ⟨b,hb,_⟩:=rQ (qX h) _ (2 ^ (wK t).toNat) (Nat.le_refl _) (by simp [genL])
 exact List.length_pos_of_mem hb
def Going (n:Nat) (tb:Nat→Nat→Nat) (l0 l:List Nat) (d:Bool):Prop:=FamOk n (l,d)∧∃ k,xH n tb k (l0,false)=(l,d)
theorem Going.step {n:Nat} {tb:Nat→Nat→Nat} {l0 l:List Nat} (ht:Tb n tb) (h:Going n tb l0 l false):Going n tb l0 (yA n tb l) (decide (yA n tb l=l)):=by
 obtain ⟨hf,k,hk⟩:=h
 refine ⟨pP ht hf,k+1,?_⟩
 rw [roundsGo_add,hk,uR];rfl
theorem Going.stop {n:Nat} {tb:Nat→Nat→Nat} {l0 l:List Nat} (ht:Tb n tb) (h0:FamOk n (l0,false)) (h:Going n tb l0 l true):l=vY n tb l0:=by
 obtain ⟨_,k,hk⟩:=h
 have:=roundsGo_stop ht h0 (k:=k) (by rw [hk])
 rw [hk] at this
 exact this
def togo (n:Nat) (l:List Nat) (d:Bool):Nat:=if d then 0 else gap n l+1
theorem Going.less {n:Nat} {tb:Nat→Nat→Nat} {l0 l:List Nat} (ht:Tb n tb) (h:Going n tb l0 l false):togo n (yA n tb l) (decide (yA n tb l=l)) < togo n l false:=by
 unfold togo
 by_cases e:yA n tb l=l
 ·simp [e]
 ·have:=gap_round ht h.1.1 h.1.2 e
  simp [e,this]
theorem Going.le {n:Nat} {tb:Nat→Nat→Nat} {l0 l:List Nat} {d:Bool} (h:Going n tb l0 l d):l.length≤2 ^ n:=by
 have:=jJ n l
 rw [h.1.2] at this
 exact this
structure Held (F C bx:Nat) (w:World) (k sc:Nat) (l:List Nat):Prop where
 row:RowAt w k 0 (nats l)
 le:l.length≤sc
 mx:sc≤maxLen
 out:k < F∨C≤k
 nb:k≠bx
theorem Held.rowO {F C bx k sc:Nat} {w:World} {l:List Nat} (h:Held F C bx w k sc l):RowO F C w.heap.size w (.slice (some ⟨k,0,none⟩) l.length sc) (nats l) :=
 .inr ⟨k,0,sc,by rw [zN],h.out,h.row.1,by rw [zN];exact h.le,h.mx,h.row⟩
theorem Held.kept {F C bx k sc:Nat} {w w':World} {l:List Nat} {row:Option Nat} (h:Held F C bx w k sc l) (hg:w.grownBy w' row) (hr:row≠some k):Held F C bx w' k sc l :=
 ⟨h.row.kept hg hr,h.le,h.mx,h.out,h.nb⟩
theorem Held.of_owns {F C bx base k sc:Nat} {w:World} {l:List Nat} (h:w.ownsRow base 3 1 (.slice (some ⟨k,0,none⟩) l.length sc) l.length (nats l)) (h0:0 < l.length) (ho:k < F∨C≤k) (hn:k≠bx):Held F C bx w k sc l:=by
 obtain ⟨kb,e,h1,h2,h3⟩:=yQ h h0
 simp only [Option.some.injEq,Addr.mk.injEq,and_true] at e
 subst e
 exact ⟨h3.row,h1,h2,ho,hn⟩
def natL (zs:List Int):List Nat:=zs.map Int.toNat
end Go.Proofs.YtdjhoadoiknaoaaDoor
