/- Part 9 of the proof: RRound, RAdv, DfaAt, Classes. -/
import Derived.Test.YtdjhoadoiknaoaaDoorZD8
set_option linter.unusedVariables false
set_option linter.unusedSimpArgs false
namespace Go.Proofs.YtdjhoadoiknaoaaDoor
open Go.RowKit Go.Maps
def rrow (n:Nat) (tb:Nat→Nat→Nat) (l:List Nat) (a:Nat):List Nat:=(l.map fun b=>zU n tb a b) ++ [yM n tb a]
def rI (n:Nat) (tb:Nat→Nat→Nat) (l:List Nat) (k j:Nat):List Nat:=l ++ (l.take k).flatMap (rrow n tb l) ++ (l.take j).map (zU n tb (l.getD k 0))
theorem oZ {l:List Nat} {k:Nat} (h:k < l.length):l.take (k+1)=l.take k ++ [l.getD k 0]:=by
 rw [List.take_add_one];simp [List.getD,h]
section
variable {n:Nat} {tb:Nat→Nat→Nat} {l:List Nat}
theorem eV:rI n tb l 0 0=l:=by simp [rI]
theorem allTo_succ {k j:Nat} (hj:j < l.length):rI n tb l k (j+1)=rI n tb l k j ++ [zU n tb (l.getD k 0) (l.getD j 0)]:=by
 unfold rI
 rw [oZ hj,List.map_append]
 simp
theorem allTo_row {k:Nat} (hk:k < l.length):rI n tb l (k+1) 0=rI n tb l k l.length ++ [yM n tb (l.getD k 0)]:=by
 unfold rI
 rw [oZ hk,List.flatMap_append]
 simp [rrow]
theorem allTo_end:rI n tb l l.length 0=wV n tb l:=by
 unfold rI wV
 rw [List.take_of_length_le (Nat.le_refl _)]
 simp
 rfl
theorem rows_len (l m:List Nat):(m.flatMap (rrow n tb l)).length=m.length * (l.length+1):=by
 induction m with
 | nil=>simp
 | cons a m ih=>rw [List.flatMap_cons,List.length_append,ih,List.length_cons,Nat.succ_mul];simp [rrow];omega
theorem qAB {k j:Nat} (hl:l.length≤4096) (hk:k≤l.length):(rI n tb l k j).length≤17000000:=by
 unfold rI
 rw [List.length_append,List.length_append,rows_len,List.length_map,List.length_take,List.length_take]
 have h1:min k l.length * (l.length+1)≤4096 * 4097:=Nat.mul_le_mul (by omega) (by omega)
 omega
end
theorem pM.congr {w:World} {b m:Nat} {l l':List Nat} (h:pM w b m l) (e:∀ x,x∈l ↔ x∈l'):pM w b m l':=by
 obtain ⟨D,h1,h2,h3⟩:=h
 refine ⟨D,h1,h2,fun x hx=>?_⟩
 rw [h3 x hx]
 simp [e x]
theorem pM.mono {w:World} {b m m':Nat} {l:List Nat} (h:pM w b m l) (hm:m≤m'):pM w b m' l:=by
 obtain ⟨D,h1,h2,h3⟩:=h
 exact ⟨D,h1.mono hm,h2,h3⟩
def RefRound (w:World) (n:Nat) (tb:Nat→Nat→Nat) (l:List Nat) (e:Ending) (w':World):Prop :=
 ∃ (sa:Option Addr) (sc:Nat),e=.returned (.slice sa (zV n tb l).length sc)∧w'.ownsRow w.heap.size 3 1 (.slice sa (zV n tb l).length sc) (zV n tb l).length (nats (zV n tb l))∧w.grownBy w' none
set_option maxRecDepth 100000 in
set_option maxHeartbeats 1000000 in
theorem rround_any (B:Nat) (w:World) (v sv:Value) (t:List (List Int)) (l:List Nat) (hB:B≤w.heap.size) (h:Mat B w v t) (hv:xM t=0) (hn:t.length≤12) (hl:Row B w sv (nats l)) (hlt:∀ b∈l,b < 2 ^ t.length) (h0:0 < l.length) (hle:l.length≤4096) :
  Calls Tryd.prog 68 #[v,sv] w (RefRound w t.length (entN t) l):=by
 have hmm:=@run_makeMap Tryd.prog
 obtain ⟨n,hnn⟩:∃ n,n=t.length:=⟨_,rfl⟩
 obtain ⟨tb,htb⟩:∃ tb,tb=entN t:=⟨_,rfl⟩
 have HP:Hid (∀ (W:World) (a b:Nat),w.grownBy W none→a < 2 ^ n→b < 2 ^ n→Calls Tryd.prog 55 #[v,.int .i64 (a:Int),.int .i64 (b:Int)] W fun e w'=>e=.returned (.int .i64 (zU n tb a b:Nat))∧W=w') :=
  Kh (fun W a b hg ha hb=>by rw [hnn,htb];rw [hnn] at ha hb;exact lR B W v t a b (h.kept hg (by simp)) (uY hv).1 hn ha hb)
 have HO:Hid (∀ (W:World) (a:Nat),w.grownBy W none→a < 2 ^ n→Calls Tryd.prog 57 #[v,.int .i64 (a:Int)] W fun e w'=>e=.returned (.int .i64 (yM n tb a:Nat))∧W=w') :=
  Kh (fun W a hg ha=>by rw [hnn,htb];rw [hnn] at ha;exact fW B W v t a (h.kept hg (by simp)) hv hn ha)
 have HTB:Hid (Tb n tb):=Kh (by rw [hnn,htb];exact oK hv)
 rw [← hnn,← htb]
 rw [← hnn] at hlt hn
 have HL:=Kh hl;have HLT:=Kh hlt
 obtain ⟨lb,lo,lc,rfl,_,_,_,_⟩:=hl.some_ (by rw [zN];exact h0)
 rw [zN]
 clear h hv hl hlt hnn htb
 go_enter Tryd.func68,Tryd.ntmps68
 go_wp2_with (first|(at_builtin;refine appR rfl _ _ _ rfl yC w.heap.size (.slice (some ⟨w.heap.size,0,none⟩) 0 0) 0 [] rfl (yQ (heap_alloc_new w _) (Nat.le_refl _)) _ (nats l) rfl ⟨B,?a1⟩ (uE _) l.length ?a2 ?a3 ?a4 ?a5 ?_)|fail)
 case a1=>have:=HL.out.kept (Ga w (.cells #[] 3) none) (by simp);rw [zN] at this;exact this
 case a2=>simp [nats]
 case a3=>unfold maxLen;omega
 case a4=>omega
 case a5=>rw [zO];omega
 intro sa w1c w1 hown1 hg1
 have HOWN1:=Kh hown1
 have HG1:Hid (w.grownBy w1 none):=Kh (zG (Ga w (.cells #[] 3) none) hg1 (fun x e=>by have:w.heap.size=x:=Oj e;omega))
 clear hown1 hg1
 go_wp2
 go_loopg [5,19] l.length (fun g ov i wr=>∃ (k:Nat) (sa:Option Addr) (sc:Nat),g+k=l.length∧i=.int .i64 k∧ov=.slice sa (rI n tb l k 0).length sc∧wr.ownsRow w.heap.size 3 1 (.slice sa (rI n tb l k 0).length sc) (rI n tb l k 0).length (nats (rI n tb l k 0))∧w.grownBy wr none)
 case atStart=>exact ⟨0,sa,w1c,rfl,rfl,by rw [eV],by rw [eV];exact HOWN1.out,HG1.out⟩
 case round =>
  clear HOWN1 HG1
  obtain ⟨k,sa,sc,hg,rfl,rfl,hown,hgr⟩:=hrel
  have HG:=Kh hg;have HOWN:=Kh hown;have HGR:=Kh hgr
  clear hg hown
  by_cases hk:k < l.length
  ·have hk':(k:Int) < l.length:=by omega
   obtain ⟨lb',lo',lc',e,_,_,_,hra⟩:=(HL.out.kept hgr (by simp)).some_ (by rw [zN];omega)
   simp only [Value.slice.injEq,Option.some.injEq,Addr.mk.injEq,and_true] at e
   obtain ⟨⟨rfl,rfl⟩,-,-⟩:=e
   have ck:=hra.nat k hk
   obtain ⟨a,ha⟩:∃ a,a=l.getD k 0:=⟨_,rfl⟩
   have haN:Hid (a < 2 ^ n):=Kh (by rw [ha];exact nQ HLT.out hk)
   rw [← ha] at ck
   have HA:=Kh ha
   clear hra ha hgr
   go_wp2
   go_loopg [5,25] l.length (fun g ov i wr=>∃ (j:Nat) (sa:Option Addr) (sc:Nat),g+j=l.length∧i=.int .i64 j∧ov=.slice sa (rI n tb l k j).length sc∧wr.ownsRow w.heap.size 3 1 (.slice sa (rI n tb l k j).length sc) (rI n tb l k j).length (nats (rI n tb l k j))∧w.grownBy wr none)
   case atStart=>exact ⟨0,sa,sc,rfl,rfl,rfl,HOWN.out,HGR.out⟩
   case round =>
    clear HOWN HGR ck
    obtain ⟨j,sa,sc,hg,rfl,rfl,hown,hgr⟩:=hrel
    have HGJ:=Kh hg;have HOWN:=Kh hown;have HGR:=Kh hgr
    have hln:=qAB (n:=n) (tb:=tb) (k:=k) (j:=j) hle (Nat.le_of_lt hk)
    clear hg hown
    by_cases hj:j < l.length
    ·have hj':(j:Int) < l.length:=by omega
     obtain ⟨lb',lo',lc',e,_,_,_,hra⟩:=(HL.out.kept hgr (by simp)).some_ (by rw [zN];omega)
     simp only [Value.slice.injEq,Option.some.injEq,Addr.mk.injEq,and_true] at e
     obtain ⟨⟨rfl,rfl⟩,-,-⟩:=e
     have cj:=hra.nat j hj
     obtain ⟨b,hb⟩:∃ b,b=l.getD j 0:=⟨_,rfl⟩
     have hbN:Hid (b < 2 ^ n):=Kh (by rw [hb];exact nQ HLT.out hj)
     rw [← hb] at cj
     have hst:Hid (rI n tb l k (j+1)=rI n tb l k j ++ [zU n tb a b]):=Kh (by rw [allTo_succ hj,← HA.out,← hb])
     have hgs:=hgr.size
     clear hra hb hgr
     obtain ⟨A,hA⟩:∃ A,A=rI n tb l k j:=⟨_,rfl⟩
     rw [← hA] at HOWN hst hln ⊢
     clear hA
     go_wp2_with fail
     refine (HP.out wr a b HGR.out haN.out hbN.out).mono ?_
     rintro e w2 ⟨rfl,rfl⟩
     obtain ⟨X,hX⟩:∃ X,X=zU n tb a b:=⟨_,rfl⟩
     rw [← hX] at hst ⊢
     clear hX
     go_wp2_with (first|(at_builtin;refine app1 rfl _ _ _ rfl yC w.heap.size _ A.length (nats A) rfl HOWN.out _ rfl rfl ?c1 ?c2 ?c3 ?_)|fail)
     case c1=>unfold maxLen;omega
     case c2=>omega
     case c3=>exact hgs
     intro sa' sc' w3 hown3 hg3 hlt3
     have HO3:=Kh hown3;have HG3:=Kh hg3
     clear hown3 hg3
     go_wp2
     go_roundg (l.length - (j+1))
     case measure=>have:=HGJ.out;omega
     case rel =>
      refine ⟨j+1,sa',sc',by omega,by go_num,by rw [hst.out];simp,?_,zG HGR.out HG3.out (fun q e=>(HOWN.out.lt q e).1)⟩
      rw [hst.out,wE,List.length_append]
      exact HO3.out
    ·have hjl:j=l.length:=by have:=HGJ.out;omega
     have hst:Hid (rI n tb l (k+1) 0=rI n tb l k j ++ [yM n tb a]):=Kh (by rw [allTo_row hk,← HA.out,hjl])
     have hgs:=hgr.size
     clear hjl hgr
     obtain ⟨A,hA⟩:∃ A,A=rI n tb l k j:=⟨_,rfl⟩
     rw [← hA] at HOWN hst hln ⊢
     clear hA
     go_wp2_with fail
     refine (HO.out wr a HGR.out haN.out).mono ?_
     rintro e w2 ⟨rfl,rfl⟩
     obtain ⟨X,hX⟩:∃ X,X=yM n tb a:=⟨_,rfl⟩
     rw [← hX] at hst ⊢
     clear hX
     go_wp2_with (first|(at_builtin;refine app1 rfl _ _ _ rfl yC w.heap.size _ A.length (nats A) rfl HOWN.out _ rfl rfl ?c1 ?c2 ?c3 ?_)|fail)
     case c1=>unfold maxLen;omega
     case c2=>omega
     case c3=>exact hgs
     intro sa' sc' w3 hown3 hg3 hlt3
     have HO3:=Kh hown3;have HG3:=Kh hg3
     clear hown3 hg3
     go_wp2
     go_roundg (l.length - (k+1))
     case measure=>have:=HG.out;omega
     case rel =>
      refine ⟨k+1,sa',sc',by omega,by go_num,by rw [hst.out];simp,?_,zG HGR.out HG3.out (fun q e=>(HOWN.out.lt q e).1)⟩
      rw [hst.out,wE,List.length_append]
      exact HO3.out
  ·obtain ⟨wo,rfl⟩:∃ wo:World,wo=wr:=⟨_,rfl⟩
   have hkl:k=l.length:=by have:=HG.out;omega
   have hA:Hid (rI n tb l k 0=wV n tb l):=Kh (by rw [hkl];exact allTo_end)
   have hln:=qAB (n:=n) (tb:=tb) (k:=k) (j:=0) hle (by omega)
   clear hkl
   rw [hA.out] at HOWN hln ⊢
   have HRL:=Kh (vJ HTB.out HLT.out)
   have hrp:0 < (wV n tb l).length:=by unfold wV;rw [List.length_append];omega
   obtain ⟨A,hAA⟩:∃ A,A=wV n tb l:=⟨_,rfl⟩
   have HAA:=Kh hAA
   rw [← hAA] at HOWN hln HRL hrp ⊢
   have hgs:=hgr.size
   have hp4:=uR hn
   obtain ⟨kb,rfl,hac1,hac2,harr⟩:=yK HOWN.out hrp
   have HRA:=Kh harr.row
   clear hAA hA hgr harr
   go_wp2
   have HM0:=Kh (pM.made wo)
   have HGM:=Kh (Ga wo (.map #[] 0) none)
   go_loopg [11,47] A.length (fun gh ov i wr=>∃ (m:Nat) (sa2:Option Addr) (sc2:Nat) (lst:List Nat),gh+m=A.length∧i=.int .i64 m∧ov=.slice sa2 lst.length sc2∧wr.ownsRow (wo.heap.size+1) 3 1 (.slice sa2 lst.length sc2) lst.length (nats lst)∧pM wr wo.heap.size m lst∧Hid (∀ x,x∈lst ↔ x∈A.take m)∧lst.length≤m∧wo.grownBy wr none∧wo.heap.size+1≤wr.heap.size)
   case atStart=>exact ⟨0,none,0,[],rfl,rfl,rfl,World.ownsRow_nil _ _ _ _,HM0.out,Kh (by simp),Nat.le_refl _,HGM.out,by rw [zO];omega⟩
   case round =>
    clear HM0 HGM
    obtain ⟨m,sa2,sc2,lst,hg,rfl,rfl,hown,hmi,hmem,hlm,hgr,hzt⟩:=hrel
    have HG2:=Kh hg;have HOW2:=Kh hown;have HMI:=Kh hmi;have HGR2:=Kh hgr
    clear hg hown hmi
    by_cases hm:m < A.length
    ·have hm':(m:Int) < A.length:=by omega
     have ck:=(HRA.out.kept hgr (by simp)).nat m hm
     rw [Nat.zero_add] at ck
     obtain ⟨x,hx⟩:∃ x,x=A.getD m 0:=⟨_,rfl⟩
     have hxN:x < 2 ^ n:=by rw [hx];exact nQ HRL.out hm
     have hx62:x < 4611686018427387904:=by omega
     have hst:Hid (A.take (m+1)=A.take m ++ [x]):=Kh (by rw [oZ hm,← hx])
     rw [← hx] at ck
     have hlk:=HMI.out.lookup hx62
     clear hx hgr hxN
     by_cases hin:x∈lst
     ·rw [decide_eq_true hin] at hlk
      have hmem':Hid (∀ y,y∈lst ↔ y∈A.take (m+1)):=Kh (fun y=>by
       rw [hst.out,List.mem_append,List.mem_singleton,← hmem.out y]
       exact ⟨.inl,fun h=>by rcases h with h|rfl <;> assumption⟩)
      clear hin hmem
      go_wp2
      go_roundg (A.length - (m+1))
      case measure=>have:=HG2.out;omega
      case rel=>exact ⟨m+1,sa2,sc2,lst,by omega,by go_num,rfl,HOW2.out,HMI.out.mono (by omega),hmem',by omega,HGR2.out,hzt⟩
     ·rw [decide_eq_false hin] at hlk
      have hmem':Hid (∀ y,y∈lst ++ [x] ↔ y∈A.take (m+1)):=Kh (fun y=>by
       rw [hst.out,List.mem_append,List.mem_append,← hmem.out y])
      clear hin hmem
      go_wp2_with (first|(at_mapUpdate;refine step_in rfl _ _ _ rfl wo.heap.size m lst x rfl rfl rfl HMI.out (by unfold maxLen;omega) hx62 ?_;intro w5 hmi5 hg5;(have hzg5:=hg5.size);(have hown5:=yF HOW2.out hg5 (fun q e=>by have:wo.heap.size=q:=Oj e;omega)))|(at_builtin;refine app1 rfl _ _ _ rfl yC (wo.heap.size+1) _ lst.length (nats lst) rfl hown5 _ rfl rfl ?d1 ?d2 ?d3 ?_)|fail)
      case d1=>unfold maxLen;omega
      case d2=>omega
      case d3=>omega
      intro sa6 sc6 w6 hown6 hg6 hlt6
      have HO6:=Kh hown6
      have HM6:Hid (pM w6 wo.heap.size (m+1) (lst ++ [x])):=Kh ((hmi5.kept hg6 (fun e=>by have:=(hown5.lt _ e).1;omega)).congr (fun y=>by simp;exact or_comm))
      have HG6:Hid (wo.grownBy w6 none):=Kh (zG (zG HGR2.out hg5 (fun q e=>by have:wo.heap.size=q:=Oj e;omega)) hg6 (fun q e=>by have:=(hown5.lt q e).1;omega))
      clear hown6 hg6 hmi5 hg5 hown5 hlk
      go_wp2
      go_roundg (A.length - (m+1))
      case measure=>have:=HG2.out;omega
      case rel =>
       refine ⟨m+1,sa6,sc6,lst ++ [x],by omega,by go_num,by simp,?_,HM6.out,hmem',by simp;omega,HG6.out,by omega⟩
       rw [wE,List.length_append]
       exact HO6.out
    ·have hml:m=A.length:=by have:=HG2.out;omega
     have hmm':Hid (∀ y,y∈lst ↔ y∈A):=Kh (fun y=>by have:=hmem.out y;rw [hml,List.take_of_length_le (Nat.le_refl _)] at this;exact this)
     have hR:Hid (wT n lst=zV n tb l):=Kh (by unfold zV;rw [← HAA.out];exact eC hmm'.out)
     have HX:=Kh (iI wr.heap.size wr _ lst n hn (Nat.le_refl _) (Row.of_owns HOW2.out) (fun b hb=>HRL.out b ((hmm'.out b).1 hb)))
     clear hml hmem
     go_wp2_with fail
     refine HX.out.mono ?_
     rintro e w7 ⟨sa7,sc7,rfl,hown7,hg7⟩
     have hgf:=zG (zG HGR.out HGR2.out (by simp)) hg7 (by simp)
     have hz7:=HGR2.out.size
     rw [hR.out] at hown7 ⊢
     have HO7:=Kh hown7;have HGF:=Kh hgf
     obtain ⟨RS,hRS⟩:∃ RS,RS=zV n tb l:=⟨_,rfl⟩
     have HRS:=Kh hRS
     rw [← hRS] at HO7 ⊢
     clear hown7 hg7 hgf hRS
     go_wp2
     go_ret
     exact ⟨sa7,sc7,by rw [← HRS.out];rfl,by rw [← HRS.out];exact yJ HO7.out (by omega),HGF.out⟩
end Go.Proofs.YtdjhoadoiknaoaaDoor
namespace Go.Proofs.YtdjhoadoiknaoaaDoor
open Go.RowKit
theorem Arr.ne {w:World} {g pb e e':Nat} {xs:List Value} {cs:Array Value} {m:Nat × Nat} (h:Arr w g e xs) (hb:w.heap[pb]?=some (.cells cs e' m)) (hne:e≠e'):g≠pb:=by
 rintro rfl
 obtain ⟨cur,rest,h1,_⟩:=h
 rw [h1] at hb
 simp only [Option.some.injEq,Obj.cells.injEq] at hb
 exact hne hb.2.1
theorem bJ {l m:List Nat}:decide ((l.map fun (x:Nat)=>(x:Int))=m.map fun (x:Nat)=>(x:Int))=decide (l=m):=by
 rw [← qBY (l:=l) (m:=m),Bool.eq_iff_iff,decide_eq_true_eq,beq_iff_eq]
theorem fam_set' {w:World} {b:Nat} {x y:Value} {e:Nat} (h:w.heap[b]?=some (.cells #[x,y] e (0,0))) (x' y':Value) :
  ((w.setCell ⟨b,1,none⟩ y').setCell ⟨b,0,none⟩ x').heap[b]?=some (.cells #[x',y'] e (0,0)):=by
 have h1:=heap_setCell_same w b 1 _ _ y' h
 have h2:=heap_setCell_same _ b 0 _ _ x' h1
 rw [h2];simp
theorem fam_same {n:Nat} {zs:List Int} (h0:¬ zs.length=0) (h:oR n zs zs.length=true):decide (zs=(wT n (natL zs)).map fun (x:Nat)=>(x:Int))=famB n zs:=by
 have hzs:zs=(natL zs).map fun (x:Nat)=>(x:Int):=by
  refine List.ext_getElem (by simp [natL]) fun i h1 h2=>?_
  have:=lU h h1
  simp only [dB,setB,List.getD,List.getElem?_eq_getElem h1,Option.getD_some,Bool.and_eq_true,decide_eq_true_eq] at this
  simp only [natL,List.getElem_map]
  omega
 rw [Bool.eq_iff_iff,decide_eq_true_eq]
 constructor
 ·intro e
  rw [qDC (by omega) h,decide_eq_true_eq]
  have:=congrArg List.length e
  rw [List.length_map] at this
  exact this.symm
 ·intro e
  have hf:=(qBT e).1.2
  have hf':wT n (natL zs)=natL zs:=hf
  rw [hf'];exact hzs
set_option maxHeartbeats 800000 in
theorem radvance_any (B:Nat) (w:World) (v iv sv:Value) (t:List (List Int)) (im zs:List Int) (d:Bool) (bud:Int) (hB:B≤w.heap.size) (h:Mat B w v t) (hi:Row B w iv (ints im)) (hs:Row B w sv (ints zs)) :
  Calls Tryd.prog 28 #[v,iv,.agg #[sv,.bool d],.int .i64 bud] w (AdvOk w t im zs d bud):=by
 have H:=Kh h;have HI:=Kh hi
 have hzl:=hs.len_le
 rw [zM] at hzl
 unfold maxLen at hzl
 obtain ⟨sa,sc,rfl⟩:=hs.shape
 rw [zM] at hs ⊢
 have HS:=Kh hs
 clear h hi hs
 go_enter Tryd.func28,Tryd.ntmps28
 go_wp2_with fail
 obtain ⟨wA,hWA⟩:∃ wA,wA=(w.alloc (.cells #[.slice sa zs.length sc,.bool d] 49)).alloc (.cells #[.slice none 0 0,.bool false] 49):=⟨_,rfl⟩
 obtain ⟨h1,h2,h3,hzA⟩:=qQ w #[.slice sa zs.length sc,.bool d] #[.slice none 0 0,.bool false] 49
 rw [← hWA] at h1 h2 h3 hzA ⊢
 have HB1:=Kh h1;have HB2:=Kh h2;have HGA:=Kh h3
 clear hWA h1 h2 h3
 refine (bB B wA v iv t im (H.out.kept HGA.out (by simp)) (HI.out.kept HGA.out (by simp))).mono ?_
 rintro e w1 ⟨rfl,hd1⟩
 have hg1:wA.grownBy w1 none:=by obtain ⟨m,rfl⟩:=hd1;exact zJ _ _ _
 clear hd1
 have hz1:=hg1.size
 have HC1:=Kh (zE HB1.out hg1 (by simp));have HC2:=Kh (zE HB2.out hg1 (by simp))
 have HG1:=Kh (zF HGA.out hg1)
 have cr0:=zI HC2.out 0 (by simp)
 have cr1:=zI HC2.out 1 (by simp)
 have fr0:=zD HC2.out 0
 have fr1:=zD HC2.out 1
 have cb0:=zI HC1.out 0 (by simp)
 have cb1:=zI HC1.out 1 (by simp)
 simp only [List.getElem_toArray,List.getElem_cons_zero,List.getElem_cons_succ] at cr0 cr1 cb0 cb1
 clear hg1 HB1 HB2 HGA
 by_cases hz:yS t im=0
 ·rw [hz]
  have HZ:=Kh hz
  have hgd:=uP.1 hz
  have HGD:=Kh hgd
  have hle:=hgd.le
  have hva:=hgd.valid
  have HTB:=Kh (oK hva)
  have HVA:=Kh hva
  clear hz hgd hva
  by_cases hb:bud < 1∨1048576 < bud
  ·have HE:=Kh (advE_arg (zs:=zs) HZ.out hb)
   have hfin:∀ wr:World,AdvOk w t im zs d bud (.returned (.tuple #[.agg #[.slice none 0 0,.bool false],.int .i64 1])) ((w1.setCell ⟨w.heap.size+1,0,none⟩ (.slice none 0 0)).setCell ⟨w.heap.size+1,1,none⟩ (.bool false)):=fun _=>⟨qU HG1.out (by omega) _ _,.inl (by rw [HE.out];exact ⟨by omega,rfl⟩)⟩
   have HFIN:=Kh hfin
   clear hfin
   by_cases hb1:bud < 1
   ·clear hb
    go_wp2
    exact bodyPost_ret (v:=.tuple #[.agg #[.slice none 0 0,.bool false],.int .i64 1]) (by simp [results,Tryd.results28,go_sem,cr0,cr1]) rfl (HFIN.out w)
   ·have hb2:1048576 < bud:=by omega
    clear hb
    go_wp2
    exact bodyPost_ret (v:=.tuple #[.agg #[.slice none 0 0,.bool false],.int .i64 1]) (by simp [results,Tryd.results28,go_sem,cr0,cr1]) rfl (HFIN.out w)
  ·have hb1:1≤bud:=by omega
   have hb2:bud≤1048576:=by omega
   have HBU:=Kh hb
   obtain ⟨ta,tc,rfl⟩:=H.out.shape
   clear hb
   have hfin:∀ W,w1.grownBy W none→famB t.length zs=false→AdvOk w t im zs d bud (.returned (.tuple #[.agg #[.slice none 0 0,.bool false],.int .i64 8])) ((W.setCell ⟨w.heap.size+1,0,none⟩ (.slice none 0 0)).setCell ⟨w.heap.size+1,1,none⟩ (.bool false)):=fun W hW hf=>by
    have HE:=advE_fam (im:=im) (bud:=bud) HZ.out HBU.out hf
    exact ⟨qU (zF HG1.out hW) (by omega) _ _,.inl (by rw [HE];exact ⟨by omega,rfl⟩)⟩
   have HFIN:=Kh hfin
   clear hfin
   go_wp2
   go_loopg [33] zs.length (fun g i wr=>∃ k:Nat,g+k=zs.length∧i=.int .i64 k∧oR t.length zs k=true∧w1=wr)
   case atStart=>exact ⟨0,rfl,rfl,rfl,rfl⟩
   case round =>
    obtain ⟨y,hg,rfl,hok,rfl⟩:=hrel
    have OKY:=Kh hok;have HGY:=Kh hg;clear hok hg
    by_cases hy:y < zs.length
    ·obtain ⟨ib,io,icc,e,_,_,_,hra⟩:=(HS.out.kept HG1.out (by simp)).some_ (by rw [zM];omega)
     simp only [Value.slice.injEq] at e
     obtain ⟨rfl,-,-⟩:=e
     have hcy:=hra.int y hy
     obtain ⟨z,hz⟩:∃ z,z=zs.getD y 0:=⟨_,rfl⟩
     rw [← hz] at hcy
     have HZY:=Kh hz;have RA:=Kh hra;clear hz hra
     by_cases hb3:z=0
     ·have HF:Hid (famB t.length zs=false):=Kh (qAQ (bF (i:=y) (by rw [jS HZY.out rfl,hb3];rfl) hy))
      subst hb3
      go_wp2
      exact bodyPost_ret (v:=.tuple #[.agg #[.slice none 0 0,.bool false],.int .i64 8]) (by simp [results,Tryd.results28,go_sem,cr0,cr1]) rfl (HFIN.out _ (zW _ _) HF.out)
     ·have e1:(z == 0)=false:=by rw [beq_eq_false_iff_ne];exact hb3
      cases hs:setB t.length z with
      | false =>
       have HF:Hid (famB t.length zs=false):=Kh (qAQ (bF (i:=y) (by rw [jS HZY.out rfl,hs];simp) hy))
       go_wp2_with fail
       refine (mT w1 ta t.length tc z hle).mono ?_
       rintro e w2 ⟨rfl,rfl⟩
       rw [hs]
       go_wp2
       exact bodyPost_ret (v:=.tuple #[.agg #[.slice none 0 0,.bool false],.int .i64 8]) (by simp [results,Tryd.results28,go_sem,cr0,cr1]) rfl (HFIN.out _ (zW _ _) HF.out)
      | true =>
       have HSB:=Kh hs
       clear hs
       rcases y with _|x
       ·have hcy0:w1.cell? ⟨ib,io,none⟩=some (.int .i64 z):=hcy
        have HF:Hid (oR t.length zs (0+1)=true):=Kh (by rw [dZ,OKY.out,jS HZY.out rfl,HSB.out];simp [hb3])
        go_wp2_with fail
        refine (mT w1 ta t.length tc z hle).mono ?_
        rintro e w2 ⟨rfl,rfl⟩
        rw [HSB.out]
        go_wp2
        go_roundg (zs.length - 1)
        case measure=>have:=HGY.out;omega
        case rel=>exact ⟨0+1,by omega,by go_num,HF.out,rfl⟩
       ·have hcx:=RA.out.int x (by omega)
        obtain ⟨u,hu⟩:∃ u,u=zs.getD x 0:=⟨_,rfl⟩
        rw [← hu] at hcx
        have HU:=Kh hu;clear hu
        by_cases hlt:u < z
        ·have HF:Hid (oR t.length zs (x+1+1)=true):=Kh (by rw [dZ,OKY.out,jS HZY.out HU.out,HSB.out];simp [hb3,hlt])
         go_wp2_with fail
         refine (mT w1 ta t.length tc z hle).mono ?_
         rintro e w2 ⟨rfl,rfl⟩
         rw [HSB.out]
         go_wp2
         go_roundg (zs.length - (x+1+1))
         case measure=>have:=HGY.out;omega
         case rel=>exact ⟨x+1+1,by omega,by go_num,HF.out,rfl⟩
        ·have HF:Hid (famB t.length zs=false):=Kh (qAQ (bF (i:=x+1) (by rw [jS HZY.out HU.out,HSB.out];simp [hlt]) hy))
         go_wp2_with fail
         refine (mT w1 ta t.length tc z hle).mono ?_
         rintro e w2 ⟨rfl,rfl⟩
         rw [HSB.out]
         go_wp2
         exact bodyPost_ret (v:=.tuple #[.agg #[.slice none 0 0,.bool false],.int .i64 8]) (by simp [results,Tryd.results28,go_sem,cr0,cr1]) rfl (HFIN.out _ (zW _ _) HF.out)
    ·have hyl:y=zs.length:=by have:=HGY.out;omega
     have HFT:Hid (oR t.length zs zs.length=true):=Kh (by rw [← hyl];exact OKY.out)
     clear hyl
     by_cases h0:zs.length=0
     ·have HF:=Kh (famB_nil (n:=t.length) h0)
      have e0:((zs.length:Int) == 0)=true:=by rw [beq_iff_eq];omega
      go_wp2
      go_quiet (fail)
      go_wp2
      exact bodyPost_ret (v:=.tuple #[.agg #[.slice none 0 0,.bool false],.int .i64 8]) (by simp [results,Tryd.results28,go_sem,cr0,cr1]) rfl (HFIN.out _ (zJ _ _ _) HF.out)
     ·have e0:((zs.length:Int) == 0)=false:=by rw [beq_eq_false_iff_ne];omega
      obtain ⟨M,hM⟩:∃ M,M=wT t.length (natL zs):=⟨_,rfl⟩
      obtain ⟨F,hF⟩:∃ F,F=famB t.length zs:=⟨_,rfl⟩
      have hfs:=fam_same h0 HFT.out
      rw [← hM,← hF] at hfs
      have HMX:Hid (∀ W,w1.grownBy W none→Calls Tryd.prog 62 #[.slice sa zs.length sc] W fun e w'=>∃ sa' sc',e=.returned (.slice sa' M.length sc')∧Row w'.heap.size w' (.slice sa' M.length sc') (nats M)∧w1.grownBy w' none):=Kh (fun W hW=>by
       have hr:=HS.out.kept (zF HG1.out hW) (by simp)
       rw [aS HFT.out] at hr
       refine (iI B W _ (natL zs) t.length hle (by have:=hW.size;omega) hr (qAN HFT.out)).mono ?_
       rintro e w' ⟨sa',sc',rfl,ho,hg⟩
       rw [← hM] at ho ⊢
       exact ⟨sa',sc',rfl,Row.of_owns ho,zF hW hg⟩)
      have HSM:Hid (∀ W sa' sc' C,w1.grownBy W none→Row C W (.slice sa' M.length sc') (nats M)→Calls Tryd.prog 67 #[.slice sa zs.length sc,.slice sa' M.length sc'] W fun e w'=>e=.returned (.bool F)∧w1.grownBy w' none):=Kh (fun W sa' sc' C hW hr=>by
       rw [qCH] at hr
       refine (dN B C W _ _ zs (M.map fun (x:Nat)=>(x:Int)) (HS.out.kept (zF HG1.out hW) (by simp)) hr).mono ?_
       rintro e w' ⟨rfl,m,rfl⟩
       exact ⟨by rw [hfs],zF hW (zJ _ _ _)⟩)
      have HCB:Hid (∀ W,w1.grownBy W none→W.cell? ⟨w.heap.size,0,none⟩=some (.slice sa zs.length sc)):=Kh (fun W hW=>by
       have:=zI (zE HC1.out hW (by simp)) 0 (by simp)
       simpa using this)
      have GA:w1.grownBy w1.drew none:=zT _ _
      have HFF:=Kh hF
      clear hM hF hfs
      go_wp2
      go_region_held3 (fun w'=>w'.cell? ⟨w.heap.size,0,none⟩=some (.slice sa zs.length sc))
       (first|go_keep|exact HCB.out _ hG7|exact HCB.out _ hG8|fail)
       (first|(go_at_call 62;(with_reducible refine (HMX.out _ GA).mono ?_);rintro e w7 ⟨sa7,sc7,rfl,hrow7,hG7⟩)|(go_at_call 67;refine (HSM.out _ _ _ _ hG7 hrow7).mono ?_;rintro e w8 ⟨rfl,hG8⟩)|fail)
      have HD1:=Kh (zE HC1.out hG8 (by simp));have HD2:=Kh (zE HC2.out hG8 (by simp))
      have HG8:=Kh (zF HG1.out hG8)
      have hz8:=hG8.size
      have HG18:=Kh hG8
      clear hrow7 hG7 hG8 GA HMX HSM HCB cb0 cb1 cr0 cr1 fr0 fr1
      have cr0:=zI HD2.out 0 (by simp)
      have cr1:=zI HD2.out 1 (by simp)
      have fr0:=zD HD2.out 0
      have fr1:=zD HD2.out 1
      simp only [List.getElem_toArray,List.getElem_cons_zero,List.getElem_cons_succ] at cr0 cr1
      cases F with
      | false =>
       go_wp2
       exact bodyPost_ret (v:=.tuple #[.agg #[.slice none 0 0,.bool false],.int .i64 8]) (by simp [results,Tryd.results28,go_sem,cr0,cr1]) rfl (HFIN.out _ HG18.out HFF.out.symm)
      | true =>
       clear cr0 cr1 fr0 fr1 HFIN
       obtain ⟨hfam,hpos,hin⟩:=qBT HFF.out.symm
       have HFAM:=Kh hfam
       have hln:=nJ zs
       have hlz:zs.length≤2 ^ t.length:=by rw [← hln];have:=gW t.length (natL zs);rw [hfam.2] at this;exact this
       have hp4:=uR hle
       obtain ⟨l0,hl0⟩:∃ l0,l0=natL zs:=⟨_,rfl⟩
       have HL0:=Kh hl0
       rw [← hl0] at HFAM hpos hln hin
       have HRW:Hid (∀ W,w8.grownBy W none→Row B W (.slice sa l0.length sc) (nats l0)):=Kh (fun W hW=>by rw [← hin,hln];exact HS.out.kept (zF HG8.out hW) (by simp))
       have HCB:Hid (∀ W,w8.grownBy W none→W.cell? ⟨w.heap.size,0,none⟩=some (.slice sa l0.length sc)∧W.cell? ⟨w.heap.size,1,none⟩=some (.bool d)):=Kh (fun W hW=>by
        have q1:=zI (zE HD1.out hW (by simp)) 0 (by simp)
        have q2:=zI (zE HD1.out hW (by simp)) 1 (by simp)
        rw [hln]
        exact ⟨by simpa using q1,by simpa using q2⟩)
       rw [← hln]
       have hll:l0.length≤4096:=by omega
       clear hfam hin hl0 hln hlz e0
       have cb:=HCB.out w8 (zW _ _)
       have cb0:=cb.1
       have cb1:=cb.2
       clear cb
       have cb0':w8.drew.cell? ⟨w.heap.size,0,none⟩=some (.slice sa l0.length sc):=cb0
       have cb1':w8.drew.cell? ⟨w.heap.size,1,none⟩=some (.bool d):=cb1
       go_upto_region 14 with fail
       go_region_held3 (fun w'=>w'.cell? ⟨w.heap.size,0,none⟩=some (.slice sa l0.length sc)∧w'.cell? ⟨w.heap.size,1,none⟩=some (.bool d))
        (first|exact ⟨cb0',cb1'⟩|exact HCB.out _ (zP (Ga w8 _ none) rfl rfl rfl rfl)|exact HCB.out _ (zP (yA (Ga w8 _ none) _) rfl rfl rfl rfl)|exact HCB.out _ hG9|exact HCB.out _ (yA hG9 _)|exact HCB.out _ (qU hG9 (Nat.le_refl _) _ _)|exact HCB.out _ (qU hG9 (Nat.le_succ _) _ _)|exact HCB.out _ (qU (yA hG9 _) hG9.size _ _)|go_keep|fail)
        (first|(refine xU rfl (.tmp 76) (.tmp 78) 22 rfl yC w8.heap.size (.slice (some ⟨w8.heap.size,0,none⟩) 0 0) 0 [] rfl ?g4 _ (nats l0) rfl ?g6 (uE _) l0.length ?g8 ?g9 ?g10 ?g11 ?_;(case g4=>first|exact yQ (heap_alloc_new w8 _) (Nat.le_refl _)|exact yQ (xS w8 _ _) (Nat.le_refl _));(case g6=>first|exact ⟨_,HRW.out _ (zP (Ga w8 _ none) rfl rfl rfl rfl)⟩|exact ⟨_,HRW.out _ (zP (yA (Ga w8 _ none) _) rfl rfl rfl rfl)⟩);(case g8=>(simp [nats] <;> omega));(case g9=>(unfold maxLen;omega));(case g10=>omega);(case g11=>first|omega|(simp <;> omega));intro s9 c9 w9 hown9 hg9;rw [List.nil_append] at hown9;(have hG9:w8.grownBy w9 none:=by refine zG ?_ hg9 (by simp [Value.ownBlock]);first|exact zP (Ga w8 _ none) rfl rfl rfl rfl|exact zP (yA (Ga w8 _ none) _) rfl rfl rfl rfl);(try (have hb9:=zE (wF (xQ w8 _ (.cells #[.slice none 0 0,.bool false] 49))) hg9 (by simp [Value.ownBlock]);have cx0:=zI hb9 0 (by simp);have cx1:=zI hb9 1 (by simp);have fx0:=zD hb9 0;have fx1:=zD hb9 1;simp only [List.getElem_toArray,List.getElem_cons_zero,List.getElem_cons_succ] at cx0 cx1)))|(refine xU rfl (.tmp 76) (.tmp 78) 22 rfl yC w8.heap.size (.slice (some ⟨w8.heap.size+1,0,none⟩) 0 0) 0 [] rfl ?g4 _ (nats l0) rfl ?g6 (uE _) l0.length ?g8 ?g9 ?g10 ?g11 ?_;(case g4=>exact yQ (xQ w8 _ _) (Nat.le_succ _));(case g6=>exact ⟨_,HRW.out _ (zP (yA (Ga w8 _ none) _) rfl rfl rfl rfl)⟩);(case g8=>(simp [nats] <;> omega));(case g9=>(unfold maxLen;omega));(case g10=>omega);(case g11=>first|omega|(simp <;> omega));intro s9 c9 w9 hown9 hg9;rw [List.nil_append] at hown9;(have hG9:w8.grownBy w9 none:=by refine zG ?_ hg9 (by simp [Value.ownBlock]);exact zP (yA (Ga w8 _ none) _) rfl rfl rfl rfl);(try (have hb9:=zE (wF (xS w8 (.cells #[.slice none 0 0,.bool false] 49) _)) hg9 (by simp [Value.ownBlock]);have cx0:=zI hb9 0 (by simp);have cx1:=zI hb9 1 (by simp);have fx0:=zD hb9 0;have fx1:=zD hb9 1;simp only [List.getElem_toArray,List.getElem_cons_zero,List.getElem_cons_succ] at cx0 cx1)))|fail)
       obtain ⟨k9,rfl,hc91,hc92,harr9⟩:=yK hown9 hpos
       have hk9:=(hown9.lt k9 rfl).1
       have hk9':=(hown9.lt k9 rfl).2
       obtain ⟨wX,hwX⟩:∃ wX,wX=w9.alloc (.cells #[.slice (some ⟨k9,0,none⟩) l0.length c9,.bool d] 49):=⟨_,rfl⟩
       have HPX:Hid (wX.heap[w9.heap.size]?=some (.cells #[.slice (some ⟨k9,0,none⟩) l0.length c9,.bool d] 49 (0,0))):=Kh (by rw [hwX];exact heap_alloc_new w9 _)
       have hgX:w9.grownBy wX (some (w9.heap.size)):=by rw [hwX];exact Ga _ _ _
       have hne9:k9≠w9.heap.size:=by omega
       have HHX:Hid (Held 0 0 (w9.heap.size) wX k9 c9 l0):=Kh ((Held.of_owns hown9 hpos (.inr (Nat.zero_le _)) hne9).kept hgX (fun e=>hne9 (Oj e).symm))
       have hpq8:w8.heap.size≤w9.heap.size:=hG9.size
       have HG8X:Hid (w8.grownBy wX none):=Kh (zG hG9 hgX (fun q e=>by have:=Oj e;omega))
       rw [← hwX]
       obtain ⟨pb,hpb⟩:∃ pb,pb=w9.heap.size:=⟨_,rfl⟩
       have hpb8:w8.heap.size≤pb:=by rw [hpb];exact hpq8
       rw [← hpb] at HPX HHX ⊢
       clear hpb hwX hgX hne9 harr9
       rotate_left
       obtain ⟨k9,rfl,hc91,hc92,harr9⟩:=yK hown9 hpos
       have hk9:=(hown9.lt k9 rfl).1
       have hk9':=(hown9.lt k9 rfl).2
       obtain ⟨wX,hwX⟩:∃ wX,wX=(w9.setCell ⟨w8.heap.size+1,0,none⟩ (.slice (some ⟨k9,0,none⟩) l0.length c9)).setCell ⟨w8.heap.size+1,1,none⟩ (.bool d):=⟨_,rfl⟩
       have HPX:Hid (wX.heap[w8.heap.size+1]?=some (.cells #[.slice (some ⟨k9,0,none⟩) l0.length c9,.bool d] 49 (0,0))):=Kh (by rw [hwX];exact eK hb9 _ _)
       have hgX:w9.grownBy wX (some (w8.heap.size+1)):=by rw [hwX];exact zF (zH w9 ⟨w8.heap.size+1,0,none⟩ _) (zH (w9.setCell ⟨w8.heap.size+1,0,none⟩ (.slice (some ⟨k9,0,none⟩) l0.length c9)) ⟨w8.heap.size+1,1,none⟩ _)
       have hne9:k9≠w8.heap.size+1:=harr9.ne hb9 (by decide)
       have HHX:Hid (Held 0 0 (w8.heap.size+1) wX k9 c9 l0):=Kh ((Held.of_owns hown9 hpos (.inr (Nat.zero_le _)) hne9).kept hgX (fun e=>hne9 (Oj e).symm))
       have hpq8:w8.heap.size≤w8.heap.size+1:=Nat.le_succ _
       have HG8X:Hid (w8.grownBy wX none):=Kh (zG hG9 hgX (fun q e=>by have:=Oj e;omega))
       rw [← hwX]
       obtain ⟨pb,hpb⟩:∃ pb,pb=w8.heap.size+1:=⟨_,rfl⟩
       have hpb8:w8.heap.size≤pb:=by rw [hpb];exact hpq8
       rw [← hpb] at HPX HHX ⊢
       clear hpb hwX hgX hne9 harr9
       rotate_left
       obtain ⟨k9,rfl,hc91,hc92,harr9⟩:=yK hown9 hpos
       have hk9:=(hown9.lt k9 rfl).1
       have hk9':=(hown9.lt k9 rfl).2
       obtain ⟨wX,hwX⟩:∃ wX,wX=(w9.setCell ⟨w8.heap.size,0,none⟩ (.slice (some ⟨k9,0,none⟩) l0.length c9)).setCell ⟨w8.heap.size,1,none⟩ (.bool d):=⟨_,rfl⟩
       have HPX:Hid (wX.heap[w8.heap.size]?=some (.cells #[.slice (some ⟨k9,0,none⟩) l0.length c9,.bool d] 49 (0,0))):=Kh (by rw [hwX];exact eK hb9 _ _)
       have hgX:w9.grownBy wX (some (w8.heap.size)):=by rw [hwX];exact zF (zH w9 ⟨w8.heap.size,0,none⟩ _) (zH (w9.setCell ⟨w8.heap.size,0,none⟩ (.slice (some ⟨k9,0,none⟩) l0.length c9)) ⟨w8.heap.size,1,none⟩ _)
       have hne9:k9≠w8.heap.size:=harr9.ne hb9 (by decide)
       have HHX:Hid (Held 0 0 (w8.heap.size) wX k9 c9 l0):=Kh ((Held.of_owns hown9 hpos (.inr (Nat.zero_le _)) hne9).kept hgX (fun e=>hne9 (Oj e).symm))
       have hpq8:w8.heap.size≤w8.heap.size:=Nat.le_refl _
       have HG8X:Hid (w8.grownBy wX none):=Kh (zG hG9 hgX (fun q e=>by have:=Oj e;omega))
       rw [← hwX]
       obtain ⟨pb,hpb⟩:∃ pb,pb=w8.heap.size:=⟨_,rfl⟩
       have hpb8:w8.heap.size≤pb:=by rw [hpb];exact hpq8
       rw [← hpb] at HPX HHX ⊢
       clear hpb hwX hgX hne9 harr9
       rotate_left
       all_goals
        (try clear hb9 cx0 cx1 fx0 fx1)
        clear hown9 hg9 hG9 cb0 cb1 cb0' cb1'
        have HPR:=Kh (zE HD2.out HG8X.out (by simp))
        have HGX:=Kh (zF HG8.out HG8X.out)
        have HAX:Hid (Adv t.length (entN t) (l0,d) 0 l0 d):=Kh ⟨HFAM.out,rfl⟩
        have HTB':=HTB
        go_wp2
        go_loopg [14] bud.toNat (fun gh i wr=>∃ (k kk sk:Nat) (l:List Nat) (dd:Bool),gh+k=bud.toNat∧i=.int .i64 k∧Adv t.length (entN t) (l0,d) k l dd∧0 < l.length∧w8.heap.size≤kk∧Held 0 0 pb wr kk sk l∧w.grownBy wr none∧wr.heap[pb]?=some (.cells #[.slice (some ⟨kk,0,none⟩) l.length sk,.bool dd] 49 (0,0))∧wr.heap[w.heap.size+1]?=some (.cells #[.slice none 0 0,.bool false] 49 (0,0)))
        case atStart=>exact ⟨0,k9,c9,l0,d,rfl,rfl,HAX.out,hpos,hk9,HHX.out,HGX.out,HPX.out,HPR.out⟩
        case round =>
         clear HAX HHX HGX HPX HPR
         obtain ⟨k,kk,sk,l,dd,hg,rfl,hadv,hpl,hkk,hhe,hgr,hp1,hp2⟩:=hrel
         have HG:=Kh hg;have HAD:=Kh hadv;have HHE:=Kh hhe;have HGR:=Kh hgr;have HP1:=Kh hp1;have HP2:=Kh hp2
         have cb0:=zI hp1 0 (by simp)
         have cb1:=zI hp1 1 (by simp)
         have fb0:=zD hp1 0
         have fb1:=zD hp1 1
         have cr0:=zI hp2 0 (by simp)
         have cr1:=zI hp2 1 (by simp)
         have fr0:=zD hp2 0
         have fr1:=zD hp2 1
         simp only [List.getElem_toArray,List.getElem_cons_zero,List.getElem_cons_succ] at cb0 cb1 cr0 cr1
         have hpbl:=zQ hp1
         clear hg hadv hhe hgr hp1 hp2
         have hfin:(advL t zs d bud)=(l,dd)→AdvOk w t im zs d bud (.returned (.tuple #[.agg #[.slice (some ⟨kk,0,none⟩) l.length sk,.bool dd],.int .i64 0])) ((wr.setCell ⟨w.heap.size+1,0,none⟩ (.slice (some ⟨kk,0,none⟩) l.length sk)).setCell ⟨w.heap.size+1,1,none⟩ (.bool dd)):=by
          intro he
          have hE:=qDK (im:=im) HZ.out HBU.out HFF.out.symm
          refine ⟨qU HGR.out (by omega) _ _,.inr ⟨hE,_,by rw [he],?_⟩⟩
          rw [he]
          have hss:wr.grownBy ((wr.setCell ⟨w.heap.size+1,0,none⟩ (.slice (some ⟨kk,0,none⟩) l.length sk)).setCell ⟨w.heap.size+1,1,none⟩ (.bool dd)) (some (w.heap.size+1)):=zF (zH wr ⟨w.heap.size+1,0,none⟩ _) (zH (wr.setCell ⟨w.heap.size+1,0,none⟩ (.slice (some ⟨kk,0,none⟩) l.length sk)) ⟨w.heap.size+1,1,none⟩ _)
          exact (HHE.out.kept hss (fun e=>by have:w.heap.size+1=kk:=Oj e;omega)).rowO.row
         have HFIN:=Kh hfin
         clear hfin
         by_cases hk:(k:Int) < bud
         ·cases dd with
          | true =>
           have HX:Hid (advL t zs d bud=(l,true)):=Kh (by unfold advL;rw [← HL0.out];exact HAD.out.stop (by omega))
           go_wp2
           exact bodyPost_ret (v:=.tuple #[.agg #[.slice (some ⟨kk,0,none⟩) l.length sk,.bool true],.int .i64 0]) (by simp [results,Tryd.results28,go_sem,cr0,cr1]) rfl (HFIN.out HX.out)
          | false =>
           clear HFIN
           have hRR:=rround_any wr.heap.size wr _ (.slice (some ⟨kk,0,none⟩) l.length sk) t l (Nat.le_refl _) ((H.out.kept HGR.out (by simp)).mono (by have:=HGR.out.size;omega)) HVA.out hle HHE.out.rowO.row HAD.out.1.1 hpl (by have:=HAD.out.le;omega)
           have HRR:=Kh hRR
           clear hRR
           go_wp2_with fail
           refine HRR.out.mono ?_
           rintro e w6 ⟨sa6,sc6,rfl,hown6,hg6⟩
           have hpos6:=gP HTB.out HAD.out.1.1 hpl
           obtain ⟨k6,rfl,hc1,hc2,_⟩:=yK hown6 hpos6
           have hk6:=hown6.lt k6 rfl
           have hz68:w8.heap.size≤k6:=by have:=HGR.out.size;have:=HHE.out.row.1;omega
           have HGN:=Kh (HAD.out.step HTB.out)
           have HH6:Hid (Held 0 0 pb w6 k6 sc6 (zV t.length (entN t) l)):=Kh (Held.of_owns hown6 hpos6 (.inr (Nat.zero_le _)) (by omega))
           have HSA:=Kh (dN w6.heap.size w6.heap.size w6 _ _ ((zV t.length (entN t) l).map fun (x:Nat)=>(x:Int)) (l.map fun (x:Nat)=>(x:Int)) (by have:=HH6.out.rowO.row;rw [qCH] at this;exact this) (by have:=(HHE.out.kept hg6 (by simp)).rowO.row;rw [qCH] at this;exact this))
           rw [bJ] at HSA
           obtain ⟨R,hR⟩:∃ R,R=zV t.length (entN t) l:=⟨_,rfl⟩
           obtain ⟨D,hD⟩:∃ D,D=decide (zV t.length (entN t) l=l):=⟨_,rfl⟩
           rw [← hD,← hR] at HGN
           rw [← hD] at HSA
           rw [← hR] at hown6 hpos6 hc1 HH6 HSA ⊢
           have hr6:=zE HP1.out hg6 (by simp)
           have HR6:=Kh hr6
           have HQ6:=Kh (zE HP2.out hg6 (by simp))
           have cb0':=zI hr6 0 (by simp)
           have cb1':=zI hr6 1 (by simp)
           have fb0':=zD hr6 0
           have fb1':=zD hr6 1
           simp only [List.getElem_toArray,List.getElem_cons_zero,List.getElem_cons_succ] at cb0' cb1'
           have HG6:Hid (w.grownBy w6 none):=Kh (zF HGR.out hg6)
           clear hown6 hg6 hr6 hR hD cb0 cb1 fb0 fb1 cr0 cr1 fr0 fr1
           go_wp2_with fail
           refine HSA.out.mono ?_
           rintro e w7 ⟨rfl,m,rfl⟩
           go_wp2
           have hs7:w6.grownBy (((w6.drewN m).setCell ⟨pb,1,none⟩ (.bool D)).setCell ⟨pb,0,none⟩ (.slice (some ⟨k6,0,none⟩) R.length sc6)) (some pb) :=
            zF (zF (zJ w6 m _) (zH (w6.drewN m) ⟨pb,1,none⟩ _)) (zH ((w6.drewN m).setCell ⟨pb,1,none⟩ (.bool D)) ⟨pb,0,none⟩ _)
           have HR7:=Kh (fam_set' (w:=w6.drewN m) HR6.out (.slice (some ⟨k6,0,none⟩) R.length sc6) (.bool D))
           have HG7:=Kh hs7
           clear hs7
           go_roundg (bud.toNat - (k+1))
           case measure=>have:=HG.out;omega
           case rel=>exact ⟨k+1,k6,sc6,R,D,by omega,by go_num,HGN.out,hpos6,hz68,HH6.out.kept HG7.out (fun e=>by have:pb=k6:=Oj e;have:=HH6.out.nb;omega),zG HG6.out HG7.out (fun x e=>by have:pb=x:=Oj e;omega),HR7.out,zE HQ6.out HG7.out (fun e=>by have:pb=w.heap.size+1:=Oj e;omega)⟩
         ·have HX:Hid (advL t zs d bud=(l,dd)):=Kh (by unfold advL;rw [← HL0.out];rw [show bud.toNat=k by have:=HG.out;omega];exact HAD.out.2)
          go_wp2
          exact bodyPost_ret (v:=.tuple #[.agg #[.slice (some ⟨kk,0,none⟩) l.length sk,.bool dd],.int .i64 0]) (by simp [results,Tryd.results28,go_sem,cr0,cr1]) rfl (HFIN.out HX.out)
 ·have HE:=Kh (advE_check (zs:=zs) (bud:=bud) hz)
  obtain ⟨E,hE⟩:∃ E,E=yS t im:=⟨_,rfl⟩
  rw [← hE] at hz HE ⊢
  have e1:(E != 0)=true:=by rw [bne_iff_ne];exact hz
  clear hE
  go_wp2
  exact bodyPost_ret (v:=.tuple #[.agg #[.slice none 0 0,.bool false],.int .i64 E]) (by simp [results,Tryd.results28,go_sem,cr0,cr1]) rfl ⟨qU HG1.out (by omega) _ _,.inl (by rw [HE.out];exact ⟨hz,rfl⟩)⟩
structure DAt (B:Nat) (w:World) (d:DfaV) (n k fb fo fc b off cap:Nat) (RB RO RC:Nat→Nat):Prop where
 ok:VD d n k
 flt:fb < B
 frow:uD w fb fo (bls d.final)
 fcap:n≤fc∧fc≤maxLen
 blt:b < B
 bltw:b < w.heap.size
 cap:n≤cap∧cap≤maxLen
 hd:∀ q,q < n→w.cell? ⟨b,off+q,none⟩=some (.slice (some ⟨RB q,RO q,none⟩) k (RC q))
 el:∀ q a,q < n→a < k→w.cell? ⟨RB q,RO q+a,none⟩=some (.int .i64 ((nx d q a:Nat):Int))
 rlt:∀ q,q < n→RB q < B∧RB q < w.heap.size
 rcap:∀ q,q < n→k≤RC q∧RC q≤maxLen
theorem DAt.kept {B:Nat} {w w':World} {d:DfaV} {n k fb fo fc b off cap:Nat} {RB RO RC:Nat→Nat} {row:Option Nat} (h:DAt B w d n k fb fo fc b off cap RB RO RC) (hg:w.grownBy w' row) (hr:∀ k,row=some k→B≤k):DAt B w' d n k fb fo fc b off cap RB RO RC where
 ok:=h.ok
 flt:=h.flt
 frow:=h.frow.kept hg (fun e=>by have:=hr _ e;have:=h.flt;omega)
 fcap:=h.fcap
 blt:=h.blt
 bltw:=Nat.lt_of_lt_of_le h.bltw hg.size
 cap:=h.cap
 hd:=fun q hq=>(World.cell?_of_block (hg.block b h.bltw (fun e=>by have:=hr b e.symm;have:=h.blt;omega))).trans (h.hd q hq)
 el:=fun q a hq ha=>(World.cell?_of_block (hg.block (RB q) (h.rlt q hq).2 (fun e=>by have:=hr _ e.symm;have:=(h.rlt q hq).1;omega))).trans (h.el q a hq ha)
 rlt:=fun q hq=>⟨(h.rlt q hq).1,Nat.lt_of_lt_of_le (h.rlt q hq).2 hg.size⟩
 rcap:=h.rcap
theorem DAt.fin {B:Nat} {w:World} {d:DfaV} {n k fb fo fc b off cap:Nat} {RB RO RC:Nat→Nat} (h:DAt B w d n k fb fo fc b off cap RB RO RC) {q:Nat} (hq:q < n):w.cell? ⟨fb,fo+q,none⟩=some (.bool (d.final.getD q false)):=by
 have hl:=h.ok.hn
 have:=uD.map h.frow q (by omega)
 rw [this,zY (by omega)]
def dAgg (k st fb fo fc b off cap n:Nat):Value:=.agg #[.int .i64 (k:Int),.int .i64 (st:Int),.slice (some ⟨fb,fo,none⟩) n fc,.slice (some ⟨b,off,none⟩) n cap]
theorem mG.at {B:Nat} {w:World} {v:Value} {d:DfaV} {n k:Nat} (h:mG B w v d) (hd:VD d n k) :
  ∃ fb fo fc b off cap RB RO RC,v=dAgg k (st0 d) fb fo fc b off cap n∧DAt B w d n k fb fo fc b off cap RB RO RC:=by
 obtain ⟨fv,nv,rfl,hf,hn⟩:=h
 obtain ⟨fb,fo,fc,rfl,h1,h2,h3,h4⟩:=hf.some_ (by rw [vH,hd.hn];exact hd.n1)
 obtain ⟨b,off,cap,A,C,rfl,k1,k2,k3⟩:=hn.some_ (by rw [hd.nl];exact hd.n1)
 have hr:∀ q,∃ rb ro,q < n→A q=some ⟨rb,ro,none⟩∧rb < B∧k≤C q∧C q≤maxLen∧uD w rb ro (ints (d.next.getD q [])):=by
  intro q
  by_cases hq:q < n
  ·have hl:=hd.row q hq
   obtain ⟨rb,ro,c,e,h4,h5,h6,h7⟩:=(k3.row q (by rw [hd.nl];exact hq)).some_ (by rw [zM,hl];exact hd.k1)
   simp only [Value.slice.injEq] at e
   rw [zM,hl] at h5
   exact ⟨rb,ro,fun _=>⟨e.1,h4,by rw [e.2.2];exact h5,by rw [e.2.2];exact h6,h7⟩⟩
  ·exact ⟨0,0,fun h=>absurd h hq⟩
 obtain ⟨RB,hRB⟩:=Classical.axiomOfChoice hr
 obtain ⟨RO,hRO⟩:=Classical.axiomOfChoice hRB
 rw [vH,hd.hn] at h2
 rw [hd.nl] at k1
 refine ⟨fb,fo,fc,b,off,cap,RB,RO,C,?_,hd,h1,h4,⟨h2,h3⟩,k3.lt,k3.ltw,⟨k1,k2⟩,fun q hq=>?_,fun q a hq ha=>?_,fun q hq=>?_,fun q hq=>?_⟩
 ·rw [dAgg,qBA hd,hd.hk,vH,hd.hn,hd.nl]
 ·rw [k3.hd q (by rw [hd.nl];exact hq),(hRO q hq).1,hd.row q hq]
 ·rw [(hRO q hq).2.2.2.2.int a (by rw [hd.row q hq];exact ha),qCV hd hq ha]
  rfl
 ·have:=hRO q hq
  exact ⟨this.2.1,this.2.2.2.2.1⟩
 ·have:=hRO q hq
  exact ⟨this.2.2.1,this.2.2.2.1⟩
theorem zR {w:World} {p:Nat} {x0 x1 x2 x3:Value} {e:Nat} (h:w.heap[p]?=some (.cells #[x0,x1,x2,x3] e (0,0))) :
  w.cell? ⟨p,0,none⟩=some x0∧w.cell? ⟨p,1,none⟩=some x1∧w.cell? ⟨p,2,none⟩=some x2∧w.cell? ⟨p,3,none⟩=some x3:=by
 have c0:=zI h 0 (by simp)
 have c1:=zI h 1 (by simp)
 have c2:=zI h 2 (by simp)
 have c3:=zI h 3 (by simp)
 simp only [List.getElem_toArray,List.getElem_cons_zero,List.getElem_cons_succ] at c0 c1 c2 c3
 exact ⟨c0,c1,c2,c3⟩
theorem jD {w:World} {g n:Nat} {l:List Nat} (h:uD w g 0 (nats l)) (hl:l.length=n) (hn:n≤9223372036854775807):Row (g+1) w (.slice (some ⟨g,0,none⟩) n n) (nats l) :=
 .inr ⟨g,0,n,by rw [zN,hl],by omega,by rw [zN,hl];exact Nat.le_refl _,by unfold maxLen;omega,h⟩
theorem colTo_take {d:DfaV} {p:List Nat} {a q:Nat} (hq:q < p.length):(mX d p a).take (q+1)=(mX d p a).take q ++ [p.getD (nx d q a) 0]:=by
 rw [yG (d:=0) (by rw [rV];exact hq),eR hq]
theorem colTo_lt {d:DfaV} {p:List Nat} {n a:Nat} (h:∀ c∈p,c < n) (hn:0 < n):∀ c∈mX d p a,c < n:=by
 intro c hc
 obtain ⟨q,hq,rfl⟩:=List.mem_map.1 hc
 exact lT h hn
def finN (d:DfaV):List Nat:=d.final.map fun b=>if b then 1 else 0
theorem finN_ints (d:DfaV):nats (finN d)=ints (d.final.map finB):=by
 rw [tV]
 congr 1
 simp only [finN,List.map_map]
 congr 1
 funext b
 cases b <;> rfl
theorem eJ (d:DfaV):(finN d).length=d.final.length:=by simp [finN]
theorem finN_get {d:DfaV} {q:Nat} (hq:q < d.final.length):(finN d).getD q 0=if d.final.getD q false then 1 else 0:=by
 rw [finN,uF (x:=false) hq]
theorem finB_mid (d:DfaV):∀ x∈d.final.map finB,Mid x:=by
 intro x hx
 obtain ⟨b,_,rfl⟩:=List.mem_map.1 hx
 cases b <;> constructor <;> simp [finB]
theorem fillTo_skip {l:List Nat} {k:Nat} (h:k < l.length) (h0:l.getD k 0=0):uT l (k+1)=uT l k:=by
 unfold uT
 rw [yG (d:=0) h,h0,show l.length - k=(l.length - (k+1))+1 by omega,List.replicate_succ,List.append_assoc]
 rfl
def qDL (w:World) (l:List Nat) (e:Ending) (w':World):Prop :=
 ∃ g,e=.returned (.slice (some ⟨g,0,none⟩) l.length l.length)∧w.heap.size≤g∧uD w' g 0 (nats l)∧w.grownBy w' none
theorem refTo_lt {d:DfaV} {p:List Nat} (hp:Norm p) (m:Nat):∀ c∈sZ d p m,c < p.length:=by
 have:=cZ (iF (d:=d) hp m)
 rwa [xO] at this
set_option maxRecDepth 100000 in
set_option maxHeartbeats 1000000 in
theorem classes_any (B:Nat) (w:World) (v:Value) (d:DfaV) (n k:Nat) (hB:B≤w.heap.size) (h:mG B w v d) (hd:VD d n k) :
  Calls Tryd.prog 81 #[v] w (qDL w (sO d k)):=by
 obtain ⟨fb,fo,fc,b,off,cap,RB,RO,RC,rfl,hat⟩:=h.at hd
 have hn:=hd.hn
 have hn1:=hd.n1
 have hn512:=hd.n512
 have hk6:=hd.k6
 have hk1:=hd.k1
 have hfc:=hat.fcap.1
 have hfc2:=hat.fcap.2
 have hcp:=hat.cap.1
 have hcp2:=hat.cap.2
 have hmx1:fc≤9223372036854775807:=by unfold maxLen at hfc2;omega
 have hmx2:cap≤9223372036854775807:=by unfold maxLen at hcp2;omega
 obtain ⟨wA,hWA⟩:∃ wA,wA=w.alloc (.cells #[.int .i64 (k:Int),.int .i64 (st0 d:Int),.slice (some ⟨fb,fo,none⟩) n fc,.slice (some ⟨b,off,none⟩) n cap] 28):=⟨_,rfl⟩
 have hbox:wA.heap[w.heap.size]?=some (.cells #[.int .i64 (k:Int),.int .i64 (st0 d:Int),.slice (some ⟨fb,fo,none⟩) n fc,.slice (some ⟨b,off,none⟩) n cap] 28 (0,0)):=by rw [hWA];exact heap_alloc_new w _
 have hgA:w.grownBy wA none:=by rw [hWA];exact Ga w _ none
 have hzA:wA.heap.size=w.heap.size+1:=by rw [hWA,zO]
 obtain ⟨c0,c1,c2,c3⟩:=zR hbox
 obtain ⟨P,hP⟩:∃ P,P=w.heap.size:=⟨_,rfl⟩
 have HPE:=Kh hP
 rw [← hP] at hbox c0 c1 c2 c3 hzA hB
 have HBX:=Kh hbox;have HGA:=Kh hgA;have HWA:=Kh hWA;have HAT:=Kh (hat.kept hgA (by simp));have HN:=Kh hn;have HD:=Kh hd
 unfold dAgg
 clear hbox hgA hWA hat hn hd h hfc2 hcp2
 go_enter Tryd.func81,Tryd.ntmps81
 go_upto_region 1 with fail
 rw [← HWA.out,← HPE.out]
 clear hP
 go_wp2_with (first|(at_make;refine kB rfl _ _ _ rfl yC rfl .i64 .i64 _ _ n rfl rfl rfl rfl ?b1 ?b2 ?_)|fail)
 case b1=>omega
 case b2=>unfold maxLen;omega
 intro w2 harr hg2 hlt2
 have HA2:=Kh harr;have HG2:=Kh hg2
 clear harr hg2
 obtain ⟨g,hg⟩:∃ g,g=P+1:=⟨_,rfl⟩
 have HGE:=Kh hg
 rw [← hg] at HA2 ⊢
 have hgP:P < g:=by omega
 clear hg
 go_wp2
 go_loopg [4,15] n (fun gh a6 i wr=>∃ q:Nat,gh+q=n∧i=.int .i64 q∧Arr wr g 3 (nats (uT (finN d) q))∧wA.grownBy wr none)
 case atStart=>exact ⟨0,rfl,rfl,by rw [pG,eJ,HN.out,wG];exact HA2.out,HG2.out⟩
 case round =>
  clear HA2 HG2
  obtain ⟨q,hg,rfl,harr,hgr⟩:=hrel
  have HG:=Kh hg;have HA:=Kh harr;have HGR:=Kh hgr
  have hfl:(finN d).length=n:=by rw [eJ,HN.out]
  have hzr:=hgr.size
  obtain ⟨d0,d1,d2,d3⟩:=zR (zE HBX.out hgr (by simp))
  clear hg c0 c1 c2 c3
  by_cases hq:q < n
  ·have hq':(q:Int) < n:=by omega
   have cf:=(HAT.out.kept hgr (by simp)).fin hq
   have cgk:=harr.nat q (by rw [xI (by omega)];omega)
   have fgk:=harr.frozen q
   have hfq:=finN_get (d:=d) (q:=q) (by rw [HN.out];exact hq)
   have HFQ:=Kh hfq
   clear hfq harr hgr
   cases hb:d.final.getD q false with
   | false =>
    rw [hb] at cf HFQ
    go_wp2
    go_roundg (n - (q+1))
    case measure=>have:=HG.out;omega
    case rel=>exact ⟨q+1,by omega,by go_num,by rw [fillTo_skip (by omega) HFQ.out];exact HA.out,HGR.out⟩
   | true =>
    rw [hb] at cf HFQ
    have HS:Hid ((uT (finN d) q).set q 1=uT (finN d) (q+1)):=Kh (by have:=oP (l:=finN d) (k:=q) (by omega);rw [HFQ.out] at this;exact this)
    go_wp2
    go_roundg (n - (q+1))
    case measure=>have:=HG.out;omega
    case rel =>
     refine ⟨q+1,by omega,by go_num,?_,zG HGR.out (zH wr ⟨g,q,none⟩ _) (fun q e=>by have h7:g=q:=Oj e;omega)⟩
     rw [← HS.out]
     exact HA.out.nat_set q (by rw [xI (by omega)];omega) 1
  ·have hqn:q=n:=by have:=HG.out;omega
   have HE:Hid (uT (finN d) q=finN d):=Kh (by rw [hqn,← hfl];exact oQ _)
   rw [HE.out] at HA
   have hql:Hid (q=n):=Kh hqn
   have HNUM:=Kh (dS (g+1) wr (.slice (some ⟨g,0,none⟩) n n) (d.final.map finB) HA.out.lt (by
    rw [← finN_ints]
    exact jD HA.out.row hfl (by omega)) (finB_mid d) (by rw [List.length_map,HN.out];omega))
   clear hqn harr hgr d0 d1 d2 d3
   go_wp2_with fail
   refine HNUM.out.mono ?_
   rintro e w3 ⟨g3,rfl,hg3,ha3,hgr3⟩
   have hp0:numb (d.final.map finB)=qCF d:=rfl
   rw [hp0] at ha3 ⊢
   have hpl:(qCF d).length=n:=by rw [hJ,HN.out]
   rw [hpl]
   have HR3:=Kh ha3.row;have HG3:=Kh (zF HGR.out hgr3)
   have hg3w:P < g3:=by omega
   clear ha3 hgr3 HNUM hp0 hpl hg3
   go_wp2
   go_loopg [3] n (fun gh v3 wr=>∃ (m g:Nat),gh+m=n∧m < cls (oS d k m)∧v3=.slice (some ⟨g,0,none⟩) n n∧P < g∧uD wr g 0 (nats (oS d k m))∧wA.grownBy wr none)
   case atStart=>exact ⟨0,g3,rfl,qDG (by rw [rW,HN.out];omega),rfl,hg3w,HR3.out,HG3.out⟩
   case round =>
    clear HR3 HG3 hg3w HA HGR HG
    obtain ⟨m,g,hg,hmc,rfl,hgP,hra,hgr⟩:=hrel
    have HG:=Kh hg;have HMC:=Kh hmc
    have hpl:=rW d k m
    rw [HN.out] at hpl
    have hpn:=iS d k m
    obtain ⟨p,hp⟩:∃ p,p=oS d k m:=⟨_,rfl⟩
    have HP:=Kh hp
    rw [← hp] at hpl hpn hra
    have hplt:=cZ hpn
    rw [hpl] at hplt
    obtain ⟨wo,rfl⟩:∃ wo:World,wo=wr:=⟨_,rfl⟩
    have HRA:=Kh hra;have HGR:=Kh hgr;have HPN:=Kh hpn;have HPL:=Kh hpl;have HPLT:=Kh hplt
    have hglt:=hra.1
    clear hg hmc hp hra hgr hpn hpl hplt
    go_wp2
    go_loopg [5,6] k (fun gh v5 i wr=>∃ (a g5:Nat),gh+a=k∧i=.int .i64 a∧v5=.slice (some ⟨g5,0,none⟩) n n∧P < g5∧uD wr g5 0 (nats (sZ d p a))∧wo.grownBy wr none)
    case atStart=>exact ⟨0,g,rfl,rfl,rfl,hgP,HRA.out,zW _ _⟩
    case round =>
     obtain ⟨a,g5,hg,rfl,rfl,hg5P,hra5,hgr5⟩:=hrel
     have HGA5:=Kh hg
     obtain ⟨wq,rfl⟩:∃ wq:World,wq=wr:=⟨_,rfl⟩
     have HRA5:=Kh hra5;have HGR5:=Kh hgr5
     have hglt5:=hra5.1
     have hz5:=hgr5.size
     obtain ⟨d0,d1,d2,d3⟩:=zR (zE HBX.out (zF HGR.out hgr5) (by simp))
     clear hg hra5 hgr5
     by_cases ha:a < k
     ·have ha':(a:Int) < k:=by omega
      go_wp2
      go_loopg [7,38] n (fun gh ov i wr=>∃ (q:Nat) (sa:Option Addr) (sc:Nat),gh+q=n∧i=.int .i64 q∧ov=.slice sa q sc∧wr.ownsRow wq.heap.size 3 1 (.slice sa q sc) q (nats ((mX d p a).take q))∧wq.grownBy wr none)
      case atStart=>exact ⟨0,none,0,rfl,rfl,rfl,by simpa [nats] using World.ownsRow_nil _ _ _ _,zW _ _⟩
      case round =>
       obtain ⟨q,sa,sc,hg,rfl,rfl,hown,hgr⟩:=hrel
       have HGQ:=Kh hg;have HOWN:=Kh hown;have HGRQ:=Kh hgr
       clear hg hown d0 d1 d2 d3
       by_cases hq:q < n
       ·have hq':(q:Int) < n:=by omega
        have hall:=zF (zF HGR.out HGR5.out) hgr
        obtain ⟨d0,d1,d2,d3⟩:=zR (zE HBX.out hall (by simp))
        have hA:=HAT.out.kept hall (by simp)
        have ch:=hA.hd q hq
        have ce:=hA.el q a hq ha
        have hrc:=hA.rcap q hq
        have hnx:=aH HD.out hq ha
        have cp:=(HRA.out.kept (zF HGR5.out hgr) (by simp)).nat (nx d q a) (by rw [HPL.out];exact hnx)
        rw [Nat.zero_add] at cp
        have HCT:Hid ((mX d p a).take (q+1)=(mX d p a).take q ++ [p.getD (nx d q a) 0]):=Kh (colTo_take (by rw [HPL.out];exact hq))
        obtain ⟨s,hs⟩:∃ s,s=nx d q a:=⟨_,rfl⟩
        rw [← hs] at ce hnx cp HCT
        obtain ⟨c,hc⟩:∃ c,c=p.getD s 0:=⟨_,rfl⟩
        rw [← hc] at cp HCT
        have hgs:=hgr.size
        have hrc1:=hrc.1
        have hnx':(s:Int) < n:=by omega
        clear hall hA hs hc hgr hrc
        go_wp2_with (first|(at_builtin;refine app1 rfl _ _ _ rfl yC wq.heap.size _ q (nats ((mX d p a).take q)) rfl HOWN.out _ rfl rfl ?c1 ?c2 ?c3 ?_)|fail)
        case c1=>unfold maxLen;omega
        case c2=>omega
        case c3=>exact hgs
        intro sa' sc' w6 hown6 hg6 hlt6
        have HO6:=Kh hown6;have HG6:=Kh hg6
        clear hown6 hg6
        go_wp2
        go_roundg (n - (q+1))
        case measure=>have:=HGQ.out;omega
        case rel =>
         refine ⟨q+1,sa',sc',by omega,by go_num,rfl,?_,zG HGRQ.out HG6.out (fun q e=>(HOWN.out.lt q e).1)⟩
         rw [HCT.out,wE]
         exact HO6.out
       ·have hqn:q=n:=by have:=HGQ.out;omega
        have hcl:(mX d p a).length=n:=by rw [rV,HPL.out]
        have HTK:Hid ((mX d p a).take q=mX d p a):=Kh (by rw [hqn,← hcl];exact List.take_length)
        have HQN:=Kh hqn
        rw [HTK.out] at HOWN
        obtain ⟨kb,rfl,hk1',hk2',harr⟩:=yK HOWN.out (by omega)
        have hkb:=(HOWN.out.lt kb rfl).1
        have hrl:=xO d p a
        have HBO:=Kh (both_any (g5+1) wr.heap.size wr (.slice (some ⟨g5,0,none⟩) n n) (.slice (some ⟨kb,0,none⟩) q sc) (sZ d p a) (mX d p a) (by have:=hgr.size;omega) (Nat.le_refl _)
         (jD (HRA5.out.kept hgr (by simp)) (by rw [hrl,HPL.out]) (by omega)) (Row.of_owns HOWN.out) (by rw [hcl,hrl,HPL.out]) (by rw [hrl,HPL.out];omega)
         (fun c hc=>by have:=refTo_lt HPN.out a c hc;rw [HPL.out] at this;omega) (fun c hc=>by have:=colTo_lt HPLT.out (by omega) c hc;omega) (by rw [hrl,HPL.out];omega))
        clear hqn harr
        go_wp2_with fail
        refine HBO.out.mono ?_
        rintro e w7 ⟨g7,rfl,hg7,ha7,hgr7⟩
        have hb8:bK (sZ d p a) (mX d p a)=sZ d p (a+1):=rfl
        rw [hb8] at ha7 ⊢
        have hl7:(sZ d p (a+1)).length=n:=by rw [xO,HPL.out]
        rw [hl7]
        have HR7:=Kh ha7.row;have HG7:=Kh (zF (zF HGR5.out HGRQ.out) hgr7)
        have hzq:=HGRQ.out.size
        clear ha7 hgr7 HBO hb8 hl7
        go_wp2
        go_roundg (k - (a+1))
        case measure=>have:=HGA5.out;omega
        case rel=>exact ⟨a+1,g7,by omega,by go_num,rfl,by omega,HR7.out,HG7.out⟩
     ·have hak:a=k:=by have:=HGA5.out;omega
      have HAK:Hid (sZ d p a=sZ d p k):=Kh (by rw [hak])
      rw [HAK.out] at HRA5
      have hkl:(sZ d p k).length=n:=by rw [xO,HPL.out]
      have HSA:=lL (g5+1) (g+1) wq (.slice (some ⟨g5,0,none⟩) n n) (.slice (some ⟨g,0,none⟩) n n) ((sZ d p k).map fun (x:Nat)=>(x:Int)) (p.map fun (x:Nat)=>(x:Int))
       (by rw [← tV];exact jD HRA5.out hkl (by omega)) (by rw [← tV];exact jD (HRA.out.kept HGR5.out (by simp)) HPL.out (by omega))
      rw [bJ] at HSA
      have HSA:=Kh HSA
      clear hak
      by_cases he:sZ d p k=p
      ·rw [decide_eq_true he] at HSA
       have HCL:Hid (sO d k=p):=Kh (by
        have h1:=HG.out
        rw [HP.out]
        rw [HP.out] at he
        exact classes_of_fix (by rw [HN.out];omega) he)
       clear he
       go_wp2_with fail
       refine HSA.out.mono ?_
       rintro e w8 ⟨rfl,m8,rfl⟩
       go_wp2
       go_ret
       rw [qDL,HCL.out]
       refine ⟨g,by rw [HPL.out];rfl,by have:=HPE.out;omega,(HRA.out.kept HGR5.out (by simp)).kept (zJ _ _ none) (by simp),?_⟩
       exact zF (zF HGA.out (zF HGR.out HGR5.out)) (zJ _ _ _)
      ·rw [decide_eq_false he] at HSA
       have HMC2:Hid (m+1 < cls (oS d k (m+1))):=Kh (by
        have h1:=refine_grow HD.out HPL.out HPN.out he
        have h2:=HMC.out
        rw [← HP.out] at h2
        show m+1 < cls (sZ d (oS d k m) k)
        rw [← HP.out]
        omega)
       have HIT:Hid (oS d k (m+1)=sZ d p k):=Kh (by rw [HP.out];rfl)
       have hmn:m+1 < n:=by
        have h1:=HMC2.out
        have h2:=qBX (oS d k (m+1))
        rw [rW,HN.out] at h2
        omega
       clear he
       go_wp2_with fail
       refine HSA.out.mono ?_
       rintro e w8 ⟨rfl,m8,rfl⟩
       go_wp2
       go_roundg (n - (m+1))
       case measure=>have:=HG.out;omega
       case rel=>exact ⟨m+1,g5,by omega,HMC2.out,rfl,hg5P,by rw [HIT.out];exact HRA5.out.kept (zJ _ _ none) (by simp),zF (zF HGR.out HGR5.out) (zJ _ _ _)⟩
end Go.Proofs.YtdjhoadoiknaoaaDoor
