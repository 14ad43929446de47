/- Part 40 of the proof: Chains0, Size, FamCnt, FamilyP, CRef, CVal. -/
import Derived.Test.YtjfdomfendbhfaaQe19
set_option linter.unusedVariables false
set_option linter.unusedSimpArgs false
namespace Go.Proofs.Ytjfdomfendbhfaa
open Go.RowKit
def exts (bs:List (List (List Int))) (ws:List (List Int)):List (List (List Int)):=bs.flatMap fun b=>ws.map fun u=>b ++ [u]
def chB (ws:List (List Int)):Nat->List (List (List Int))
 | 0=>ws.map oneB
 | i+1=>exts (chB ws i) (ws.drop 1)
def chL (ws:List (List Int)):Nat->List (List (List Int))
 | 0=>ws.map oneB
 | i+1=>chL ws i ++ exts (chB ws i) ws
theorem qBO (ws:List (List Int)) (i:Nat):∀ d,chL ws i <+: chL ws (i+d)
 | 0=>List.prefix_refl _
 | d+1=>(qBO ws i d).trans (List.prefix_append _ _)
theorem jR {ws:List (List Int)}:∀ (i:Nat) {b:List (List Int)},b∈chB ws i->b.length=i+1
 | 0,b,h=>by
  obtain⟨u,_,rfl⟩:=List.mem_map.1 h;rfl
 | i+1,b,h=>by
  obtain⟨c,hc,hb⟩:=List.mem_flatMap.1 h
  obtain⟨u,_,rfl⟩:=List.mem_map.1 hb
  rw[List.length_append,jR i hc];rfl
theorem jH (bs:List (List (List Int))) (ws:List (List Int)):(exts bs ws).length=bs.length * ws.length:=by
 induction bs with
 | nil=>simp[exts]
 | cons b bs ih =>
  have:exts (b :: bs) ws=(ws.map fun u=>b ++ [u]) ++ exts bs ws:=rfl
  rw[this,List.length_append,ih,List.length_map,List.length_cons,Nat.succ_mul];omega
structure LUp (e base:Nat) (w:World) (v:Value) (n:Nat) (svs:List Value) (ps:List (List (List Int))):Prop where
 own:w.ownsRow base e 1 v n svs
 rows:xS w.heap.size 9 strs w svs ps
 ne:e≠9
theorem LUp.len {e base n:Nat} {w:World} {v:Value} {svs:List Value} {ps:List (List (List Int))} (h:LUp e base w v n svs ps):n=ps.length:=by
 have:=h.own.1;have:=h.rows.1;omega
theorem LUp.nil {e:Nat} (he:e≠9) (base:Nat) (w:World):LUp e base w (.slice none 0 0) 0 [] []:=⟨World.ownsRow_nil _ _ _ _,xS.nil,he⟩
theorem LUp.kept {e base n:Nat} {w w':World} {v:Value} {svs:List Value} {ps:List (List (List Int))} {row:Option Nat} (h:LUp e base w v n svs ps) (hg:w.grownBy w' row) (hr:∀ k,row=some k->w.heap.size<=k\/(zY w 9 k/\zY w e k)):LUp e base w' v n svs ps:=by
 refine⟨h.own.kept hg ?_,(h.rows.kept hg (fun k e=>(hr k e).imp id (·.1))).mono hg.size,h.ne⟩
 rcases hv:v.ownBlock with _|k
 ·exact .inl rfl
 ·refine .inr fun e1=>?_
  rcases hr k e1.symm with h1|⟨_,cur,e',m,hb,hn⟩
  ·have:=(h.own.lt k hv).2;omega
  ·exact zS h.own hb (fun e2=>hn e2.symm) hv
theorem LUp.push {e base n m b2:Nat} {w w1 w':World} {v v' sv:Value} {svs:List Value} {ps:List (List (List Int))} {us:List (List Int)} (h:LUp e base w v n svs ps) (hg1:w.grownBy w1 none) (ho1:w1.ownsRow b2 9 1 sv m (strs us))
  (hown:w'.ownsRow base e 1 v' (n+1) (svs ++ [sv])) (hg:w1.grownBy w' v.ownBlock):LUp e base w' v' (n+1) (svs ++ [sv]) (ps ++ [us])/\w.grownBy w' v.ownBlock:=by
 have h1:=h.kept hg1 (by simp)
 have h0:=yI h1.own h.ne
 refine⟨⟨hown,?_,h.ne⟩,zD (yY hg1) hg⟩
 have h2:=((h1.rows.snoc (RowT.of_owns ho1)).kept hg (fun k e=>.inr (h0 k e))).mono hg.size
 exact h2
theorem LUp.ofPats {base n:Nat} {w:World} {v:Value} {svs:List Value} {ps:List (List (List Int))} (h:PatsUp base w v n svs ps):LUp 28 base w v n svs ps:=⟨h.own,h.rows,by decide⟩
def cnt (letters:Nat):Nat->Int × Int
 | 0=>(0,1)
 | r+1=>(min ((cnt letters r).1+(cnt letters r).2) 900,min ((cnt letters r).2 * letters) 900)
def chn (ne:Int):Nat->Int × Int
 | 0=>(ne+1,(ne+1) * (ne+1))
 | r+1=>(min ((chn ne r).1+(chn ne r).2) 900,min (chn ne r).2 900 * ne)
theorem qBN (ne:Int) (h:0<=ne) (h9:ne<=900):∀ r,0<=(chn ne r).1/\(chn ne r).1<=901/\0<=(chn ne r).2/\(chn ne r).2<=811801
 | 0=>by
  have h2:(ne+1) * (ne+1)<=901 * 901:=Int.mul_le_mul (by omega) (by omega) (by omega) (by omega)
  have h3:0<=(ne+1) * (ne+1):=Int.mul_nonneg (by omega) (by omega)
  simp only[chn];omega
 | r+1=>by
  have hb:=qBN ne h h9 r
  have h2:min (chn ne r).2 900 * ne<=900 * 900:=Int.mul_le_mul (by omega) h9 h (by omega)
  have h3:0<=min (chn ne r).2 900 * ne:=Int.mul_nonneg (by omega) h
  simp only[chn];omega
def qAN (kind:Int) (letters:Nat) (k m:Int):Int :=
 let ne:=(cnt letters (k+1).toNat).1 - 1
 let sh:=(cnt letters k.toNat).1
 if kind=1 then ne+1 else if kind=2\/kind=3 then sh+ne else if kind=4 then sh+2 * ne else if kind=5 then sh+3 * ne else if kind=6 then ne else (chn ne (m+1).toNat).1
def oL (kind letters k m:Int):Bool :=
 decide (1<=kind/\kind<=7/\1<=letters/\letters<=6/\(if kind=1 then 0 else 1)<=k/\k<=8/\(if kind=7 then 0<=m/\m<=4 else m=0))
end Go.Proofs.Ytjfdomfendbhfaa
namespace Go.Proofs.Ytjfdomfendbhfaa
def yP (letters k:Nat):List (List Int):=upTo letters (k+1)
def famP (kind:Int) (letters k m:Nat):List (List (List Int)) :=
 let W:=yP letters k
 let S:=upTo letters k
 if kind=1 then W.map oneB else if kind=2 then S.map oneB ++ (W.drop 1).map preB else if kind=3 then S.map oneB ++ (W.drop 1).map sufB
 else if kind=4 then S.map oneB ++ (W.drop 1).map sufB ++ (W.drop 1).map preB else if kind=5 then S.map oneB ++ (W.drop 1).map sufB ++ (W.drop 1).map preB ++ (W.drop 1).map facB
 else if kind=6 then (W.drop 1).map tC else chL W (m+1)
theorem min_add (a b:Int) (ha:0<=a) (hb:0<=b):min (min a 900+min b 900) 900=min (a+b) 900:=by omega
theorem min_mul (b:Nat) (L:Nat) (h:1<=L):min (min (b:Int) 900 * L) 900=min ((b * L:Nat):Int) 900:=by
 rcases Nat.lt_or_ge b 900 with hb|hb
 ·rw[Int.min_eq_left (a:=(b:Int)) (by omega),Int.natCast_mul]
 ·have h2:b * 1<=b * L:=Nat.mul_le_mul_left _ h
  rw[Int.min_eq_right (a:=(b:Int)) (by omega)]
  obtain⟨P,hP⟩:∃ P,P=b * L:=⟨_,rfl⟩
  rw[<- hP]at h2 ⊢
  omega
theorem qBK (letters:Nat) (h:1<=letters):∀ r,(cnt letters r).1=min ((upTo letters r).length:Int) 900/\(cnt letters r).2=min ((letters ^ r:Nat):Int) 900
 | 0=>by simp only[cnt,upTo,List.range_zero,List.flatMap_nil,List.length_nil,Nat.pow_zero];decide
 | r+1=>by
  obtain⟨h1,h2⟩:=qBK letters h r
  rw[cnt]
  simp only
  rw[h1,h2]
  refine⟨?_,?_⟩
  ·rw[min_add _ _ (by omega) (by omega),xH,List.length_append,vD];push_cast;rfl
  ·rw[min_mul _ _ h,Nat.pow_succ]
theorem qBP (ws:List (List Int)) (i:Nat):(chL ws (i+1)).length=(chL ws i).length+(chB ws i).length * ws.length:=by rw[chL,List.length_append,jH]
theorem chB_len (ws:List (List Int)) (i:Nat):(chB ws (i+1)).length=(chB ws i).length * (ws.length - 1):=by rw[chB,jH,List.length_drop]
theorem qCU {ws:List (List Int)} (hw:1<=ws.length) (h9:ws.length<=900):∀ r,((chn ((ws.length:Int) - 1) r).1=((chL ws r).length:Int)/\(chn ((ws.length:Int) - 1) r).2=(((chB ws r).length * ws.length:Nat):Int))\/((chn ((ws.length:Int) - 1) r).1=900/\900<=(chL ws r).length)
 | 0=>by
  refine .inl ⟨?_,?_⟩
  ·simp[chn,chL]
  ·rw[chn]
   simp only[chB,List.length_map]
   rw[show (ws.length:Int) - 1+1=ws.length by omega];push_cast;rfl
 | r+1=>by
  have hb:=qBN ((ws.length:Int) - 1) (by omega) (by omega) r
  rw[chn]
  simp only
  rcases qCU hw h9 r with ⟨e1,e2⟩|⟨e1,e2⟩
  ·rw[e1,e2,qBP,chB_len]
   obtain⟨P,hP⟩:∃ P,P=(chB ws r).length * ws.length:=⟨_,rfl⟩
   rw[<- hP]
   rcases Nat.lt_or_ge ((chL ws r).length+P) 900 with h|h
   ·refine .inl ⟨by omega,?_⟩
    rw[Int.min_eq_left (by omega)]
    have e3:(chB ws r).length * (ws.length - 1) * ws.length=P * (ws.length - 1):=by rw[hP,Nat.mul_assoc,Nat.mul_assoc,Nat.mul_comm (ws.length - 1)]
    rw[e3]
    have e4:(ws.length:Int) - 1=((ws.length - 1:Nat):Int):=by omega
    rw[e4];push_cast;rfl
   ·exact .inr ⟨by omega,by omega⟩
  ·refine .inr ⟨by omega,?_⟩
   rw[qBP];omega
theorem qBM (ne:Int) (h:0<=ne) (h9:ne<=900) (h3:300<=ne):∀ r,300 < (chn ne r).1
 | 0=>by simp only[chn];omega
 | r+1=>by
  have:=qBM ne h h9 h3 r
  have hb:=qBN ne h h9 r
  rw[chn];simp only;omega
theorem qAM {kind:Int} {letters k m:Nat} (h1:1<=kind) (h7:kind<=7) (hl:1<=letters) (hk:kind≠1->1<=k):(300 < qAN kind letters k m ↔ 300 < (famP kind letters k m).length):=by
 obtain⟨c1,_⟩:=qBK letters hl (k+1)
 obtain⟨c2,_⟩:=qBK letters hl k
 have e1:(((k:Nat):Int)+1).toNat=k+1:=by omega
 have e2:((k:Nat):Int).toNat=k:=by omega
 have e3:(((m:Nat):Int)+1).toNat=m+1:=by omega
 have hw:1<=(yP letters k).length:=gN hl
 have hS:(upTo letters k).length<=(yP letters k).length:=by rw[yP,xH,List.length_append];omega
 unfold qAN famP
 simp only
 rw[e1,e2,e3,c1,c2]
 change 1<=(yP letters k).length at hw
 rw[show upTo letters (k+1)=yP letters k from rfl]
 obtain⟨W,hW⟩:∃ W,W=yP letters k:=⟨_,rfl⟩
 rw[<- hW]at hw hS ⊢
 by_cases k1:kind=1
 ·rw[if_pos k1,if_pos k1,List.length_map];omega
 rw[if_neg k1,if_neg k1]
 by_cases k2:kind=2
 ·rw[if_pos (.inl k2),if_pos k2];simp only[List.length_append,List.length_map,List.length_drop];omega
 by_cases k3:kind=3
 ·rw[if_pos (.inr k3),if_neg k2,if_pos k3];simp only[List.length_append,List.length_map,List.length_drop];omega
 rw[if_neg (by omega),if_neg k2,if_neg k3]
 by_cases k4:kind=4
 ·rw[if_pos k4,if_pos k4];simp only[List.length_append,List.length_map,List.length_drop];omega
 rw[if_neg k4,if_neg k4]
 by_cases k5:kind=5
 ·rw[if_pos k5,if_pos k5];simp only[List.length_append,List.length_map,List.length_drop];omega
 rw[if_neg k5,if_neg k5]
 by_cases k6:kind=6
 ·rw[if_pos k6,if_pos k6];simp only[List.length_map,List.length_drop];omega
 rw[if_neg k6,if_neg k6]
 rcases Nat.lt_or_ge W.length 900 with h9|h9
 ·rw[Int.min_eq_left (by omega)]
  rcases qCU (ws:=W) hw (by omega) (m+1) with ⟨e,_⟩|⟨e,e'⟩
  ·rw[e];omega
  ·rw[e];omega
 ·rw[Int.min_eq_right (by omega)]
  have hb:=qBM 899 (by omega) (by omega) (by omega) (m+1)
  have hp:=(qBO W 0 (m+1)).length_le
  rw[Nat.zero_add]at hp
  have e:(chL W 0).length=W.length:=by simp[chL]
  have:(900:Int) - 1=899:=by decide
  rw[this];omega
end Go.Proofs.Ytjfdomfendbhfaa
namespace Go.Proofs.Ytjfdomfendbhfaa
open Go.RowKit
def famE (kind letters k m:Int):Int:=if oL kind letters k m=false then 1 else if kind=6/\8 < k+2\/300 < qAN kind letters.toNat k m then 3 else 0
def famL (kind letters k m:Int):List (List (List Int)):=if famE kind letters k m=0 then famP kind letters.toNat k.toNat m.toNat else []
def pE (w:World) (er:Int) (ps:List (List (List Int))) (e:Ending) (w':World):Prop :=
 ∃ (sa:Option Addr) (sc:Nat) (svs:List Value),e=.returned (.tuple #[.slice sa ps.length sc,.int .i64 er])/\RowT w'.heap.size 28 w' (.slice sa ps.length sc) svs/\xS w'.heap.size 9 strs w' svs ps/\w.grownBy w' none
theorem pE.nil {w w':World} {er:Int} (hg:w.grownBy w' none):pE w er [] (.returned (.tuple #[.slice none 0 0,.int .i64 er])) w':=⟨none,0,[],rfl,.inl ⟨rfl,rfl⟩,xS.nil,hg⟩
set_option maxRecDepth 100000 in
set_option maxHeartbeats 800000 in
theorem validRef_any (B:Nat) (w:World) (pv cv:Value) (root:Int) (cs:List ChoV) (i:Nat) (r:Int) (h:sC B w cv cs) (hi:i < cs.length) :
  Calls Try.prog 37 #[.agg #[pv,cv,.int .i64 root],.int .i64 (i:Int),.int .i64 r] w fun e w'=>e=.returned (.bool (refB cs i (cs.getD i default).p r))/\w.grownBy w' none:=by
 obtain⟨b,off,cap,rfl,hb,hc,hm,h9⟩:=h.at_ (by omega)
 have H6:cap<=9223372036854775807:=by unfold maxLen at hm;omega
 obtain⟨n,hn⟩:∃ n,n=cs.length:=⟨_,rfl⟩
 have HN:=Kh hn
 have h8:=hi
 rw[<- hn]at hc hi ⊢
 have h4:=Ga w (.cells #[pv,.slice (some ⟨b,off,none⟩) n cap,.int .i64 root] 25) none
 have h5:=heap_alloc_new w (.cells #[pv,.slice (some ⟨b,off,none⟩) n cap,.int .i64 root] 25)
 obtain⟨wA,h7⟩:∃ w1,w1=w.alloc (.cells #[pv,.slice (some ⟨b,off,none⟩) n cap,.int .i64 root] 25):=⟨_,rfl⟩
 obtain⟨P,hP⟩:∃ P,P=w.heap.size:=⟨_,rfl⟩
 rw[<- h7]at h4 h5
 rw[<- hP]at h5
 have h3:=h9.kept h4 (by simp)
 obtain⟨p0,p1,p2⟩:=zJ h5
 have c1:=h3.p i h8
 have H2:=Kh h3
 have H0:=Kh h7;have H1:=Kh hP;have h6:=Kh h4
 obtain⟨x,hx⟩:∃ x,x=(cs.getD i default).p:=⟨_,rfl⟩
 have HX:=Kh hx
 rw[<- hx]at c1
 rw[<- hx]
 have H5:(i:Int) < n:=by omega
 have H4:(0:Int)<=i:=by omega
 clear h h9 h3 h4 h5 h7 hP hx hn h8
 go_enter Try.func37,Try.ntmps37
 go_upto_region 1 with fail
 rw[<- H0.out,<- H1.out]
 by_cases h0:r < 0
 ·have HR:Hid (refB cs i x r=false):=Kh (by simp[refB];omega)
  go_wp2
  go_ret
  exact⟨yD HR.out.symm,h6.out⟩
 by_cases h1:1+(i:Int) < r
 ·have HR:Hid (refB cs i x r=false):=Kh (by simp[refB];omega)
  go_wp2
  go_ret
  exact⟨yD HR.out.symm,h6.out⟩
 by_cases h2:r < 2
 ·have HR:Hid (refB cs i x r=true):=Kh (by simp[refB];omega)
  have hd:decide (r < 2)=true:=by simpa using h2
  go_wp2
  go_quiet (fail)
  go_wp2
  go_ret
  exact⟨yD (by rw[HR.out]),zB h6.out (by first|exact zL _ none|exact zU _ _ none) (by simp)⟩
 ·have hd:decide (r < 2)=false:=by simpa using h2
  obtain⟨q,rfl⟩:∃ q:Nat,r=(q:Int)+2:=⟨(r - 2).toNat,by omega⟩
  have c2:=H2.out.p q (by have:=HN.out;omega)
  have e2:IntKind.i64.wrap ((q:Int)+2 - 2)=(q:Int):=by rw[show (q:Int)+2 - 2=q by omega];exact xX (by unfold maxLen at hm;omega)
  have e3:(q:Int)+2 - 2=(q:Int):=by omega
  have hq:q < n:=by omega
  have H3:(q:Int) < n:=by omega
  obtain⟨y,hy⟩:∃ y,y=(cs.getD q default).p:=⟨_,rfl⟩
  rw[<- hy]at c2
  have HR:Hid (refB cs i x ((q:Int)+2)=decide (x < y)):=Kh (by
   have e:((q:Int)+2).toNat - 2=q:=by omega
   simp only[refB,e,<- hy]
   rw[Bool.eq_iff_iff]
   simp only[Bool.and_eq_true,decide_eq_true_eq]
   omega)
  clear hy
  go_wp2
  go_quiet (fail)
  go_wp2
  go_ret
  exact⟨yD (by rw[HR.out]),zB h6.out (by first|exact zL _ none|exact zU _ _ none) (by simp)⟩
set_option maxRecDepth 100000 in
set_option maxHeartbeats 800000 in
theorem gE (B:Nat) (w:World) (v:Value) (g:DiaV) (letters:Int) (hB:B<=w.heap.size) (h:qG B w v g) :
  Calls Try.prog 9 #[v,.int .i64 letters] w fun e w'=>e=.returned (.int .i64 (diaE g letters))/\w.grownBy w' none:=by
 obtain⟨pv,cv,rfl,hp,hc⟩:=h
 obtain⟨pa,pc,rfl⟩:=hp.shape
 obtain⟨ca,cc,rfl⟩:=hc.shape
 have a6:=hp.len_le
 have b8:=hc.len_le
 unfold maxLen at a6 b8
 obtain⟨ps,cs,root⟩:=g
 simp only at hp hc a6 b8 ⊢
 obtain⟨np,b5⟩:∃ n,n=ps.length:=⟨_,rfl⟩
 obtain⟨nc,b6⟩:∃ n,n=cs.length:=⟨_,rfl⟩
 rw[<- b5]at hp a6 ⊢
 rw[<- b6]at hc b8 ⊢
 have h9:=Ga w (.cells #[.slice pa np pc,.slice ca nc cc,.int .i64 root] 25) none
 have a3:=heap_alloc_new w (.cells #[.slice pa np pc,.slice ca nc cc,.int .i64 root] 25)
 obtain⟨wA,c0⟩:∃ w1,w1=w.alloc (.cells #[.slice pa np pc,.slice ca nc cc,.int .i64 root] 25):=⟨_,rfl⟩
 obtain⟨P,hP⟩:∃ P,P=w.heap.size:=⟨_,rfl⟩
 rw[<- c0]at h9 a3
 rw[<- hP]at a3
 have d3:=hp.kept h9 (by simp)
 have d6:=hc.kept h9 (by simp)
 obtain⟨p0,p1,p2⟩:=zJ a3
 have e3:=h9.size
 have H2:=Kh b5;have h7:=Kh b6
 have f4:=Kh d3;have f6:=Kh d6;have c8:=Kh a3
 have f0:=Kh c0;have f5:=Kh hP;have h0:=Kh h9
 have g0:Hid (B<=wA.heap.size):=Kh (by omega)
 clear hp hc d3 d6 h9 a3 c0 hP b5 b6 e3
 go_enter Try.func9,Try.ntmps9
 go_upto_region 1 with fail
 rw[<- f0.out,<- f5.out]
 by_cases h1:letters < 1
 ·go_wp2
  go_ret
  exact⟨yF (aU (.inl h1)).symm,h0.out⟩
 by_cases h2:6 < letters
 ·go_wp2
  go_ret
  exact⟨yF (aU (.inr h2)).symm,h0.out⟩
 have H1:Hid (¬ (letters < 1\/6 < letters)):=Kh (by omega)
 by_cases h3:300 < np
 ·have e9:(300:Int) < np:=by omega
  go_wp2
  go_ret
  exact⟨yF (aT H1.out (.inl (by rw[<- H2.out];exact h3))).symm,h0.out⟩
 have e9:¬ (300:Int) < np:=by omega
 by_cases h4:20000 < nc
 ·have e8:(20000:Int) < nc:=by omega
  go_wp2
  go_ret
  exact⟨yF (aT H1.out (.inr (by rw[<- h7.out];exact h4))).symm,h0.out⟩
 have e8:¬ (20000:Int) < nc:=by omega
 have H3:Hid (¬ (300 < ps.length\/20000 < cs.length)):=Kh (by rw[<- H2.out,<- h7.out];omega)
 go_wp2
 go_loopg [6,7,29] np (fun gh s6 s7 i wr=>∃ k:Nat,gh+k=np/\i=.int .i64 k/\wW letters (ps.drop k)=wW letters ps/\wA.grownBy wr none)
 case atStart=>exact⟨0,rfl,rfl,rfl,zN _ _⟩
 case round =>
  obtain⟨k,a2,rfl,d2,hg⟩:=hrel
  have H7:=Kh a2;have HG:=Kh hg;have H6:=Kh d2
  clear a2 d2
  by_cases hk:k < np
  ·have e6:(k:Int) < np:=by omega
   have d1:=f4.out.kept hg (by simp)
   obtain⟨b,off,cap,e,e7,H0,b9,H5⟩:=d1.at_ (by rw[<- H2.out];omega)
   rw[<- H2.out]at e H0 H5
   simp only[Value.slice.injEq,true_and]at e
   obtain⟨rfl,rfl⟩:=e
   obtain⟨sa,sc,c1,H4,b4⟩:=H5 k hk
   obtain⟨q,hq⟩:∃ q,q=ps.getD k []:=⟨_,rfl⟩
   rw[<- hq]at c1 H4 b4
   have e4:pc<=9223372036854775807:=by unfold maxLen at b9;omega
   have HV:Hid (∀ W:World,wr.grownBy W none->Calls Try.prog 36 #[.agg #[.slice sa q.length sc],.int .i64 letters] W fun e w'=>e=.returned (.int .i64 (patW q letters))/\wA.grownBy w' none):=Kh (fun W hW=>(nK B W _ q letters (H4.kept hW (by simp)) b4).mono fun e w' ⟨he,hg'⟩=>⟨he,zB HG.out (zD hW hg') (by simp)⟩)
   have HQ:=Kh hq
   obtain⟨E,hE⟩:∃ E,E=patW q letters:=⟨_,rfl⟩
   rw[<- hE]at HV
   have HE:=Kh hE
   obtain⟨ql,d0⟩:∃ n,n=q.length:=⟨_,rfl⟩
   rw[<- d0]at c1 HV
   clear d1 H5 H4 b4 hq hg hE d0
   go_wp2_with fail
   refine(HV.out _ (Ga wr _ none)).mono ?_
   rintro e w1 ⟨rfl,h9⟩
   have e0:=Kh h9
   clear h9 HV
   by_cases hE:E=0
   ·have e1:(E != 0)=false:=by simp[hE]
    have c6:=Kh hE
    clear hE
    go_wp2
    go_roundg (np - (k+1))
    case measure=>have:=H7.out;omega
    case rel=>exact⟨k+1,by have:=H7.out;omega,by go_num,(iR (by rw[<- H2.out];exact hk) (by rw[<- HQ.out,<- HE.out];exact c6.out)).trans H6.out,e0.out⟩
   ·have e1:(E != 0)=true:=by rw[bne_iff_ne];exact hE
    have c6:=Kh hE
    clear hE
    go_wp2
    go_ret
    exact⟨yF (by rw[diaE_pat (g:=⟨ps,cs,root⟩) H1.out H3.out (k:=k) (by rw[<- H2.out];exact hk) H6.out (by rw[<- HQ.out,<- HE.out];exact c6.out)];show E=patW (ps.getD k []) letters;rw[<- HQ.out,<- HE.out]),zB h0.out (e0.out) (by simp)⟩
  ·have e5:k=np:=by have:=H7.out;omega
   have f3:Hid (wW letters ps=0):=Kh (by rw[<- H6.out];exact dF (by rw[<- H2.out];exact hk))
   have H9:Hid (diaE ⟨ps,cs,root⟩ letters=iC ps.length cs root):=Kh (diaE_cho H1.out H3.out f3.out)
   have a0:¬ (k:Int) < np:=by omega
   obtain⟨p0,p1,p2⟩:=zJ (zA c8.out hg (by simp))
   clear e5 hg H7 a6
   go_wp2
   clear p0 p1 p2
   go_loopg [8,9,43] nc (fun gh s8 s9 i wr=>∃ k:Nat,gh+k=nc/\i=.int .i64 k/\xD ps.length cs k/\wA.grownBy wr none)
   case atStart=>exact⟨0,rfl,rfl,chosTo_zero _ _,HG.out⟩
   case round =>
    clear HG a0 hk
    obtain⟨k,a2,rfl,d5,hg⟩:=hrel
    have H7:=Kh a2;have HG:=Kh hg;have e2:=Kh d5
    clear a2 d5
    by_cases hk:k < nc
    ·have e6:(k:Int) < nc:=by omega
     have b7:=f6.out.kept hg (by simp)
     have f7:=Kh b7
     obtain⟨b,off,cap,e,e7,H0,b9,a9⟩:=b7.at_ (by rw[<- h7.out];omega)
     rw[<- h7.out]at e H0
     simp only[Value.slice.injEq,true_and]at e
     obtain⟨rfl,rfl⟩:=e
     have e4:cc<=9223372036854775807:=by unfold maxLen at b9;omega
     have a1:k < cs.length:=by rw[<- h7.out];exact hk
     have c1:=a9.p k a1
     have c2:=a9.y k a1
     have c3:=a9.n k a1
     have a4:Hid (∀ (W:World) (r:Int),wr.grownBy W none->Calls Try.prog 37 #[.agg #[.slice pa np pc,.slice (some ⟨b,off,none⟩) nc cc,.int .i64 root],.int .i64 (k:Int),.int .i64 r] W fun e w'=>e=.returned (.bool (refB cs k (cs.getD k default).p r))/\W.grownBy w' none):=Kh (fun W r hW=>validRef_any B W _ _ root cs k r (f7.out.kept hW (by simp)) a1)
     obtain⟨c,b0⟩:∃ c,c=cs.getD k default:=⟨_,rfl⟩
     rw[<- b0]at c1 c2 c3 a4
     have HC:=Kh b0
     have h8:Hid (choB ps.length cs k=(decide (0<=c.p/\c.p < np) && (refB cs k c.p c.y && refB cs k c.p c.n))):=Kh (by
      rw[b0,H2.out];rfl)
     clear b7 a9 a1 b0
     obtain⟨x,y,n⟩:=c
     simp only at c1 c2 c3 a4 h8
     obtain⟨by_,d7⟩:∃ b,b=refB cs k x y:=⟨_,rfl⟩
     obtain⟨bn,d8⟩:∃ b,b=refB cs k x n:=⟨_,rfl⟩
     have c4:=Kh (fun W hW=>a4.out W y hW)
     have c5:=Kh (fun W hW=>a4.out W n hW)
     rw[<- d7]at c4 h8
     rw[<- d8]at c5 h8
     have H0:=heap_alloc_new wr (.cells #[.int .i64 x,.int .i64 y,.int .i64 n] 45)
     have a8:=Ga wr (.cells #[.int .i64 x,.int .i64 y,.int .i64 n] 45) none
     obtain⟨w2,b3⟩:∃ w2,w2=wr.alloc (.cells #[.int .i64 x,.int .i64 y,.int .i64 n] 45):=⟨_,rfl⟩
     obtain⟨R,hR⟩:∃ R,R=wr.heap.size:=⟨_,rfl⟩
     rw[<- b3]at H0 a8
     rw[<- hR]at H0
     have f1:=Kh b3;have f2:=Kh hR;have f9:=Kh H0;have H8:=Kh a8
     have a5:=Kh (zA (zA c8.out hg (by simp)) a8 (by simp))
     obtain⟨p0,p1,p2⟩:=zJ a5.out
     obtain⟨r0,r1,r2⟩:=zJ H0
     clear d7 d8 b3 hR H0 a8 hg a4
     go_upto_region 15 with fail
     rw[<- f1.out,<- f2.out]
     clear c1 c2 c3
     by_cases hx0:x < 0
     ·have HF:Hid (choB ps.length cs k=false):=Kh (by rw[h8.out,show decide (0<=x/\x < (np:Int))=false by simp;omega];rfl)
      go_wp2
      go_ret
      exact⟨yF (by rw[H9.out,nV (by rw[<- h7.out];exact hk) HF.out]),zB h0.out (zB HG.out H8.out (by simp)) (by simp)⟩
     by_cases hx1:(np:Int)<=x
     ·have HF:Hid (choB ps.length cs k=false):=Kh (by rw[h8.out,show decide (0<=x/\x < (np:Int))=false by simp;omega];rfl)
      go_wp2
      go_ret
      exact⟨yF (by rw[H9.out,nV (by rw[<- h7.out];exact hk) HF.out]),zB h0.out (zB HG.out H8.out (by simp)) (by simp)⟩
     have c9:decide (0<=x/\x < (np:Int))=true:=by simp;omega
     rw[c9,Bool.true_and]at h8
     clear c9
     go_wp2_with fail
     refine(c4.out _ H8.out).mono ?_
     rintro e w3 ⟨rfl,a7⟩
     have b1:=Kh a7
     have c7:=Kh (zA a5.out a7 (by simp))
     have f8:=Kh (zA f9.out a7 (by simp))
     obtain⟨p0,p1,p2⟩:=zJ c7.out
     obtain⟨r0,r1,r2⟩:=zJ f8.out
     clear a7 c4
     cases by_ with
     | false =>
      have HF:Hid (choB ps.length cs k=false):=Kh (by rw[h8.out];rfl)
      go_wp2
      go_ret
      exact⟨yF (by rw[H9.out,nV (by rw[<- h7.out];exact hk) HF.out]),zB h0.out (zB (zB HG.out H8.out (by simp)) b1.out (by simp)) (by simp)⟩
     | true =>
      rw[Bool.true_and]at h8
      go_wp2_with fail
      refine(c5.out _ (zD H8.out b1.out)).mono ?_
      rintro e w4 ⟨rfl,d4⟩
      have d9:=Kh d4
      clear d4 c5
      cases bn with
      | false =>
       have HF:Hid (choB ps.length cs k=false):=Kh h8.out
       go_wp2
       go_ret
       exact⟨yF (by rw[H9.out,nV (by rw[<- h7.out];exact hk) HF.out]),zB h0.out (zB (zB (zB HG.out H8.out (by simp)) b1.out (by simp)) d9.out (by simp)) (by simp)⟩
      | true =>
       go_wp2
       go_roundg (nc - (k+1))
       case measure=>have:=H7.out;omega
       case rel=>exact⟨k+1,by have:=H7.out;omega,by go_num,oZ e2.out h8.out,zB (zB (zB HG.out H8.out (by simp)) b1.out (by simp)) d9.out (by simp)⟩
    ·have a0:¬ (k:Int) < nc:=by omega
     have b2:=Kh (cQ (root:=root) (by rw[<- h7.out];exact hk) e2.out)
     rw[<- h7.out]at b2
     obtain⟨p0,p1,p2⟩:=zJ (zA c8.out hg (by simp))
     clear hg
     by_cases h5:root < 0
     ·go_wp2
      go_ret
      exact⟨yF (by rw[H9.out,b2.out,if_neg (by omega)]),zB h0.out (HG.out) (by simp)⟩
     by_cases h6:1+(nc:Int) < root
     ·go_wp2
      go_ret
      exact⟨yF (by rw[H9.out,b2.out,if_neg (by omega)]),zB h0.out (HG.out) (by simp)⟩
     go_wp2
     go_ret
     exact⟨yF (by rw[H9.out,b2.out,if_pos (by omega)]),zB h0.out (HG.out) (by simp)⟩
end Go.Proofs.Ytjfdomfendbhfaa
