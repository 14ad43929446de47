/- Part 5 of the proof. -/
import Derived.Test.YtiknckajkdlppaaGreatQb4
set_option linter.unusedVariables false
set_option linter.unusedSimpArgs false
set_option maxRecDepth 100000
set_option maxHeartbeats 16000000
namespace Go.Proofs.YtiknckajkdlppaaGreat
open Go.RowKit
variable{B e n r q k i a:Nat}{w w' a9:World}{v:Value}{xs:List Value}{F:Nat->Prop}{p l f g:List Nat}{cs:Array Value}{m d:DfaV}{ts:List (List Nat)}
theorem RowT.shape {e:TypeId}(h:RowT B e w v xs):∃a cap,v=.slice a xs.length cap:=by
 rcases h with ⟨rfl,rfl⟩|⟨b,off,cap,cur,m,rfl,_⟩
 ·exact⟨none,0,rfl⟩
 exact⟨_,_,rfl⟩
theorem Mat.of_rows {base:Nat}{hs:List Value}{t:List (List Int)}(h:w.ownsRow base e 1 v n hs)(hr:tN B 3 ints w hs t)(hB:B<=w.heap.size):Mat w.heap.size w v t:=by
 have hl:hs.length=n:=by have:=h.1;omega
 have h3:=hr.1;rcases h.2 with ⟨rfl,rfl⟩|⟨g,cap,cur,rfl,hb,hg,hnc,hcm,hcs,htake⟩
 ·have:hs=[]:=List.eq_nil_of_length_eq_zero hl
  subst this;exact .inl ⟨_,_,rfl,List.eq_nil_of_length_eq_zero (by simpa using h3.symm)⟩
 have h0:∀x,∃a c,x<t.length->hs.getD x (.int .i64 0)=.slice a (t.getD x []).length c:=by
  intro x;by_cases hx:x<t.length
  ·have h1:=hr.2 x yo hx
   obtain⟨a,c,e⟩:=h1.shape;refine⟨a,c,fun _=>?_⟩;rw[zQ yo,e,zL,zQ hx]
  exact⟨none,0,fun h=>absurd h hx⟩
 obtain⟨A,hA⟩:=Classical.axiomOfChoice h0;obtain⟨C,hC⟩:=Classical.axiomOfChoice hA;refine .inr ⟨g,0,cap,A,C,?_,yo,hcm,zS hg,zS hg,fun x hx=>?_,fun x hx=>?_⟩
 ·rw[show n=t.length by omega]
 ·rw[Nat.zero_add,h.cellAt x yo,List.getElem?_eq_getElem yo,<-hC x hx,zQ (show x<hs.length by omega)]
 have h1:=hr.2 x yo hx;have h2:=hC x hx;rw[zQ (show x<hs.length by omega)]at h2;rw[<-h2,zQ hx];exact h1.row.mono hB
theorem RowT.keptF {e:TypeId}(h:RowT B e w v xs)(hg:GrownBut w w' F)(hr:∀k,F k->B<=k\/yS w e k):RowT B e w' v xs:=by
 rcases h with h|⟨b,off,cap,cur,m,h1,h2,h3,h4,h5,h6⟩
 ·exact .inl h
 refine .inr ⟨b,off,cap,cur,m,h1,h2,h3,h4,hg.heap h5 (fun hf=>?_),h6⟩;rcases hr b hf with hk|⟨cur',e',m',hk,hne⟩
 ·omega
 rw[h5]at hk;simp at hk;exact hne hk.2.1.symm
theorem tN.keptF {α:Type}{e:TypeId}{f:α->List Value}{a9:List Value}{ps:List α}(h:tN B e f w a9 ps)(hg:GrownBut w w' F)(hr:∀k,F k->B<=k\/yS w e k):tN B e f w' a9 ps :=
 ⟨h.1,fun i h1 h2=>(h.2 i h1 h2).keptF hg hr⟩
theorem vS {p:Nat}{x0 x1 x2 x3:Value}(h:w.heap[p]?=some (.cells #[x0,x1,x2,x3] e (0,0)))(y0 y1 y2 y3:Value):((((w.setCell ⟨p,0,none⟩ y0).setCell ⟨p,1,none⟩ y1).setCell ⟨p,2,none⟩ y2).setCell ⟨p,3,none⟩ y3).heap[p]?=some (.cells #[y0,y1,y2,y3] e (0,0))/\w.grownBy ((((w.setCell ⟨p,0,none⟩ y0).setCell ⟨p,1,none⟩ y1).setCell ⟨p,2,none⟩ y2).setCell ⟨p,3,none⟩ y3) (some p):=by
 have s0:=heap_setCell_same w p 0 _ _ y0 h;have s1:=heap_setCell_same _ p 1 _ _ y1 s0;have s2:=heap_setCell_same _ p 2 _ _ y2 s1;have s3:=heap_setCell_same _ p 3 _ _ y3 s2;refine⟨by rw[s3];simp,?_⟩;exact zI (zI (zI (zH w ⟨p,0,none⟩ y0) (zH (w.setCell ⟨p,0,none⟩ y0) ⟨p,1,none⟩ y1)) (zH ((w.setCell ⟨p,0,none⟩ y0).setCell ⟨p,1,none⟩ y1) ⟨p,2,none⟩ y2)) (zH (((w.setCell ⟨p,0,none⟩ y0).setCell ⟨p,1,none⟩ y1).setCell ⟨p,2,none⟩ y2) ⟨p,3,none⟩ y3)
structure Built (base:Nat)(W:World)(o:Nat)(L S:Int)(fs:List Bool)(t:List (List Int))(hs:List Value)(sf:Option Addr)(cf:Nat)(sn:Option Addr)(cn:Nat):Prop where
 box:W.heap[o]?=some (.cells #[.int .i64 L,.int .i64 S,.slice sf fs.length cf,.slice sn t.length cn] 29 (0,0))
 ownF:W.ownsRow base 4 1 (.slice sf fs.length cf) fs.length (bls fs)
 ownN:W.ownsRow base 22 1 (.slice sn t.length cn) t.length hs
 rows:tN W.heap.size 3 ints W hs t
 len:fs.length=t.length
section
variable {base o:Nat} {W W':World} {L S:Int} {fs:List Bool} {t:List (List Int)} {hs:List Value} {sf sn:Option Addr} {cf cn:Nat}
theorem Built.grow (h:Built base W o L S fs t hs sf cf sn cn)(hg:W.grownBy W' none):Built base W' o L S fs t hs sf cf sn cn where
 box:=zD h.box hg
 ownF:=yY h.ownF hg yq
 ownN:=yY h.ownN hg yq
 rows:=(h.rows.kept hg yq).mono hg.size
 len:=h.len
theorem Built.dfa (h:Built base W o L S fs t hs sf cf sn cn):rP W.heap.size W (.agg #[.int .i64 L,.int .i64 S,.slice sf fs.length cf,.slice sn t.length cn]) ⟨L,S,fs,t⟩ :=
 ⟨_,_,rfl,Row.of_owns h.ownF,Mat.of_rows h.ownN h.rows (Nat.le_refl _)⟩
theorem Built.far {m:Nat×Nat}(h:Built base W o L S fs t hs sf cf sn cn)(hg:W.grownBy W' (some r))(hr:W.heap[r]?=some (.cells cs 29 m))(a9:r≠o):Built base W' o L S fs t hs sf cf sn cn where
 box:=zD h.box hg (fun e=>a9 (Oj e))
 ownF:=h.ownF.kept hg (.inr (zR h.ownF hr jd))
 ownN:=h.ownN.kept hg (.inr (zR h.ownN hr jd))
 rows:=(h.rows.kept hg (fun k hk=>.inr (by have:=Oj hk;subst this;exact⟨_,_,_,hr,jd⟩))).mono hg.size
 len:=h.len
theorem Built.congr {a9:List Bool}{t':List (List Int)}(h:Built base W o L S fs t hs sf cf sn cn)(e1:a9=fs)(e2:t'=t):Built base W o L S a9 t' hs sf cf sn cn:=by rw[e1,e2];exact h
def rN (base:Nat)(n:Nat)(hs:List Value)(sn:Option Addr)(cn:Nat):RowS:=⟨base,22,.slice sn n cn,n,hs,1⟩
def rF (base:Nat)(fs:List Bool)(sf:Option Addr)(cf:Nat):RowS:=⟨base,4,.slice sf fs.length cf,fs.length,bls fs,1⟩
theorem Built.apart (h:Built base W o L S fs t hs sf cf sn cn):∀k,(Value.slice sn t.length cn).ownBlock=some k->(Value.slice sf fs.length cf).ownBlock≠some k:=by
 intro k hk e;rcases h.ownF.2 with ⟨hv,_⟩|⟨g,cap,cur,hv,_,hg,_⟩
 ·rw[hv]at e;simp[Value.ownBlock]at e
 rw[hv]at e;have:g=k:=by simpa [Value.ownBlock] using e
 subst this;exact zR h.ownN hg jd hk
def FB (sf:Option Addr)(sn:Option Addr)(k:Nat):Prop:=(Value.slice sn 0 0).ownBlock=some k\/(Value.slice sf 0 0).ownBlock=some k
theorem yG (s:Option Addr)(n c:Nat):(Value.slice s n c).ownBlock=(Value.slice s 0 0).ownBlock:=by cases s<;>rfl
theorem Built.many (h:Built base W o L S fs t hs sf cf sn cn):Many W (FB sf sn) W [rN base t.length hs sn cn,rF base fs sf cf] [] []:=by
 have:=Many.two (w:=W) (r:=rN base t.length hs sn cn) (s:=rF base fs sf cf) h.ownN h.ownF h.apart
 have e:(fun k=>(rN base t.length hs sn cn).v.ownBlock=some k\/(rF base fs sf cf).v.ownBlock=some k)=FB sf sn:=by
  funext k;simp only[rN,rF,FB,yG sn t.length,yG sf fs.length]
 rwa [e]at this
theorem Built.other (h:Built base W o L S fs t hs sf cf sn cn):∀k,FB sf sn k->yS W 3 k:=by
 intro k hk;rcases hk with hk|hk
 ·rw[<-yG sn t.length cn]at hk;exact wH h.ownN jd k hk
 rw[<-yG sf fs.length cf]at hk;exact wH h.ownF jd k hk
theorem Built.notbox (h:Built base W o L S fs t hs sf cf sn cn):¬FB sf sn o:=by
 rintro (hk|hk)
 ·rw[<-yG sn t.length cn]at hk;exact zR h.ownN h.box jd hk
 rw[<-yG sf fs.length cf]at hk;exact zR h.ownF h.box jd hk
theorem Built.ge (h:Built base W o L S fs t hs sf cf sn cn):∀k,FB sf sn k->base<=k:=by
 rintro k (hk|hk)
 ·rw[<-yG sn t.length cn]at hk;exact(h.ownN.lt k hk).1
 rw[<-yG sf fs.length cf]at hk;exact(h.ownF.lt k hk).1
theorem Built.push {m:Nat}{b:Bool}{row:List Int}{rv:Value}{a7 a9:Option Addr}{a6 a8:Nat}{ls:List (Nat×Obj)}{ps:List (Nat×TypeId×List Value)}(h:Built base W o L S fs t hs sf cf sn cn)(hm:t.length=m)(hM:Many W (FB sf sn) W' [⟨base,22,.slice a9 (m+1) a8,m+1,hs++[rv],1⟩,⟨base,4,.slice a7 (m+1) a6,m+1,bls fs++[.bool b],1⟩] ls ps)(a5:RowT W.heap.size 3 W rv (ints row)){W2:World}(a4:W2=(W'.setCell ⟨o,3,none⟩ (.slice a9 (m+1) a8)).setCell ⟨o,2,none⟩ (.slice a7 (m+1) a6)):Built base W2 o L S (fs++[b]) (t++[row]) (hs++[rv]) a7 a6 a9 a8/\∀w0:World,w0.grownBy W (some o)->w0.heap.size<=base->w0.grownBy W2 (some o):=by
 have h2:fs.length=m:=h.len.trans hm;have hN:=hM.own 0 _ rfl;have hF:=hM.own 1 _ rfl;simp only[]at hN hF;have h0:=hM.but.heap h.box h.notbox;have h1:=(h.rows.snoc a5).keptF hM.but (fun k hk=>.inr (h.other k hk));have s1:=heap_setCell_same W' o 3 _ _ (.slice a9 (m+1) a8) h0;have s2:=heap_setCell_same _ o 2 _ _ (.slice a7 (m+1) a6) s1;have g1:W'.grownBy W2 (some o):=by rw[a4];exact zI (zH W' ⟨o,3,none⟩ _) (zH (W'.setCell ⟨o,3,none⟩ (.slice a9 (m+1) a8)) ⟨o,2,none⟩ _)
 have h3:yS W' 3 o:=⟨_,_,_,h0,jd⟩;refine⟨⟨?_,?_,?_,?_,by simp[h.len]⟩,fun w0 hw0 hb=>?_⟩
 ·rw[a4,s2]
  simp[h2,hm]
 ·have:=hF.kept g1 (.inr (zR hF h0 jd))
  rw[List.length_append,h2];simpa [bls] using this
 ·have:=hN.kept g1 (.inr (zR hN h0 jd))
  rw[List.length_append,hm];exact this
 ·exact(h1.kept g1 (fun k hk=>.inr (by have:=Oj hk;subst this;exact h3))).mono (Nat.le_trans hM.but.size g1.size)
 exact zI (hM.but.grown hw0 (fun k hk=>.inr (Nat.le_trans hb (h.ge k hk)))) g1
def rT (w w':World)(v:Value)(m:DfaV):Prop:=∃(o:Nat) (hs:List Value) (sf:Option Addr) (cf:Nat) (sn:Option Addr) (cn:Nat),
 v=.agg #[.int .i64 m.letters,.int .i64 m.start,.slice sf m.final.length cf,.slice sn m.next.length cn]/\w.heap.size<=o/\Built o w' o m.letters m.start m.final m.next hs sf cf sn cn
theorem rT.dfa (h:rT w w' v m):rP w'.heap.size w' v m:=by
 obtain⟨o,hs,sf,cf,sn,cn,rfl,_,hb⟩:=h;exact hb.dfa
theorem rT.grow (h:rT w w' v m)(hg:w'.grownBy a9 none):rT w a9 v m:=by
 obtain⟨o,hs,sf,cf,sn,cn,h1,h2,hb⟩:=h;exact⟨o,hs,sf,cf,sn,cn,h1,h2,hb.grow hg⟩
theorem rT.far {mm:Nat×Nat}(h:rT w w' v m)(hg:w'.grownBy a9 (some r))(hr:w'.heap[r]?=some (.cells cs 29 mm))(a8:r<w.heap.size):rT w a9 v m:=by
 obtain⟨o,hs,sf,cf,sn,cn,h1,h2,hb⟩:=h;exact⟨o,hs,sf,cf,sn,cn,h1,h2,hb.far hg hr yo⟩
end
def rB (n:Nat)(l:List Nat):List Int:=(List.range n).map fun q=>qJ l q
theorem uO (n:Nat)(l:List Nat):(rB n l).length=n:=by simp[rB]
theorem dW (h:q<n):(rB n l).getD q 0=qJ l q:=by
 rw[zQ (by rw[uO];exact h)];simp[rB]
theorem dV (n:Nat):rB n []=List.replicate n (-1):=by
 refine List.ext_getElem (by simp[rB]) fun i h1 h2=>by simp[rB,qJ]
theorem dU (hq:q ∉ l):(rB n l).set q (l.length:Int)=rB n (l++[q]):=by
 refine List.ext_getElem (by simp[rB]) fun i h1 h2=>?_;rw[List.getElem_set];simp only[rB,List.getElem_map,List.getElem_range,qJ];by_cases e:q=i
 ·subst e
  rw[if_pos rfl,if_pos yq,List.idxOf_append,if_neg hq];simp
 rw[if_neg e];by_cases hi:i∈l
 ·rw[if_pos hi,if_pos (by simp[hi]),List.idxOf_append,if_pos hi]
 rw[if_neg hi,if_neg (by simp[hi,Ne.symm e])]
def iR (n k:Nat):List Int:=List.replicate k (-1)++List.replicate (n-k) 0
theorem pQ (h:k<=n):(iR n k).length=n:=by simp[iR];omega
theorem qBR (h:k<n):(iR n k).set k (-1)=iR n (k+1):=by
 unfold iR;rw[List.set_append_right _ _ yq,List.length_replicate,Nat.sub_self,show n-k=(n-(k+1))+1 by omega,List.replicate_succ,List.set_cons_zero,List.replicate_succ',List.append_assoc];rfl
def qTF (w:World)(m:DfaV)(e:Ending)(w':World):Prop:=∃v p,e=.returned (.tuple #[v,p])/\rT w w' v m/\w.grownBy w' none
def nQ (d:DfaV)(l:List Nat)(i:Nat):List Bool:=(l.take i).map fun q=>d.final.getD q false
def nO (d:DfaV)(l:List Nat)(i:Nat):List (List Int):=(l.take i).map fun q=>vV l (d.next.getD q [])
theorem qCS (h:i<l.length):nQ d l (i+1)=nQ d l i++[d.final.getD (l.getD i 0) false]:=by
 simp only[nQ,yH (d:=0) h,List.map_append,List.map_cons,List.map_nil]
theorem qCQ (h:i<l.length):nO d l (i+1)=nO d l i++[vV l (d.next.getD (l.getD i 0) [])]:=by
 simp only[nO,yH (d:=0) h,List.map_append,List.map_cons,List.map_nil]
theorem bM (h:i<=l.length):(nQ d l i).length=i:=by simp[nQ];omega
theorem bL (h:i<=l.length):(nO d l i).length=i:=by simp[nO];omega
theorem qCR (hd:VD d n k)(hq:q<n)(ha:a<k):(vV l (d.next.getD q [])).getD a 0=qJ l (nx d q a):=by
 rw[vV,xY (x:=0) (by rw[hd.row q hq];exact ha)];rfl
theorem lX (hd:VD d n k)(hq:q<n):(vV l (d.next.getD q [])).length=k:=by rw[vV,List.length_map,hd.row q hq]
theorem eH (l:List Int)(x:Int):ints (l++[x])=ints l++[.int .i64 x]:=by simp[ints]
theorem qML (B:Nat)(w:World)(v:Value)(d:DfaV)(n k:Nat)(hB:B<=w.heap.size)(h:rP B w v d)(hd:VD d n k):Calls Tryz.prog 38 #[v] w (qTF w (wX d k)):=by
 have a4:=h;obtain⟨fb,fo,fc,b,off,cap,RB,RO,RC,rfl,b6⟩:=h.at hd;have hn:=hd.hn;have n7:=hd.n1;have i9:=hd.nbig;have o6:=hd.k6;have o7:=hd.k1;have p1:=b6.fcap.1;have c9:=b6.fcap.2;have p2:=b6.cap.1;have d4:=b6.cap.2;have m0:fc<=9223372036854775807:=jl c9
 have l9:cap<=9223372036854775807:=jl d4
 obtain⟨S,hS⟩:=Nm (st0 d);have p9:=Kh hS;have i3:dAgg k (st0 d) fb fo fc b off cap n=.agg #[.int .i64 (k:Int),.int .i64 (S:Int),.slice (some ⟨fb,fo,none⟩) n fc,.slice (some ⟨b,off,none⟩) n cap]:=by rw[hS];rfl
 rw[i3]at a4⊢;obtain⟨d5,e8,c7,i2⟩:=rK w #[.int .i64 (k:Int),.int .i64 (S:Int),.slice (some ⟨fb,fo,none⟩) n fc,.slice (some ⟨b,off,none⟩) n cap] #[.int .i64 0,.int .i64 0,.slice none 0 0,.slice none 0 0] 29;obtain⟨wA,f8⟩:=Nm ((w.alloc (.cells #[.int .i64 (k:Int),.int .i64 (S:Int),.slice (some ⟨fb,fo,none⟩) n fc,.slice (some ⟨b,off,none⟩) n cap] 29)).alloc (.cells #[.int .i64 0,.int .i64 0,.slice none 0 0,.slice none 0 0] 29));rw[<-f8]at d5 e8 c7 i2;obtain⟨c0,c1,c2,c3⟩:=zM d5;obtain⟨P,hP⟩:=Nm w.heap.size;have g5:=Kh hP;rw[<-hP]at d5 e8 c0 c1 c2 c3 i2 hB;obtain⟨f1,n2,m7,m4⟩:=Kd d5 e8 c7 f8;have n3:=Kh (b6.kept c7 yq);have HN:=Kh hn;have HD:=Kh hd;have l1:=Kh (qHY B wA _ d n k yo (a4.kept c7 yq) hd);clear d5 e8 c7 f8 b6 hn hd h a4 i3 c9 d4 hS;go_enter Tryz.func38,Tryz.ntmps38;go_upto_region 1 with fail;rw[<-m4.out,<-g5.out];clear hP;go_wp2_with fail;refine l1.out.mono ?_;rintro e w1 ⟨sa,sc,vw,rfl,h9,e7⟩;obtain⟨H5,m2⟩:=wV HD.out;obtain⟨l,hl⟩:=Nm (yN d k);have HL:=Kh hl;rw[<-hl]at h9 H5 m2⊢;have H4:=H5.hd.1;obtain⟨gl,rfl,o5,o4,d6⟩:=yV h9 H4;have o9:=(h9.lt gl rfl).1;obtain⟨i1,b8,b3⟩:=Kc d6 e7 H5;have n5:=e7.size;obtain⟨d0,d1,d2,d3⟩:=zM (zD f1.out e7);clear hl h9 d6 e7 H5 l1 c0 c1 c2 c3;go_wp2_with (first|(at_make;refine pL rfl _ _ _ rfl yJ rfl .i64 .i64 _ _ n rfl rfl rfl rfl ?b1 ?b2 ?_;(case b1=>omega);(case b2=>(unfold maxLen;omega));intro w2 h4 j4 f5)|fail);obtain⟨G,hG⟩:=Nm w1.heap.size;rw[<-hG]at h4 f5⊢;obtain⟨l2,k7,g8⟩:=Kc h4 j4 hG;have p5:P+1<G:=yo
 clear h4 j4 hG d0 d1 d2 d3
 go_loopg [7,27] n (fun gh a7 i wr=>∃q:Nat,gh+q=n/\i=.int .i64 q/\Arr wr G 3 (ints (iR n q))/\w1.grownBy wr none)
 case atStart=>exact⟨0,rfl,rfl,by simpa [iR,pS] using l2.out,k7.out⟩
 clear l2 k7;obtain⟨q,hg,rfl,h4,h5⟩:=hrel;obtain⟨HG,HA,H0⟩:=Kc hg h4 h5;clear hg;by_cases hq:q<n
 ·have l7:(q:Int)<n:=yo
  have cgk:=h4.int q (by rw[pQ yo];exact hq);have fgk:=h4.frozen q;have HS:=Kh (qBR hq);clear h4 h5;go_wp2;go_roundg (n-(q+1))
  case measure=>have:=HG.out;omega
  refine⟨q+1,yo,by go_num,?_,zE H0.out (zH wr ⟨G,q,none⟩ _) (fun q e=>by have h7:G=q:=Oj e;have:=g8.out;omega)⟩;rw[<-HS.out];exact HA.out.int_set q (by rw[pQ yo];exact hq) (-1)
 have i5:q=n:=by have:=HG.out;omega
 have HF:Hid (iR n q=rB n (l.take 0)):=Kh (by rw[i5,List.take_zero,dV];simp[iR]);rw[HF.out]at HA;have g7:=H0;clear i5 h4 h5 HG;obtain⟨w3,rfl⟩:=Nm (wr:World);go_wp2
 go_loopg [8,9,36] l.length (fun gh a8 a9 i wr=>∃q:Nat,gh+q=l.length/\i=.int .i64 q/\Arr wr G 3 (ints (rB n (l.take q)))/\w1.grownBy wr none)
 case atStart=>exact⟨0,rfl,rfl,HA.out,H0.out⟩
 clear HA H0 HF;obtain⟨q,hg,rfl,h4,h5⟩:=hrel;obtain⟨HG,HA,H0⟩:=Kc hg h4 h5;clear hg;by_cases hq:q<l.length
 ·have l7:(q:Int)<l.length:=yo
  have cl:=(i1.out.kept h5 yq).nat q hq;have f3:l.getD q 0<n:=b3.out.lt _ (by rw[zQ hq];exact List.getElem_mem _);have e5:l.take (q+1)=l.take q++[l.getD q 0]:=yH hq
  have a0:l.getD q 0 ∉ l.take q:=by
   have h1:=b3.out.nd;have h2:(l.take (q+1)).Nodup:=h1.sublist (List.take_sublist _ _);rw[e5,List.nodup_append]at h2;exact fun hm=>h2.2.2 _ hm _ yq rfl
  obtain⟨s,hs⟩:=Nm (l.getD q 0);rw[<-hs]at cl f3 e5 a0;have l4:(s:Int)<n:=yo;have cgk:=h4.int s (by rw[uO];exact f3);have fgk:=h4.frozen s
  have HS:Hid ((rB n (l.take q)).set s (q:Int)=rB n (l.take (q+1))):=Kh (by
   have:=dU (n:=n) a0;rw[List.length_take,Nat.min_eq_left yo]at this
   rw[this,e5])
  clear h4 h5 e5 a0 hs;go_wp2;go_roundg (l.length-(q+1))
  case measure=>have:=HG.out;omega
  refine⟨q+1,yo,by go_num,?_,zE H0.out (zH wr ⟨G,s,none⟩ _) (fun q e=>by have h7:G=q:=Oj e;have:=g8.out;omega)⟩;rw[<-HS.out];exact HA.out.int_set s (by rw[uO];exact f3) (q:Int)
 have i6:q=l.length:=by have:=HG.out;omega
 have i8:l.take q=l:=by rw[i6];exact List.take_length
 rw[i8]at HA h4;have k2:=Kh h4;have h8:=Kh h5;clear i6 i8 h4 HA HG h5 g7;obtain⟨w4,rfl⟩:=Nm (wr:World);obtain⟨d0,d1,d2,d3⟩:=zM (zD (zD f1.out b8.out) h8.out);go_upto_region 14 with fail;obtain⟨O,hO⟩:=Nm w4.heap.size;obtain⟨w6,e4⟩:=Nm (w4.alloc (.cells #[.int .i64 (k:Int),.int .i64 0,.slice none 0 0,.slice none 0 0] 29));rw[<-e4,<-hO];have a2:w4.grownBy w6 none:=(by rw[e4];exact Ga w4 _ none);have j6:w6.heap[O]?=some (.cells #[.int .i64 (k:Int),.int .i64 0,.slice none 0 0,.slice none 0 0] 29 (0,0)):=by rw[e4,hO];exact heap_alloc_new w4 _
 have k0:Built O w6 O k 0 [] [] [] none 0 none 0:=⟨j6,World.ownsRow_nil _ _ _ _,World.ownsRow_nil _ _ _ _,tN.nil,rfl⟩;obtain⟨k9,e0,d8⟩:=Kc k0 a2 hO;have p6:G<O:=(by rw[hO];have:=k2.out.lt;omega);have p4:P+1<O:=yo;have l3:=a2.size;clear d0 d1 d2 d3 j6 k0 a2 e4 hO;go_wp2
 go_loopg [51] l.length (fun gh i wr=>∃(i':Nat) (hs:List Value) (sf:Option Addr) (cf:Nat) (sn:Option Addr) (cn:Nat),gh+i'=l.length/\i=.int .i64 i'/\Built O wr O k 0 (nQ d l i') (nO d l i') hs sf cf sn cn/\w4.grownBy wr (some O))
 case atStart=>exact⟨0,[],none,0,none,0,rfl,rfl,k9.out,vM e0.out⟩
 clear k9 e0;obtain⟨i,hs,sf,cf,sn,cn,hg,rfl,a6,h5⟩:=hrel;obtain⟨k5,e1,H0⟩:=Kc hg a6 h5;have n4:=h5.size;clear hg;by_cases hi:i<l.length
 ·have o8:(i:Int)<l.length:=yo
  have b7:O≠P:=yo;have f6:O≠gl:=(by have:=i1.out.lt;have:=g8.out;omega);have c6:∀x,Hid (x<w4.heap.size->x≠O):=fun x=>Kh (fun h e=>by have:=d8.out;omega);have cl:=((i1.out.kept h8.out yq).kept h5 (fun e=>f6 (Oj e))).nat i hi;have H3:l.getD i 0<n:=b3.out.lt _ (by rw[zQ hi];exact List.getElem_mem _);have f0:=Kh (qCS (d:=d) hi);have f9:=Kh (qCQ (d:=d) hi);have a3:=bM (d:=d) (Nat.le_of_lt hi);have H7:=bL (d:=d) (Nat.le_of_lt hi);obtain⟨q0,i7⟩:=Nm (l.getD i 0);rw[<-i7]at cl H3 f0 f9;have l6:(q0:Int)<n:=yo;have p7:B<=O:=yo
  have hA:=((n3.out.kept b8.out yq).kept h8.out yq).kept h5 (fun k e=>by have:=Oj e;omega);have ch:=hA.hd q0 H3;obtain⟨d0,d1,d2,d3⟩:=zM (zD (zD (zD f1.out b8.out) h8.out) h5 (fun e=>b7 (Oj e)));obtain⟨wo,rfl⟩:=Nm (wr:World);have i0:=Kh hA;clear hA a6 h5 i7;go_wp2
  go_loopg [13,61] k (fun gh ov i wr=>∃(a:Nat) (sr:Option Addr) (cr:Nat),gh+a=k/\i=.int .i64 a/\ov=.slice sr a cr/\wr.ownsRow wo.heap.size 3 1 (.slice sr a cr) a (ints ((vV l (d.next.getD q0 [])).take a))/\wo.grownBy wr none)
  case atStart=>exact⟨0,none,0,rfl,rfl,rfl,by simpa [ints] using World.ownsRow_nil _ _ _ _,zX _ _⟩
  obtain⟨a,sr,cr,hg,rfl,rfl,c4,h5⟩:=hrel;obtain⟨k4,H6,g6⟩:=Kc hg c4 h5;clear hg c4 d0 d1 d2 d3;by_cases ha:a<k
  ·have p3:(a:Int)<k:=yo
   have hA:=i0.out.kept h5 yq;have ce:=hA.el q0 a H3 ha;have n6:=(hA.rcap q0 H3).1;have f4:=mF HD.out H3 ha;have cp:=(((k2.out.kept H0.out (fun e=>by have:=Oj e;omega)).kept h5 yq)).int (nx d q0 a) (by rw[uO];exact f4);rw[dW f4]at cp
   have g1:Hid ((vV l (d.next.getD q0 [])).take (a+1)=(vV l (d.next.getD q0 [])).take a++[qJ l (nx d q0 a)]):=Kh (by
    rw[yH (d:=0) (by rw[lX HD.out H3];exact ha),qCR HD.out H3 ha])
   obtain⟨s,hs⟩:=Nm (nx d q0 a);rw[<-hs]at ce f4 cp g1;obtain⟨c,hc⟩:=Nm (qJ l s);rw[<-hc]at cp g1;have e6:=h5.size;have l8:(s:Int)<n:=yo;clear hA hs hc h5;go_wp2_with (first|(at_builtin;refine app1 rfl _ _ _ rfl yJ wo.heap.size _ a (ints ((vV l (d.next.getD q0 [])).take a)) rfl H6.out _ rfl rfl ?c1 ?c2 ?c3 ?_)|fail)
   case c1=>unfold maxLen;omega
   case c2=>omega
   case c3=>exact e6
   intro sa' sc' w6 H8 j3 m1;have m6:=Kh H8;have m9:=Kh j3;clear H8 j3;go_wp2;go_roundg (k-(a+1))
   case measure=>have:=k4.out;omega
   refine⟨a+1,sa',sc',yo,by go_num,rfl,?_,zE g6.out m9.out (fun q e=>(H6.out.lt q e).1)⟩;rw[g1.out,eH];exact m6.out
  have j7:a=k:=by have:=k4.out;omega
  have i4:(vV l (d.next.getD q0 [])).take a=vV l (d.next.getD q0 []):=by rw[j7,<-lX HD.out (l:=l) H3];exact List.take_length
  rw[i4]at H6;obtain⟨w5,f2⟩:=Nm wr.drew;have m5:=Kh f2;have a1:wr.grownBy w5 none:=(by rw[f2];exact zY wr none);have b0:=Kh ((e1.out.grow h5).grow a1);have g2:Hid (RowT w5.heap.size 3 w5 (.slice sr a cr) (ints (vV l (d.next.getD q0 [])))):=Kh (RowT.of_owns (yY H6.out a1 yq));have n0:=Kh (zI H0.out (vM (zI h5 a1) (row:=some O)));have j9:=b0.out.box;have H1:=Kh j9;have k3:=Kh b0.out.notbox;have b4:O<=w5.heap.size:=by have:=h5.size;have:=a1.size;have:=d8.out;omega
  have cq:=(((i0.out.kept h5 yq).kept a1 yq)).fin H3;obtain⟨_,_,d2,_⟩:=zM (zD (zD (zD (zD (zD f1.out b8.out) h8.out) H0.out (fun e=>b7 (Oj e))) h5) a1);have p0:=i0.out.flt;have m3:O≠fb:=yo;obtain⟨bq,j5⟩:=Nm (d.final.getD q0 false);rw[<-j5]at cq f0;obtain⟨fsl,c8⟩:=Nm (nQ d l i);obtain⟨tsl,b9⟩:=Nm (nO d l i);rw[<-c8]at b0 H1 f0 a3;rw[<-b9]at b0 H1 f9 H7;have q4:=Kh a3;have p8:=Kh H7;obtain⟨m,hm⟩:=Nm i;rw[<-hm]at a3 H7;have g0:=Kh H7;have j8:=b0.out.many
  have hM:Many w5 (FB sf sn) w5 [⟨O,22,.slice sn m cn,m,hs,1⟩,⟨O,4,.slice sf m cf,m,bls fsl,1⟩] [] []:=by
   have h1:=j8;simp only[rN,rF,a3,H7]at h1;exact h1
  have l0:Hid (∀W:World,(W.cell? ⟨P,2,none⟩=some (.slice (some ⟨fb,fo,none⟩) n fc)/\W.cell? ⟨fb,fo+q0,none⟩=some (.bool bq))->∀(c:Nat) (X:Value),(W.setCell ⟨O,c,none⟩ X).cell? ⟨P,2,none⟩=some (.slice (some ⟨fb,fo,none⟩) n fc)/\(W.setCell ⟨O,c,none⟩ X).cell? ⟨fb,fo+q0,none⟩=some (.bool bq)):=Kh (fun W h c X =>
   ⟨by rw[World.cell?_setCell_far W ⟨O,c,none⟩ ⟨P,2,none⟩ X b7];exact h.1,by rw[World.cell?_setCell_far W ⟨O,c,none⟩ ⟨fb,fo+q0,none⟩ X m3];exact h.2⟩)
  have h0:Hid (∀W rs ls,Many w5 (FB sf sn) W rs ls []->(W.cell? ⟨P,2,none⟩=some (.slice (some ⟨fb,fo,none⟩) n fc)/\W.cell? ⟨fb,fo+q0,none⟩=some (.bool bq))/\(W.cell? ⟨O,3,none⟩=some (.slice sn m cn)/\W.cell? ⟨O,2,none⟩=some (.slice sf m cf))):=Kh (fun W rs ls h=>by
   have j2:=b0.out.ge;have hb:=h.but.heap H1.out k3.out;rw[a3,H7]at hb;obtain⟨_,_,e2,e3⟩:=zM hb
   exact⟨⟨h.but.cell d2 (fun hf=>by have:=j2 _ hf;simp only at this;omega),h.but.cell cq (fun hf=>by have:=j2 _ hf;simp only at this;omega)⟩,e3,e2⟩)
  rw[a3,H7]at H1;have n8:Hid (m=i):=Kh hm;have n9:m<=4194304:=yo
  clear j8 j9 i4 j7 f2 a1 h5 j5 c8 b9 hm a3 H7 cl ch c6 d2 cq;go_upto_region 23 with fail;refine wp_region_noPanic ?_;refine yI (G:=xM 15 (fun W=>W.cell? ⟨P,2,none⟩=some (.slice (some ⟨fb,fo,none⟩) n fc)/\W.cell? ⟨fb,fo+q0,none⟩=some (.bool bq)) (fun W=>W.cell? ⟨O,3,none⟩=some (.slice sn m cn)/\W.cell? ⟨O,2,none⟩=some (.slice sf m cf))) yk ?_;rw[<-m5.out];refine uB 0 ⟨(h0.out _ _ _ hM).1,fun _=>(h0.out _ _ _ hM).2⟩ ?_;refine qIM 1 ⟨(h0.out _ _ _ hM).1,fun _=>(h0.out _ _ _ hM).2⟩ ?_;refine uB 2 ⟨(h0.out _ _ _ hM).1,fun _=>(h0.out _ _ _ hM).2⟩ ?_;refine uB 5 ⟨(h0.out _ _ _ hM).1,fun _=>(h0.out _ _ _ hM).2⟩ ?_;refine qIM 6 ⟨(h0.out _ _ _ hM).1,fun _=>(h0.out _ _ _ hM).2⟩ ?_;refine uB 7 ⟨(h0.out _ _ _ hM).1,fun _=>(h0.out _ _ _ hM).2⟩ ?_;refine uB 8 ⟨(h0.out _ _ _ hM).1,fun _=>(h0.out _ _ _ hM).2⟩ ?_;refine uB 9 ⟨(h0.out _ _ _ hM).1,fun _=>(h0.out _ _ _ hM).2⟩ ?_;refine uB 10 ⟨(h0.out _ _ _ hM).1,fun _=>(h0.out _ _ _ hM).2⟩ ?_;refine uB 11 ⟨(h0.out _ _ _ hM).1,fun _=>(h0.out _ _ _ hM).2⟩ ?_;refine twoG (i:=3) (j:=12) yk rfl rfl (fun K hK=>?_) (fun K hK=>?_);go_simp;refine hK.out _ _ ⟨(h0.out _ _ _ (hM.alloc _)).1,fun _=>(h0.out _ _ _ (hM.alloc _)).2⟩ ?_;clear hK K
  try simp only[Act.put,sPa,sPb,sPc]
  refine twoG (i:=4) (j:=12) yk rfl rfl (fun K hK=>?_) (fun K hK=>?_);refine wR rfl (.tmp 74) (.tmp 76) 27 rfl xT 0 _ _ rfl ⟨_,_,_,_,_,(hM.alloc _),_,rfl,rfl,rfl,rfl,?g3,?g4,b4,_,_,_,List.Mem.head _,(by first|rfl|simp),rfl,?_⟩
  case g3=>(simp only[];unfold maxLen;omega)
  case g4=>(simp only[];omega)
  intro sa1 sc1 w1x h6;have H4:=h6.litcell (List.Mem.head _)
  try simp only[zW]at H4
  refine hK.out _ _ ⟨(h0.out _ _ _ h6).1,fun _=>(h0.out _ _ _ h6).2⟩ ?_;clear hK K
  try simp only[Act.put,sPa,sPb,sPc]
  refine uB 14 ⟨(h0.out _ _ _ h6).1,fun _=>(h0.out _ _ _ h6).2⟩ ?_;refine jg 12 fun K hK=>?_;go_simp;refine hK.out _ _ ⟨(h0.out _ _ _ (h6.alloc _)).1,fun _=>(h0.out _ _ _ (h6.alloc _)).2⟩ ?_;clear hK K
  try simp only[Act.put,sPa,sPb,sPc]
  rotate_left;go_simp;refine hK.out _ _ ⟨(h0.out _ _ _ ((hM.alloc _).alloc _)).1,fun _=>(h0.out _ _ _ ((hM.alloc _).alloc _)).2⟩ ?_;clear hK K
  try simp only[Act.put,sPa,sPb,sPc]
  refine jg 4 fun K hK=>?_;refine wR rfl (.tmp 74) (.tmp 76) 27 rfl xT 0 _ _ rfl ⟨_,_,_,_,_,((hM.alloc _).alloc _),_,rfl,rfl,rfl,rfl,?g3,?g4,b4,_,_,_,List.Mem.tail _ (List.Mem.head _),(by first|rfl|simp),rfl,?_⟩
  case g3=>(simp only[];unfold maxLen;omega)
  case g4=>(simp only[];omega)
  intro sa1 sc1 w1x h6;have H4:=h6.litcell (List.Mem.head _)
  try simp only[zW]at H4
  have c5:=h6.litcell (List.Mem.tail _ (List.Mem.head _))
  try simp only[zW]at c5
  refine hK.out _ _ ⟨(h0.out _ _ _ h6).1,fun _=>(h0.out _ _ _ h6).2⟩ ?_;clear hK K
  try simp only[Act.put,sPa,sPb,sPc]
  refine uB 14 ⟨(h0.out _ _ _ h6).1,fun _=>(h0.out _ _ _ h6).2⟩ ?_;rotate_left;go_simp;refine hK.out _ _ ⟨(h0.out _ _ _ (hM.alloc _)).1,fun _=>(h0.out _ _ _ (hM.alloc _)).2⟩ ?_;clear hK K
  try simp only[Act.put,sPa,sPb,sPc]
  refine jg 3 fun K hK=>?_;go_simp;refine hK.out _ _ ⟨(h0.out _ _ _ ((hM.alloc _).alloc _)).1,fun _=>(h0.out _ _ _ ((hM.alloc _).alloc _)).2⟩ ?_;clear hK K
  try simp only[Act.put,sPa,sPb,sPc]
  refine jg 4 fun K hK=>?_;refine wR rfl (.tmp 74) (.tmp 76) 27 rfl xT 0 _ _ rfl ⟨_,_,_,_,_,((hM.alloc _).alloc _),_,rfl,rfl,rfl,rfl,?g3,?g4,b4,_,_,_,List.Mem.head _,(by first|rfl|simp),rfl,?_⟩
  case g3=>(simp only[];unfold maxLen;omega)
  case g4=>(simp only[];omega)
  intro sa1 sc1 w1x h6;have H4:=h6.litcell (List.Mem.head _)
  try simp only[zW]at H4
  have c5:=h6.litcell (List.Mem.tail _ (List.Mem.head _))
  try simp only[zW]at c5
  refine hK.out _ _ ⟨(h0.out _ _ _ h6).1,fun _=>(h0.out _ _ _ h6).2⟩ ?_;clear hK K
  try simp only[Act.put,sPa,sPb,sPc]
  refine uB 14 ⟨(h0.out _ _ _ h6).1,fun _=>(h0.out _ _ _ h6).2⟩ ?_
  all_goals
   refine jg 13 fun K hK=>?_
   first
   | refine wR rfl (.tmp 79) (.tmp 85) 26 rfl xK 1 _ _ rfl ⟨_,_,_,_,_,(h6.alloc _),_,rfl,rfl,rfl,rfl,?g3,?g4,b4,_,_,_,List.Mem.head _,(by first|rfl|simp),rfl,?_⟩
   | refine wR rfl (.tmp 79) (.tmp 85) 26 rfl xK 1 _ _ rfl ⟨_,_,_,_,_,h6,_,rfl,rfl,rfl,rfl,?g3,?g4,b4,_,_,_,List.Mem.head _,(by first|rfl|simp),rfl,?_⟩
   | refine wR rfl (.tmp 79) (.tmp 85) 26 rfl xK 1 _ _ rfl ⟨_,_,_,_,_,h6,_,rfl,rfl,rfl,rfl,?g3,?g4,b4,_,_,_,List.Mem.tail _ (List.Mem.head _),(by first|rfl|simp),rfl,?_⟩
   case g3=>(simp only[];unfold maxLen;omega)
   case g4=>(simp only[];omega)
   intro sa2 sc2 w2x H9;have H4:=H9.litcell (List.Mem.head _)
   try simp only[zW]at H4
   have c5:=H9.litcell (List.Mem.tail _ (List.Mem.head _))
   try simp only[zW]at c5
   refine hK.out _ _ ⟨(h0.out _ _ _ H9).1,fun _=>(h0.out _ _ _ H9).2⟩ ?_;clear hK K
   try simp only[Act.put,sPa,sPb,sPc]
   refine jg 15 fun K hK=>?_;have b5:=H9.but.heap H1.out k3.out;have cb3:=zJ b5 3;have cb2:=zJ b5 2;have fb3:=zB b5 3;have fb2:=zB b5 2;simp only[sPd,sPe,sPf]at cb3 cb2;go_simp;have a5:=heap_setCell_same _ O 3 _ _ (.slice sa1 (m+1) sc1) b5;have cb22:=zJ a5 2;have fb22:=zB a5 2;simp at cb22;have e9:=l0.out _ (h0.out _ _ _ H9).1 3 (.slice sa1 (m+1) sc1);refine hK.out _ _ ⟨e9,fun h=>by simp at h⟩ ?_;clear hK K
   try simp only[Act.put,sPa,sPb,sPc]
   refine uB 16 ⟨e9,fun h=>by simp at h⟩ ?_;refine jg 17 fun K hK=>?_;go_simp;have d7:=l0.out _ e9 2 (.slice sa2 (m+1) sc2);refine hK.out _ _ ⟨d7,fun h=>by simp at h⟩ ?_;clear hK K
   try simp only[Act.put,sPa,sPb,sPc]
   refine uY yk ?_ _;refine NoPanic.normal ?_;obtain⟨a6,j1⟩:=b0.out.push (b:=bq) (row:=vV l (d.next.getD q0 [])) g0.out H9 g2.out rfl;have g9:=Kh a6;have m8:=Kh (j1 w4 n0.out (by have:=d8.out;omega));clear a6 j1 cb3 cb2 fb3 fb2 b5 a5 cb22 fb22 e9 d7 H9
   (try clear h6)
   go_wp2;go_roundg (l.length-(i+1))
   case measure=>have:=k5.out;omega
   exact⟨i+1,_,_,_,_,_,yo,by go_num,g9.out.congr f0.out f9.out,m8.out⟩
 have j0:i=l.length:=by have:=k5.out;omega
 have k8:Hid (nQ d l i=(wX d k).final/\nO d l i=(wX d k).next):=Kh (by
  rw[j0];simp only[nQ,nO,List.take_length];rw[HL.out]
  exact⟨rfl,rfl⟩)
 have b7:O≠P+1:=yo;have H2:=zD (zD (zD n2.out b8.out) h8.out) h5 (fun e=>b7 (Oj e));have r0:=zJ H2 0;have r1:=zJ H2 1;have r2:=zJ H2 2;have r3:=zJ H2 3;have q0:=zB H2 0;have q1:=zB H2 1;have q2:=zB H2 2;have q3:=zB H2 3;simp only[sPd,sPe,sPf]at r0 r1 r2 r3;have d9:=Kh H2;obtain⟨o0,o1,o2,o3⟩:=zM a6.box;clear a6 h5 H2 j0;go_wp2;refine bodyPost_ret (v:=.tuple #[.agg #[.int .i64 (k:Int),.int .i64 0,.slice sf (nQ d l i).length cf,.slice sn (nO d l i).length cn],.slice (some ⟨G,0,none⟩) n n]) (by simp[results,Tryz.results38,go_sem,r0,r1,r2,r3]) rfl ?_;obtain⟨l5,e6⟩:=vS d9.out (.int .i64 (k:Int)) (.int .i64 0) (.slice sf (nQ d l i).length cf) (.slice sn (nO d l i).length cn);have f7:=e1.out.far e6 d9.out (fun e=>b7 e.symm);refine⟨_,_,rfl,?_,?_⟩
 ·have he:wX d k=⟨(k:Int),0,nQ d l i,nO d l i⟩:=by
   rw[k8.out.1,k8.out.2];have:=HD.out.hk;simp only[wX,this]
  rw[he];exact⟨O,hs,sf,cf,sn,cn,rfl,by have h1:=h8.out.size;have h2:=d8.out;have h3:=g5.out;omega,f7⟩
 refine zE (zI m7.out (zI b8.out (zI h8.out (zE (zX _ _) H0.out (fun x e=>by have:=Oj e;have:=d8.out;omega))))) e6 (fun x e=>by have:=Oj e;have:=g5.out;omega)
def gP (d:DfaV)(p:List Nat)(i:Nat):List Bool:=(sF p i).map fun q=>d.final.getD q false
def gO (d:DfaV)(p:List Nat)(i:Nat):List (List Int):=(sF p i).map fun q=>tB p (d.next.getD q [])
theorem qKK (h:p.getD i 0=cls (p.take i)):gP d p (i+1)=gP d p i++[d.final.getD i false]:=by simp only[gP,uX h,List.map_append,List.map_cons,List.map_nil]
theorem qKH (h:p.getD i 0=cls (p.take i)):gO d p (i+1)=gO d p i++[tB p (d.next.getD i [])]:=by simp only[gO,uX h,List.map_append,List.map_cons,List.map_nil]
theorem qKJ (h:p.getD i 0≠cls (p.take i)):gP d p (i+1)=gP d p i:=by simp only[gP,uW h]
theorem qKG (h:p.getD i 0≠cls (p.take i)):gO d p (i+1)=gO d p i:=by simp only[gO,uW h]
theorem jQ (hd:VD d n k)(hq:q<n):(tB p (d.next.getD q [])).length=k:=by rw[tB,List.length_map,hd.row q hq]
theorem qKS (hd:VD d n k)(hq:q<n)(ha:a<k):(tB p (d.next.getD q [])).getD a 0=((p.getD (nx d q a) 0:Nat):Int):=by
 rw[iM (by rw[hd.row q hq];exact ha)];rfl
def qSD (w:World)(m:DfaV)(e:Ending)(w':World):Prop:=∃v,e=.returned v/\rT w w' v m/\w.grownBy w' none
theorem eC (B:Nat)(w:World)(v:Value)(d:DfaV)(n k:Nat)(hB:B<=w.heap.size)(h:rP B w v d)(hd:VD d n k):Calls Tryz.prog 21 #[v] w (qSD w (minD d k)):=by
 have a3:=h;obtain⟨fb,fo,fc,b,off,cap,RB,RO,RC,rfl,b4⟩:=h.at hd;have hn:=hd.hn;have o8:=hd.n1;have i6:=hd.nbig;have p1:=hd.k6;have p2:=hd.k1;have p6:=b4.fcap.1;have c5:=b4.fcap.2;have p7:=b4.cap.1;have c6:=b4.cap.2;have l6:fc<=9223372036854775807:=jl c5
 have l5:cap<=9223372036854775807:=jl c6
 obtain⟨S,hS⟩:=Nm (st0 d);have m3:S<n:=by rw[hS];exact jB hd
 have m9:=Kh hS;have i3:dAgg k (st0 d) fb fo fc b off cap n=.agg #[.int .i64 (k:Int),.int .i64 (S:Int),.slice (some ⟨fb,fo,none⟩) n fc,.slice (some ⟨b,off,none⟩) n cap]:=by rw[hS];rfl
 rw[i3]at a3⊢;obtain⟨c8,e6,b9,i2⟩:=rK w #[.int .i64 (k:Int),.int .i64 (S:Int),.slice (some ⟨fb,fo,none⟩) n fc,.slice (some ⟨b,off,none⟩) n cap] #[.int .i64 0,.int .i64 0,.slice none 0 0,.slice none 0 0] 29;obtain⟨wA,f6⟩:=Nm ((w.alloc (.cells #[.int .i64 (k:Int),.int .i64 (S:Int),.slice (some ⟨fb,fo,none⟩) n fc,.slice (some ⟨b,off,none⟩) n cap] 29)).alloc (.cells #[.int .i64 0,.int .i64 0,.slice none 0 0,.slice none 0 0] 29));rw[<-f6]at c8 e6 b9 i2;obtain⟨c0,c1,c2,c3⟩:=zM c8;obtain⟨P,hP⟩:=Nm w.heap.size;have f0:=Kh hP;rw[<-hP]at c8 e6 c0 c1 c2 c3 i2 hB;obtain⟨i0,n9,n5,m6⟩:=Kd c8 e6 b9 f6;have o0:=Kh (b4.kept b9 yq);have HN:=Kh hn;have HD:=Kh hd;have k9:=Kh (qEA B wA _ d n k yo (a3.kept b9 yq) hd);clear c8 e6 b9 f6 b4 hn hd h a3 i3 c5 c6 hS;go_enter Tryz.func21,Tryz.ntmps21;go_upto_region 1 with fail;rw[<-m6.out,<-f0.out];clear hP;go_wp2_with fail;refine k9.out.mono ?_;rintro e w1 ⟨G,rfl,m0,h7,e5⟩;have b1:(xU d k).length=n:=by rw[uI,HN.out]
 have e0:=rO d k;obtain⟨p,hp⟩:=Nm (xU d k);have HP:=Kh hp;rw[<-hp]at h7 b1 e0⊢;rw[b1];have H9:=mG e0;rw[b1]at H9;obtain⟨k5,d6,e9,a8,n3⟩:=Ke h7 e5 e0 b1 H9;have o2:=e5.size;have p4:=h7.1;obtain⟨d0,d1,d2,d3⟩:=zM (zD i0.out e5);have cp:=h7.nat S (by rw[b1];exact m3);rw[Nat.zero_add]at cp;obtain⟨ps,f2⟩:=Nm (p.getD S 0);have n2:=Kh f2;rw[<-f2]at cp;have m2:(S:Int)<n:=yo
 have i8:=World.new_ne w1 _ d0;have b7:=World.new_ne w1 _ d1;have i7:=World.new_ne w1 _ cp;have f3:=World.block_lt_of_cell? w1 _ d0;simp only at i8 b7 i7 f3;have m4:P<w1.heap.size:=f3;clear hp h7 e5 b1 e0 H9 k9 c0 c1 c2 c3 d2 d3 f2;go_upto_region 2 with fail
 go_region_held3 (fun w'=>w'.cell? ⟨P,0,none⟩=some (.int .i64 (k:Int))/\w'.cell? ⟨P,1,none⟩=some (.int .i64 (S:Int))/\w'.cell? ⟨G,S,none⟩=some (.int .i64 (ps:Int))) (first|go_keep|fail) (fail)
 obtain⟨w4,rfl⟩:=Nm (w1:World);obtain⟨O,hO⟩:=Nm w4.heap.size;obtain⟨w6,d9⟩:=Nm ((w4.alloc (.cells #[.int .i64 (k:Int),.int .i64 (ps:Int),.slice none 0 0,.slice none 0 0] 29)).drew);rw[<-d9,<-hO];have a2:w4.grownBy w6 none:=by rw[d9];exact zI (Ga w4 _ none) (zY _ _)
 have j7:w6.heap[O]?=some (.cells #[.int .i64 (k:Int),.int .i64 (ps:Int),.slice none 0 0,.slice none 0 0] 29 (0,0)):=by rw[d9,hO];exact heap_alloc_new w4 _
 have k4:Built O w6 O k ps [] [] [] none 0 none 0:=⟨j7,World.ownsRow_nil _ _ _ _,World.ownsRow_nil _ _ _ _,tN.nil,rfl⟩;obtain⟨l0,d5,g0⟩:=Kc k4 a2 hO;have q1:G<O:=yo
 have p9:P+1<O:=yo
 have l2:=a2.size;clear j7 k4 a2 d9 hO i8 b7 i7 f3 m4 d0 d1 cp;go_wp2
 go_loopg [5,6,7,23] n (fun gh v5 a6 a7 i wr=>∃(i':Nat) (hs:List Value) (sf:Option Addr) (cf:Nat) (sn:Option Addr) (cn:Nat),gh+i'=n/\i=.int .i64 i'/\v5=.int .i64 (cls (p.take i'):Nat)/\Built O wr O k ps (gP d p i') (gO d p i') hs sf cf sn cn/\w4.grownBy wr (some O))
 case atStart=>exact⟨0,[],none,0,none,0,rfl,rfl,rfl,l0.out,vM d5.out⟩
 clear l0 d5;obtain⟨i,hs,sf,cf,sn,cn,hg,rfl,rfl,H2,h4⟩:=hrel;obtain⟨g5,H4,d4⟩:=Kc hg H2 h4;have o1:=h4.size;clear hg;by_cases hi:i<n
 ·have p3:(i:Int)<n:=yo
  have a5:O≠P:=yo;have k2:O≠G:=yo;have j5:=(k5.out.kept h4 (fun e=>k2 (Oj e))).nat i (by rw[a8.out];exact hi);rw[Nat.zero_add]at j5;obtain⟨H1,h9,h8⟩:=jM e9.out (q:=i) (by rw[a8.out];exact hi);have j4:=gI (p.take i);rw[List.length_take]at j4;obtain⟨c,hc⟩:=Nm (cls (p.take i));rw[<-hc]at H1 h9 h8 j4⊢;obtain⟨x,hx⟩:=Nm (p.getD i 0);rw[<-hx]at j5 H1 h9 h8;by_cases hxc:x=c
  ·have d7:=Kh (qKK (d:=d) (hx.symm.trans (hxc.trans hc)));have e8:=Kh (qKH (d:=d) (hx.symm.trans (hxc.trans hc)))
   have g7:Hid (cls (p.take (i+1))=c+1):=Kh (h9 hxc);have e1:((x:Int) != (c:Int))=false:=by rw[hxc];simp
   have b2:(gP d p i).length=c:=by simp only[gP,List.length_map];rw[tE e9.out i (by rw[a8.out];omega),hc]
   have H8:(gO d p i).length=c:=by simp only[gO,List.length_map];rw[tE e9.out i (by rw[a8.out];omega),hc]
   have hA:=(o0.out.kept d6.out yq).kept h4 (fun k e=>by have:=Oj e;omega);have ch:=hA.hd i hi;obtain⟨d0,d1,d2,d3⟩:=zM (zD (zD i0.out d6.out) h4 (fun e=>a5 (Oj e)));obtain⟨wo,rfl⟩:=Nm (wr:World);have i1:=Kh hA;clear hA H2 h4 H1 h9 h8 hx hxc hc;go_wp2
   go_loopg [8,39] k (fun gh ov i' wr=>∃(a:Nat) (sr:Option Addr) (cr:Nat),gh+a=k/\i'=.int .i64 a/\ov=.slice sr a cr/\wr.ownsRow wo.heap.size 3 1 (.slice sr a cr) a (ints ((tB p (d.next.getD i [])).take a))/\wo.grownBy wr none)
   case atStart=>exact⟨0,none,0,rfl,rfl,rfl,by simpa [ints] using World.ownsRow_nil _ _ _ _,zX _ _⟩
   obtain⟨a,sr,cr,hg,rfl,rfl,b6,h4⟩:=hrel;obtain⟨k8,H3,g2⟩:=Kc hg b6 h4;clear hg b6 d0 d1 d2 d3;by_cases ha:a<k
   ·have p8:(a:Int)<k:=yo
    have hA:=i1.out.kept h4 yq;have ce:=hA.el i a hi ha;have o5:=(hA.rcap i hi).1;have i5:=mF HD.out hi ha;have cp:=((k5.out.kept d4.out (fun e=>k2 (Oj e))).kept h4 yq).nat (nx d i a) (by rw[a8.out];exact i5);rw[Nat.zero_add]at cp
    have f8:Hid ((tB p (d.next.getD i [])).take (a+1)=(tB p (d.next.getD i [])).take a++[((p.getD (nx d i a) 0:Nat):Int)]):=Kh (by
     rw[yH (d:=0) (by rw[jQ HD.out hi];exact ha),qKS HD.out hi ha])
    obtain⟨s,hs⟩:=Nm (nx d i a);rw[<-hs]at ce i5 cp f8;obtain⟨y,hy⟩:=Nm (p.getD s 0);rw[<-hy]at cp f8;have l9:=h4.size;have l4:(s:Int)<n:=yo;clear hA hs hy h4;go_wp2_with (first|(at_builtin;refine app1 rfl _ _ _ rfl yJ wo.heap.size _ a (ints ((tB p (d.next.getD i [])).take a)) rfl H3.out _ rfl rfl ?c1 ?c2 ?c3 ?_)|fail)
    case c1=>unfold maxLen;omega
    case c2=>omega
    case c3=>exact l9
    intro sa' sc' w6 H5 j3 l8;have n4:=Kh H5;have n6:=Kh j3;clear H5 j3;go_wp2;go_roundg (k-(a+1))
    case measure=>have:=k8.out;omega
    refine⟨a+1,sa',sc',yo,by go_num,rfl,?_,zE g2.out n6.out (fun q e=>(H3.out.lt q e).1)⟩;rw[f8.out,eH];exact n4.out
   have j9:a=k:=by have:=k8.out;omega
   have i4:(tB p (d.next.getD i [])).take a=tB p (d.next.getD i []):=by rw[j9,<-jQ HD.out (p:=p) hi];exact List.take_length
   rw[i4]at H3;obtain⟨w5,f1⟩:=Nm wr.drew;have m7:=Kh f1;have a1:wr.grownBy w5 none:=(by rw[f1];exact zY wr none);have a9:=Kh ((H4.out.grow h4).grow a1);have f9:Hid (RowT w5.heap.size 3 w5 (.slice sr a cr) (ints (tB p (d.next.getD i [])))):=Kh (RowT.of_owns (yY H3.out a1 yq));have n7:=Kh (zI d4.out (vM (zI h4 a1) (row:=some O)));have k3:=a9.out.box;have H0:=Kh k3;have k7:=Kh a9.out.notbox;have b0:O<=w5.heap.size:=by have:=h4.size;have:=a1.size;have:=g0.out;omega
   have cq:=(((i1.out.kept h4 yq).kept a1 yq)).fin hi;obtain⟨_,_,d2,_⟩:=zM (zD (zD (zD (zD i0.out d6.out) d4.out (fun e=>a5 (Oj e))) h4) a1);have p5:=i1.out.flt;have m1:O≠fb:=yo;obtain⟨bq,j6⟩:=Nm (d.final.getD i false);rw[<-j6]at cq d7;obtain⟨fsl,c4⟩:=Nm (gP d p i);obtain⟨tsl,b5⟩:=Nm (gO d p i);rw[<-c4]at a9 H0 d7 b2;rw[<-b5]at a9 H0 e8 H8;obtain⟨m,hm⟩:=Nm c;rw[<-hm]at b2 H8;have f7:=Kh H8;have k0:=a9.out.many
   have hM:Many w5 (FB sf sn) w5 [⟨O,22,.slice sn m cn,m,hs,1⟩,⟨O,4,.slice sf m cf,m,bls fsl,1⟩] [] []:=by
    have h1:=k0;simp only[rN,rF,b2,H8]at h1;exact h1
   have l1:Hid (∀W:World,(W.cell? ⟨P,2,none⟩=some (.slice (some ⟨fb,fo,none⟩) n fc)/\W.cell? ⟨fb,fo+i,none⟩=some (.bool bq))->∀(c:Nat) (X:Value),(W.setCell ⟨O,c,none⟩ X).cell? ⟨P,2,none⟩=some (.slice (some ⟨fb,fo,none⟩) n fc)/\(W.setCell ⟨O,c,none⟩ X).cell? ⟨fb,fo+i,none⟩=some (.bool bq)):=Kh (fun W h c X =>
    ⟨by rw[World.cell?_setCell_far W ⟨O,c,none⟩ ⟨P,2,none⟩ X a5];exact h.1,by rw[World.cell?_setCell_far W ⟨O,c,none⟩ ⟨fb,fo+i,none⟩ X m1];exact h.2⟩)
   have h0:Hid (∀W rs ls,Many w5 (FB sf sn) W rs ls []->(W.cell? ⟨P,2,none⟩=some (.slice (some ⟨fb,fo,none⟩) n fc)/\W.cell? ⟨fb,fo+i,none⟩=some (.bool bq))/\(W.cell? ⟨O,3,none⟩=some (.slice sn m cn)/\W.cell? ⟨O,2,none⟩=some (.slice sf m cf))):=Kh (fun W rs ls h=>by
    have j1:=a9.out.ge;have hb:=h.but.heap H0.out k7.out;rw[b2,H8]at hb;obtain⟨_,_,e2,e3⟩:=zM hb
    exact⟨⟨h.but.cell d2 (fun hf=>by have:=j1 _ hf;simp only at this;omega),h.but.cell cq (fun hf=>by have:=j1 _ hf;simp only at this;omega)⟩,e3,e2⟩)
   rw[b2,H8]at H0;have o9:Hid (m=c):=Kh hm;have p0:m<=4194304:=yo
   clear k0 k3 i4 j9 f1 a1 h4 j6 c4 b5 hm b2 H8 ch d2 cq;go_upto_region 15 with fail;refine wp_region_noPanic ?_;refine yI (G:=xM 15 (fun W=>W.cell? ⟨P,2,none⟩=some (.slice (some ⟨fb,fo,none⟩) n fc)/\W.cell? ⟨fb,fo+i,none⟩=some (.bool bq)) (fun W=>W.cell? ⟨O,3,none⟩=some (.slice sn m cn)/\W.cell? ⟨O,2,none⟩=some (.slice sf m cf))) yk ?_;rw[<-m7.out];refine uB 0 ⟨(h0.out _ _ _ hM).1,fun _=>(h0.out _ _ _ hM).2⟩ ?_;refine qIM 1 ⟨(h0.out _ _ _ hM).1,fun _=>(h0.out _ _ _ hM).2⟩ ?_;refine uB 2 ⟨(h0.out _ _ _ hM).1,fun _=>(h0.out _ _ _ hM).2⟩ ?_;refine uB 5 ⟨(h0.out _ _ _ hM).1,fun _=>(h0.out _ _ _ hM).2⟩ ?_;refine qIM 6 ⟨(h0.out _ _ _ hM).1,fun _=>(h0.out _ _ _ hM).2⟩ ?_;refine uB 7 ⟨(h0.out _ _ _ hM).1,fun _=>(h0.out _ _ _ hM).2⟩ ?_;refine uB 8 ⟨(h0.out _ _ _ hM).1,fun _=>(h0.out _ _ _ hM).2⟩ ?_;refine uB 9 ⟨(h0.out _ _ _ hM).1,fun _=>(h0.out _ _ _ hM).2⟩ ?_;refine uB 10 ⟨(h0.out _ _ _ hM).1,fun _=>(h0.out _ _ _ hM).2⟩ ?_;refine uB 11 ⟨(h0.out _ _ _ hM).1,fun _=>(h0.out _ _ _ hM).2⟩ ?_;refine twoG (i:=3) (j:=12) yk rfl rfl (fun K hK=>?_) (fun K hK=>?_);go_simp;refine hK.out _ _ ⟨(h0.out _ _ _ (hM.alloc _)).1,fun _=>(h0.out _ _ _ (hM.alloc _)).2⟩ ?_;clear hK K
   try simp only[Act.put,sPa,sPb,sPc]
   refine twoG (i:=4) (j:=12) yk rfl rfl (fun K hK=>?_) (fun K hK=>?_);refine wR rfl (.tmp 52) (.tmp 54) 27 rfl xT 0 _ _ rfl ⟨_,_,_,_,_,(hM.alloc _),_,rfl,rfl,rfl,rfl,?g3,?g4,b0,_,_,_,List.Mem.head _,(by first|rfl|simp),rfl,?_⟩
   case g3=>(simp only[];unfold maxLen;omega)
   case g4=>(simp only[];omega)
   intro sa1 sc1 w1x h3;have a0:=h3.litcell (List.Mem.head _)
   try simp only[zW]at a0
   refine hK.out _ _ ⟨(h0.out _ _ _ h3).1,fun _=>(h0.out _ _ _ h3).2⟩ ?_;clear hK K
   try simp only[Act.put,sPa,sPb,sPc]
   refine uB 14 ⟨(h0.out _ _ _ h3).1,fun _=>(h0.out _ _ _ h3).2⟩ ?_;refine jg 12 fun K hK=>?_;go_simp;refine hK.out _ _ ⟨(h0.out _ _ _ (h3.alloc _)).1,fun _=>(h0.out _ _ _ (h3.alloc _)).2⟩ ?_;clear hK K
   try simp only[Act.put,sPa,sPb,sPc]
   rotate_left;go_simp;refine hK.out _ _ ⟨(h0.out _ _ _ ((hM.alloc _).alloc _)).1,fun _=>(h0.out _ _ _ ((hM.alloc _).alloc _)).2⟩ ?_;clear hK K
   try simp only[Act.put,sPa,sPb,sPc]
   refine jg 4 fun K hK=>?_;refine wR rfl (.tmp 52) (.tmp 54) 27 rfl xT 0 _ _ rfl ⟨_,_,_,_,_,((hM.alloc _).alloc _),_,rfl,rfl,rfl,rfl,?g3,?g4,b0,_,_,_,List.Mem.tail _ (List.Mem.head _),(by first|rfl|simp),rfl,?_⟩
   case g3=>(simp only[];unfold maxLen;omega)
   case g4=>(simp only[];omega)
   intro sa1 sc1 w1x h3;have a0:=h3.litcell (List.Mem.head _)
   try simp only[zW]at a0
   have b8:=h3.litcell (List.Mem.tail _ (List.Mem.head _))
   try simp only[zW]at b8
   refine hK.out _ _ ⟨(h0.out _ _ _ h3).1,fun _=>(h0.out _ _ _ h3).2⟩ ?_;clear hK K
   try simp only[Act.put,sPa,sPb,sPc]
   refine uB 14 ⟨(h0.out _ _ _ h3).1,fun _=>(h0.out _ _ _ h3).2⟩ ?_;rotate_left;go_simp;refine hK.out _ _ ⟨(h0.out _ _ _ (hM.alloc _)).1,fun _=>(h0.out _ _ _ (hM.alloc _)).2⟩ ?_;clear hK K
   try simp only[Act.put,sPa,sPb,sPc]
   refine jg 3 fun K hK=>?_;go_simp;refine hK.out _ _ ⟨(h0.out _ _ _ ((hM.alloc _).alloc _)).1,fun _=>(h0.out _ _ _ ((hM.alloc _).alloc _)).2⟩ ?_;clear hK K
   try simp only[Act.put,sPa,sPb,sPc]
   refine jg 4 fun K hK=>?_;refine wR rfl (.tmp 52) (.tmp 54) 27 rfl xT 0 _ _ rfl ⟨_,_,_,_,_,((hM.alloc _).alloc _),_,rfl,rfl,rfl,rfl,?g3,?g4,b0,_,_,_,List.Mem.head _,(by first|rfl|simp),rfl,?_⟩
   case g3=>(simp only[];unfold maxLen;omega)
   case g4=>(simp only[];omega)
   intro sa1 sc1 w1x h3;have a0:=h3.litcell (List.Mem.head _)
   try simp only[zW]at a0
   have b8:=h3.litcell (List.Mem.tail _ (List.Mem.head _))
   try simp only[zW]at b8
   refine hK.out _ _ ⟨(h0.out _ _ _ h3).1,fun _=>(h0.out _ _ _ h3).2⟩ ?_;clear hK K
   try simp only[Act.put,sPa,sPb,sPc]
   refine uB 14 ⟨(h0.out _ _ _ h3).1,fun _=>(h0.out _ _ _ h3).2⟩ ?_
   all_goals
    refine jg 13 fun K hK=>?_
    first
    | refine wR rfl (.tmp 57) (.tmp 63) 26 rfl xK 1 _ _ rfl ⟨_,_,_,_,_,(h3.alloc _),_,rfl,rfl,rfl,rfl,?g3,?g4,b0,_,_,_,List.Mem.head _,(by first|rfl|simp),rfl,?_⟩
    | refine wR rfl (.tmp 57) (.tmp 63) 26 rfl xK 1 _ _ rfl ⟨_,_,_,_,_,h3,_,rfl,rfl,rfl,rfl,?g3,?g4,b0,_,_,_,List.Mem.head _,(by first|rfl|simp),rfl,?_⟩
    | refine wR rfl (.tmp 57) (.tmp 63) 26 rfl xK 1 _ _ rfl ⟨_,_,_,_,_,h3,_,rfl,rfl,rfl,rfl,?g3,?g4,b0,_,_,_,List.Mem.tail _ (List.Mem.head _),(by first|rfl|simp),rfl,?_⟩
    case g3=>(simp only[];unfold maxLen;omega)
    case g4=>(simp only[];omega)
    intro sa2 sc2 w2x H7;have a0:=H7.litcell (List.Mem.head _)
    try simp only[zW]at a0
    have b8:=H7.litcell (List.Mem.tail _ (List.Mem.head _))
    try simp only[zW]at b8
    refine hK.out _ _ ⟨(h0.out _ _ _ H7).1,fun _=>(h0.out _ _ _ H7).2⟩ ?_;clear hK K
    try simp only[Act.put,sPa,sPb,sPc]
    refine jg 15 fun K hK=>?_;have b3:=H7.but.heap H0.out k7.out;have cb3:=zJ b3 3;have cb2:=zJ b3 2;have fb3:=zB b3 3;have fb2:=zB b3 2;simp only[sPd,sPe,sPf]at cb3 cb2;go_simp;have a4:=heap_setCell_same _ O 3 _ _ (.slice sa1 (m+1) sc1) b3;have cb22:=zJ a4 2;have fb22:=zB a4 2;simp at cb22;have e7:=l1.out _ (h0.out _ _ _ H7).1 3 (.slice sa1 (m+1) sc1);refine hK.out _ _ ⟨e7,fun h=>by simp at h⟩ ?_;clear hK K
    try simp only[Act.put,sPa,sPb,sPc]
    refine uB 16 ⟨e7,fun h=>by simp at h⟩ ?_;refine jg 17 fun K hK=>?_;go_simp;have c9:=l1.out _ e7 2 (.slice sa2 (m+1) sc2);refine hK.out _ _ ⟨c9,fun h=>by simp at h⟩ ?_;clear hK K
    try simp only[Act.put,sPa,sPb,sPc]
    refine uY yk ?_ _;refine NoPanic.normal ?_;obtain⟨H2,j0⟩:=a9.out.push (b:=bq) (row:=tB p (d.next.getD i [])) f7.out H7 f9.out rfl;have g8:=Kh H2;have g6:=Kh (j0 w4 n7.out (by have:=g0.out;omega));clear H2 j0 cb3 cb2 fb3 fb2 b3 a4 cb22 fb22 e7 c9 H7
    (try clear h3)
    go_wp2;go_roundg (n-(i+1))
    case measure=>have:=g5.out;omega
    exact⟨i+1,_,_,_,_,_,yo,by go_num,by rw[g7.out];rfl,g8.out.congr d7.out e8.out,g6.out⟩
  have d7:=Kh (qKJ (d:=d) (fun e=>hxc (hx.trans (e.trans hc.symm))));have e8:=Kh (qKG (d:=d) (fun e=>hxc (hx.trans (e.trans hc.symm))));have g7:Hid (cls (p.take (i+1))=c):=Kh (h8 hxc);have e1:((x:Int) != (c:Int))=true:=by rw[bne_iff_ne];omega
  clear H2 h4 H1 h9 h8 hx hc hxc;go_wp2;go_roundg (n-(i+1))
  case measure=>have:=g5.out;omega
  exact⟨i+1,hs,sf,cf,sn,cn,yo,by go_num,by rw[g7.out],H4.out.congr d7.out e8.out,d4.out⟩
 have i9:i=n:=by have:=g5.out;omega
 have hE:(⟨(k:Int),(ps:Int),gP d p i,gO d p i⟩:DfaV)=sV d p:=by
  have h1:=HD.out.hk;have h2:reps p=sF p i:=by rw[reps,a8.out,i9]
  simp only[sV,gP,gO,h1,h2,n2.out,m9.out]
 have n0:=Kh (qDE HD.out a8.out e9.out);have f5:=H2.dfa;rw[hE]at f5;have m8:=Kh (qML wr.heap.size wr _ (sV d p) (cls p) k (Nat.le_refl _) f5 n0.out);obtain⟨d0,d1,d2,d3⟩:=zM H2.box;have a5:O≠P+1:=yo;have m5:P+1≠O:=yo;clear hE f5 H2 i9;go_wp2_with fail;refine m8.out.mono ?_;rintro e w7 ⟨v7,pv7,rfl,H6,e4⟩;have l7:wX (sV d p) k=minD d k:=by rw[HP.out];rfl
 rw[l7]at H6;obtain⟨o7,l3,sf7,cf7,sn7,cn7,rfl,o6,j8⟩:=H6;have h6:=zD H4.out.box e4;have h5:=zD (zD (zD n9.out d6.out) h4 (fun e=>a5 (Oj e))) e4;obtain⟨d8,g9,n8,g6⟩:=Kd h6 h5 j8 e4;obtain⟨x0,x1,x2,x3⟩:=zM h6;obtain⟨y0,y1,y2,y3⟩:=zM h5;have fx0:=zB h6 0;have fx1:=zB h6 1;have fx2:=zB h6 2;have fx3:=zB h6 3;have fy0:=zB h5 0;have fy1:=zB h5 1;have fy2:=zB h5 2;have fy3:=zB h5 3;clear h6 h5 j8 e4 h4 d0 d1 d2 d3;go_wp2;refine bodyPost_ret (v:=.agg #[.int .i64 (minD d k).letters,.int .i64 (minD d k).start,.slice sf7 (minD d k).final.length cf7,.slice sn7 (minD d k).next.length cn7]) (by simp[results,Tryz.results21,go_sem,y0,y1,y2,y3,a5,m5]) rfl ?_;obtain⟨o4,f4⟩:=vS d8.out (.int .i64 (minD d k).letters) (.int .i64 (minD d k).start) (.slice sf7 (minD d k).final.length cf7) (.slice sn7 (minD d k).next.length cn7);have c7:=zD g9.out f4 (fun e=>a5 (Oj e));obtain⟨o3,j2⟩:=vS c7 (.int .i64 (minD d k).letters) (.int .i64 (minD d k).start) (.slice sf7 (minD d k).final.length cf7) (.slice sn7 (minD d k).next.length cn7);have q0:O<wr.heap.size:=zS H4.out.box;refine⟨_,rfl,⟨o7,l3,sf7,cf7,sn7,cn7,rfl,by have:=f0.out;omega,(n8.out.far f4 d8.out yo).far j2 c7 yo⟩,?_⟩;have g1:w.grownBy wr none:=zI n5.out (zI d6.out (zE (zX _ _) d4.out (fun x e=>by have:=Oj e;have:=g0.out;omega)));refine zE (zE (zI g1 g6.out) f4 (fun x e=>by have:=Oj e;have:=f0.out;omega)) j2 (fun x e=>by have:=Oj e;have:=f0.out;omega)
def TMat (B:Nat)(w:World)(v:Value)(ts:List (List Nat)):Prop:=∃hs,Row B w v hs/\tN B 3 nats w hs ts
theorem TMat.kept {row:Option Nat}(h:TMat B w v ts)(hg:w.grownBy w' row)(hr:∀k,row=some k->B<=k):TMat B w' v ts:=by
 obtain⟨hs,h1,h2⟩:=h;exact⟨hs,h1.kept hg hr,h2.kept hg (fun k e=>.inl (hr k e))⟩
theorem TMat.mono {B':Nat}(h:TMat B w v ts)(hB:B<=B'):TMat B' w v ts:=by
 obtain⟨hs,h1,h2⟩:=h;exact⟨hs,h1.mono hB,h2.mono hB⟩
theorem TMat.head (h:TMat B w v ts)(h0:0<ts.length):∃b off cap,v=.slice (some ⟨b,off,none⟩) ts.length cap/\ts.length<=cap/\cap<=maxLen/\b<B/\b<w.heap.size/\∀i,i<ts.length->∃a c,w.cell? ⟨b,off+i,none⟩=some (.slice a (ts.getD i []).length c)/\RowT B 3 w (.slice a (ts.getD i []).length c) (nats (ts.getD i [])):=by
 obtain⟨hs,h1,h2⟩:=h;have hl:=h2.1;obtain⟨b,off,cap,rfl,hb,hc,hm,h4⟩:=h1.some_ yo;refine⟨b,off,cap,by rw[hl],yo,hm,hb,h4.1,fun i hi=>?_⟩;have h3:=h2.2 i yo hi;obtain⟨a,c,e⟩:=h3.shape;rw[zV]at e;refine⟨a,c,?_,?_⟩
 ·rw[h4.2 i yo,e,zQ hi]
 rw[zQ hi,<-e];exact h3
theorem TMat.shape (h:TMat B w v ts):∃a c,v=.slice a ts.length c:=by
 obtain⟨hs,h1,h2⟩:=h;obtain⟨a,c,rfl⟩:=h1.shape;exact⟨a,c,by rw[h2.1]⟩
def OwnT (base:Nat)(w:World)(v:Value)(n:Nat)(ts:List (List Nat)):Prop:=∃hs,w.ownsRow base 22 1 v n hs/\tN w.heap.size 3 nats w hs ts/\ts.length=n
theorem OwnT.grow {base:Nat}(h:OwnT base w v n ts)(hg:w.grownBy w' none):OwnT base w' v n ts:=by
 obtain⟨hs,h1,h2,h3⟩:=h;exact⟨hs,yY h1 hg yq,(h2.kept hg yq).mono hg.size,h3⟩
theorem OwnT.tmat {base:Nat}(h:OwnT base w v n ts):TMat w.heap.size w v ts:=by
 obtain⟨hs,h1,h2,h3⟩:=h;exact⟨hs,Row.of_owns h1,h2⟩
theorem OwnT.base {base base':Nat}(h:OwnT base w v n ts)(hb:base'<=base):OwnT base' w v n ts:=by
 obtain⟨hs,h1,h2,h3⟩:=h;exact⟨hs,xO h1 hb,h2,h3⟩
theorem OwnT.nil (base:Nat)(w:World):OwnT base w (.slice none 0 0) 0 []:=⟨[],World.ownsRow_nil _ _ _ _,tN.nil,rfl⟩
theorem OwnT.push {base:Nat}{v':Value}{hs:List Value}{u:Value}(h1:w.ownsRow base 22 1 v n hs)(h2:tN w.heap.size 3 nats w hs ts)(h3:ts.length=n)(hu:RowT w.heap.size 3 w u (nats l))(ho:w'.ownsRow base 22 1 v' (n+1) (hs++[u]))(hg:w.grownBy w' v.ownBlock):OwnT base w' v' (n+1) (ts++[l]):=by
 refine⟨_,ho,?_,by simp[h3]⟩;exact((h2.snoc hu).kept hg (fun k e=>.inr (wH h1 jd k e))).mono hg.size
def pH (m:DfaV)(n k:Nat):List (List Nat):=(List.range k).map fun a=>(List.range n).map fun q=>nx m q a
theorem uH (m:DfaV)(n k:Nat):(pH m n k).length=k:=by simp[pH]
def colD (m:DfaV)(n a:Nat):List Nat:=(List.range n).map fun q=>nx m q a
theorem nI (m:DfaV)(n a:Nat):(colD m n a).length=n:=by simp[colD]
theorem qCB (hq:q<n):(colD m n a).take (q+1)=(colD m n a).take q++[nx m q a]:=by
 rw[yH (d:=0) (by rw[nI];exact hq),zQ (by rw[nI];exact hq)];simp[colD]
theorem cO (ha:a<k):(pH m n k).take (a+1)=(pH m n k).take a++[colD m n a]:=by
 rw[yH (d:=[]) (by rw[uH];exact ha),zQ (by rw[uH];exact ha)];simp[pH,colD]
def eW (w:World)(ts:List (List Nat))(e:Ending)(w':World):Prop:=∃(sa:Option Addr) (sc:Nat),e=.returned (.slice sa ts.length sc)/\OwnT w.heap.size w' (.slice sa ts.length sc) ts.length ts/\w.grownBy w' none
theorem qJT (B:Nat)(w:World)(v:Value)(d:DfaV)(n k:Nat)(hB:B<=w.heap.size)(h:rP B w v d)(hd:VD d n k):Calls Tryz.prog 24 #[v] w (eW w (pH d n k)):=by
 obtain⟨fb,fo,fc,b,off,cap,RB,RO,RC,rfl,H3⟩:=h.at hd;have c8:=hd.n1;have a3:=hd.nbig;have c9:=hd.k6;have d4:=hd.k1;have d5:=H3.cap.1;have h8:=H3.cap.2;have b4:cap<=9223372036854775807:=jl h8
 obtain⟨wA,H0⟩:=Nm (w.alloc (.cells #[.int .i64 (k:Int),.int .i64 (st0 d:Int),.slice (some ⟨fb,fo,none⟩) n fc,.slice (some ⟨b,off,none⟩) n cap] 29));have h4:wA.heap[w.heap.size]?=some (.cells #[.int .i64 (k:Int),.int .i64 (st0 d:Int),.slice (some ⟨fb,fo,none⟩) n fc,.slice (some ⟨b,off,none⟩) n cap] 29 (0,0)):=by rw[H0];exact heap_alloc_new w _
 have H5:w.grownBy wA none:=by rw[H0];exact Ga w _ none
 have b2:wA.heap.size=w.heap.size+1:=by rw[H0,zW]
 obtain⟨P,hP⟩:=Nm w.heap.size;have a8:=Kh hP;rw[<-hP]at h4 hB b2;obtain⟨b1,c0,b7⟩:=Kc h4 H5 H0;have c4:=Kh (H3.kept H5 yq);have HD:=Kh hd;unfold dAgg;clear h4 H5 H0 H3 hd h h8;go_enter Tryz.func24,Tryz.ntmps24;go_upto_region 2 with fail;rw[<-b7.out,<-a8.out];clear hP;go_wp2
 go_loopg [3,4] k (fun gh v3 i wr=>∃(a:Nat) (sa:Option Addr) (sc:Nat),gh+a=k/\i=.int .i64 a/\v3=.slice sa a sc/\OwnT (P+1) wr (.slice sa a sc) a ((pH d n k).take a)/\wA.grownBy wr none)
 case atStart=>exact⟨0,none,0,rfl,rfl,rfl,by simpa using OwnT.nil _ _,zX _ _⟩
 obtain⟨a,sa,sc,hg,rfl,rfl,h2,h1⟩:=hrel;obtain⟨HG,h5,H2⟩:=Kc hg h2 h1;obtain⟨d0,d1,d2,d3⟩:=zM (zD b1.out h1);clear hg h2;by_cases ha:a<k
 ·have d6:(a:Int)<k:=yo
  obtain⟨wo,rfl⟩:=Nm (wr:World);clear h1;go_wp2
  go_loopg [5,6,16] n (fun gh ov a6 i wr=>∃(q:Nat) (sr:Option Addr) (cr:Nat),gh+q=n/\i=.int .i64 q/\ov=.slice sr q cr/\wr.ownsRow wo.heap.size 3 1 (.slice sr q cr) q (nats ((colD d n a).take q))/\wo.grownBy wr none)
  case atStart=>exact⟨0,none,0,rfl,rfl,rfl,by simpa [nats] using World.ownsRow_nil _ _ _ _,zX _ _⟩
  obtain⟨q,sr,cr,hg,rfl,rfl,h2,h1⟩:=hrel;obtain⟨a9,h3,H1⟩:=Kc hg h2 h1;clear hg h2 d0 d1 d2 d3;obtain⟨d0,d1,d2,d3⟩:=zM (zD b1.out (zI H2.out h1));by_cases hq:q<n
  ·have c7:(q:Int)<n:=yo
   have hA:=c4.out.kept (zI H2.out h1) yq;have ch:=hA.hd q hq;have ce:=hA.el q a hq ha;have c6:=(hA.rcap q hq).1;have b0:Hid ((colD d n a).take (q+1)=(colD d n a).take q++[nx d q a]):=Kh (qCB hq);obtain⟨s,hs⟩:=Nm (nx d q a);rw[<-hs]at ce b0;have b5:=h1.size;clear hA hs h1;go_wp2_with (first|(at_builtin;refine app1 rfl _ _ _ rfl yJ wo.heap.size _ q (nats ((colD d n a).take q)) rfl h3.out _ rfl rfl ?c1 ?c2 ?c3 ?_)|fail)
   case c1=>unfold maxLen;omega
   case c2=>omega
   case c3=>exact b5
   intro sa' sc' w6 h0 h6 H4;have H6:=Kh h0;have H8:=Kh h6;clear h0 h6;go_wp2;go_roundg (n-(q+1))
   case measure=>have:=a9.out;omega
   refine⟨q+1,sa',sc',yo,by go_num,rfl,?_,zE H1.out H8.out (fun q e=>(h3.out.lt q e).1)⟩;rw[b0.out,qF];exact H6.out
  have H9:q=n:=by have:=a9.out;omega
  have a5:(colD d n a).take q=colD d n a:=by have h9:=nI d n a;rw[H9];exact List.take_of_length_le yo
  rw[a5]at h3;have b3:=h5.out.grow h1;obtain⟨hs,a2,a1,a0⟩:=b3;have h7:=RowT.of_owns h3.out;obtain⟨HR,H7,b9,b8⟩:=Kd h7 a2 a1 a0;have c5:=h1.size;have b6:P+1<=wr.heap.size:=by have:=H2.out.size;omega
  clear H9 a5 h1 h7 a2 a1 a0;go_wp2_with (first|(at_builtin;refine app1 rfl _ _ _ rfl xT (P+1) _ a hs rfl H7.out _ rfl rfl ?c1 ?c2 ?c3 ?_)|fail)
  case c1=>unfold maxLen;omega
  case c2=>omega
  case c3=>exact b6
  intro sa' sc' w6 h0 h6 H4
  have H6:Hid (OwnT (P+1) w6 (.slice sa' (a+1) sc') (a+1) ((pH d n k).take (a+1))):=Kh (by
   rw[cO ha]
   exact OwnT.push H7.out b9.out b8.out HR.out h0 h6)
  have H8:Hid (wA.grownBy w6 none):=Kh (zE (zI H2.out H1.out) h6 (fun x e=>by have:=(H7.out.lt x e).1;omega));clear h0 h6;go_wp2;go_roundg (k-(a+1))
  case measure=>have:=HG.out;omega
  exact⟨a+1,sa',sc',yo,by go_num,rfl,H6.out,H8.out⟩
 have a7:a=k:=by have:=HG.out;omega
 have a4:=uH d n k;have HE:Hid ((pH d n k).take a=pH d n k/\(pH d n k).length=a):=Kh ⟨List.take_of_length_le yo,by rw[a4,a7]⟩;clear a7 h1 a4;go_wp2;go_ret;rw[HE.out.1]at h5;refine⟨sa,sc,by rw[HE.out.2];rfl,?_,zI c0.out H2.out⟩;rw[HE.out.2];exact h5.out.base (by have:=a8.out;omega)
def vH (f g:List Nat):List Nat:=f.map fun x=>g.getD x 0
theorem rI (f g:List Nat):(vH f g).length=f.length:=by simp[vH]
theorem qCA (h:i<f.length):(vH f g).getD i 0=g.getD (f.getD i 0) 0:=by rw[vH,xY (x:=0) h]
def IsT (n:Nat)(f:List Nat):Prop:=f.length=n/\∀x∈f,x<n
theorem IsT.get (h:IsT n f)(hi:i<n):f.getD i 0<n:=by
 rw[zQ (by rw[h.1];exact hi)];exact h.2 _ (List.getElem_mem _)
theorem iB (hf:IsT n f)(hg:IsT n g):IsT n (vH f g):=by
 refine⟨by rw[rI,hf.1],fun x hx=>?_⟩;obtain⟨y,hy,rfl⟩:=List.mem_map.1 hx;exact hg.get (hf.2 y hy)
theorem qBV (w:World)(n:Nat)(hn:n<=100000):Calls Tryz.prog 79 #[.int .i64 (n:Int)] w (qEM w (List.range n)):=by
 go_enter Tryz.func79,Tryz.ntmps79;go_wp2_with (first|(at_make;refine pL rfl _ _ _ rfl yJ rfl .i64 .i64 _ _ n rfl rfl rfl rfl ?b1 ?b2 ?_;(case b1=>omega);(case b2=>(unfold maxLen;omega));intro w2 h0 h4 h9)|fail);have h8:=Kh h0;have h6:=Kh h4;clear h0 h4
 go_loopg [4,9] n (fun gh a4 i wr=>∃k:Nat,gh+k=n/\i=.int .i64 k/\Arr wr w.heap.size 3 (nats (vO (List.range n) k))/\w.grownBy wr none)
 case atStart=>exact⟨0,rfl,rfl,by rw[tH,List.length_range,yW];exact h8.out,h6.out⟩
 clear h8 h6;obtain⟨k,hg,rfl,h0,h3⟩:=hrel;obtain⟨HG,HA,h5⟩:=Kc hg h0 h3;clear hg h3;by_cases hk:k<n
 ·have H0:(k:Int)<n:=yo
  have cgk:=h0.nat k (by rw[yZ (by simp;omega)];simpa using hk);have fgk:=h0.frozen k;have h1:=tW (l:=List.range n) (k:=k) (by simpa using hk);rw[show (List.range n).getD k 0=k from by rw[zQ (by simpa using hk)];simp]at h1;have HS:=Kh h1;clear h1 h0;go_wp2;go_roundg (n-(k+1))
  case measure=>have:=HG.out;omega
  refine⟨k+1,yo,by go_num,?_,zE h5.out (zH wr ⟨w.heap.size,k,none⟩ _) (fun q e=>by have h7:w.heap.size=q:=Oj e;omega)⟩;rw[<-HS.out];exact HA.out.nat_set k (by rw[yZ (by simp;omega)];simpa using hk) k
 have h2:k=n:=by have:=HG.out;omega
 have HE:Hid (vO (List.range n) k=List.range n):=Kh (by have:=tX (List.range n);rw[List.length_range]at this;rw[h2];exact this);clear h2 h0;go_wp2;go_ret;refine⟨w.heap.size,by rw[List.length_range];rfl,Nat.le_refl _,?_,h5.out⟩;rw[<-HE.out];exact HA.out
theorem qDY (B C:Nat)(w:World)(va vb:Value)(f g:List Nat)(n:Nat)(hB:B<=w.heap.size)(hC:C<=w.heap.size)(ha:Row B w va (nats f))(hb:Row C w vb (nats g))(hf:IsT n f)(hg:IsT n g)(hn:n<=100000):Calls Tryz.prog 80 #[va,vb] w (qEM w (vH f g)):=by
 obtain⟨va',vc,rfl⟩:=ha.shape;obtain⟨vb',vd,rfl⟩:=hb.shape;have H7:=hb.len_le;rw[zV,hf.1]at ha⊢;rw[zV,hg.1]at hb⊢;obtain⟨HA,HB,HF,H1⟩:=Kd ha hb hf hg;clear ha hb hf hg H7;go_enter Tryz.func80,Tryz.ntmps80;go_wp2_with (first|(at_make;refine pL rfl _ _ _ rfl yJ rfl .i64 .i64 _ _ n rfl rfl rfl rfl ?b1 ?b2 ?_;(case b1=>omega);(case b2=>(unfold maxLen;omega));intro w2 h0 H0 H6)|fail);have H5:=Kh h0;have H3:=Kh H0;clear h0 H0;have h3:(vH f g).length=n:=by rw[rI,HF.out.1]
 go_loopg [6,7,13] n (fun gh a6 a7 i wr=>∃k:Nat,gh+k=n/\i=.int .i64 k/\Arr wr w.heap.size 3 (nats (vO (vH f g) k))/\w.grownBy wr none)
 case atStart=>exact⟨0,rfl,rfl,by rw[tH,h3,yW];exact H5.out,H3.out⟩
 clear H5 H3;obtain⟨k,hg,rfl,h0,h2⟩:=hrel;obtain⟨HG,H4,H2⟩:=Kc hg h0 h2;clear hg;by_cases hk:k<n
 ·have H9:(k:Int)<n:=yo
  obtain⟨ib,io,ic,e,_,a3,a2,h8⟩:=(HA.out.kept h2 yq).some_ (by rw[zV,HF.out.1];omega);simp only[Value.slice.injEq]at e;obtain⟨rfl,-,rfl⟩:=e;obtain⟨jb,jo,jc,e,_,a1,a0,h6⟩:=(HB.out.kept h2 yq).some_ (by rw[zV,H1.out.1];omega);simp only[Value.slice.injEq]at e;obtain⟨rfl,-,rfl⟩:=e;have ca:=h8.nat k (by rw[HF.out.1];exact hk);have hx:=HF.out.get hk;have cb:=h6.nat (f.getD k 0) (by rw[H1.out.1];exact hx);have cgk:=h0.nat k (by rw[yZ yo];omega);have fgk:=h0.frozen k;have h1:=tW (l:=vH f g) (k:=k) yo;rw[qCA (by rw[HF.out.1];exact hk)]at h1;obtain⟨x,h5⟩:=Nm (f.getD k 0);rw[<-h5]at ca cb hx h1;obtain⟨y,h4⟩:=Nm (g.getD x 0);rw[<-h4]at cb h1;have H8:(x:Int)<n:=yo;have HS:=Kh h1;clear h1 h0 h2 h8 h6 h5 h4;go_wp2;go_roundg (n-(k+1))
  case measure=>have:=HG.out;omega
  refine⟨k+1,yo,by go_num,?_,zE H2.out (zH wr ⟨w.heap.size,k,none⟩ _) (fun q e=>by have h7:w.heap.size=q:=Oj e;omega)⟩;rw[<-HS.out];exact H4.out.nat_set k (by rw[yZ yo];omega) y
 have h9:k=n:=by have:=HG.out;omega
 have HE:Hid (vO (vH f g) k=vH f g):=Kh (by rw[h9,<-h3];exact tX _);clear h9 h0 h2;go_wp2;go_ret;refine⟨w.heap.size,by rw[h3];rfl,Nat.le_refl _,?_,H2.out⟩;rw[<-HE.out];exact H4.out
def mM (ts:List (List Nat))(f:List Nat):Int:=if f∈ts then (ts.idxOf f:Int) else -1
theorem qOF (hi:i<ts.length)(h:ts.getD i []=f)(a9:∀j,j<i->ts.getD j []≠f):mM ts f=i:=by
 have hm:f∈ts:=by rw[<-h,zQ hi];exact List.getElem_mem _
 rw[mM,if_pos hm];have h1:=List.idxOf_lt_length_of_mem hm;have h2:=List.getElem_idxOf h1;have h3:¬ts.idxOf f<i:=fun hlt=>a9 _ hlt (by rw[zQ h1];exact h2)
 have h4:¬i<ts.idxOf f:=fun hlt=>by
  have h5:=List.not_of_lt_findIdx (xs:=ts) (p:=(· == f)) (show i<ts.findIdx (· == f) from hlt);rw[zQ hi]at h;simp[h]at h5
 omega
theorem qHE (a9:∀j,j<ts.length->ts.getD j []≠f):mM ts f = -1:=by
 rw[mM,if_neg];intro hm;obtain⟨i,hi,e⟩:=List.getElem_of_mem hm;exact a9 i hi (by rw[zQ hi];exact e)
theorem eJ (B C:Nat)(w:World)(va vb:Value)(ts:List (List Nat))(f:List Nat)(a9:TMat B w va ts)(hb:Row C w vb (nats f)):Calls Tryz.prog 42 #[va,vb] w fun e w'=>e=.returned (.int .i64 (mM ts f))/\∃m,w'=w.drewN m:=by
 obtain⟨ta,tc,rfl⟩:=a9.shape;have HT:=Kh a9;have HB:=Kh hb
 have H0:ts.length<=9223372036854775807:=by
  obtain⟨hs,h1,h2⟩:=a9;have:=h1.len_le;rw[h2.1]at this;unfold maxLen at this;omega
 clear a9 hb;go_enter Tryz.func42,Tryz.ntmps42;go_wp2
 go_loopg [5,8] ts.length (fun gh a5 i wr=>∃k:Nat,gh+k=ts.length/\i=.int .i64 k/\Hid (∀j,j<k->ts.getD j []≠f)/\∃m,wr=w.drewN m)
 case atStart=>exact⟨0,rfl,rfl,Kh (fun j hj=>by omega),0,rfl⟩
 obtain⟨k,hg,rfl,h6,m,rfl⟩:=hrel;have HG:=Kh hg;clear hg;by_cases hk:k<ts.length
 ·have H2:(k:Int)<ts.length:=yo
  have h3:=HT.out.kept (zT w m none) yq;obtain⟨b,off,cap,e,H3,h8,_,_,h5⟩:=h3.head yo;simp only[Value.slice.injEq]at e;obtain⟨rfl,-,rfl⟩:=e;obtain⟨a,c,ch,h4⟩:=h5 k hk;have H1:tc<=9223372036854775807:=jl h8
  have h0:=qT B C (w.drewN m) (.slice a (ts.getD k []).length c) vb ((ts.getD k []).map fun(x:Nat)=>(x:Int)) (f.map fun(x:Nat)=>(x:Int))
   (by rw[<-rD];exact h4.row) (by rw[<-rD];exact HB.out.kept (zT w m none) yq)
  rw[qFR]at h0;obtain⟨t,ht⟩:=Nm (ts.getD k []);rw[<-ht]at ch h0;have h0:=Kh h0;have h7:=Kh ht;clear ht h3 h5 h4;by_cases he:t=f
  ·rw[decide_eq_true he]at h0
   have HF:Hid (mM ts f=k):=Kh (qOF hk (h7.out.symm.trans he) h6.out);clear he;go_wp2_with fail;refine h0.out.mono ?_;rintro e w2 ⟨rfl,m2,rfl⟩;go_wp2;go_ret;exact⟨yX HF.out.symm,m+m2,rfl⟩
  rw[decide_eq_false he]at h0
  have h9:Hid (∀j,j<k+1->ts.getD j []≠f):=Kh (fun j hj=>by
   rcases Nat.lt_succ_iff_lt_or_eq.1 hj with hj|rfl
   ·exact h6.out j hj
   rw[<-h7.out];exact he)
  clear he;go_wp2_with fail;refine h0.out.mono ?_;rintro e w2 ⟨rfl,m2,rfl⟩;go_wp2;go_roundg (ts.length-(k+1))
  case measure=>have:=HG.out;omega
  exact⟨k+1,yo,by go_num,h9,m+m2,rfl⟩
 have HF:Hid (mM ts f = -1):=Kh (qHE (fun j hj=>h6.out j (by have:=HG.out;omega)));go_wp2;go_ret;exact⟨yX HF.out.symm,m,rfl⟩
theorem qLK (B:Nat)(w:World)(v:Value)(ts:List (List Nat))(hB:B<=w.heap.size)(h:TMat B w v ts)(hl:ts.length<=4096)(hr:∀t∈ts,t.length<=4096):Calls Tryz.prog 78 #[v] w (eW w ts):=by
 obtain⟨ta,tc,rfl⟩:=h.shape;have HT:=Kh h;have HR:=Kh hr;clear h hr;go_enter Tryz.func78,Tryz.ntmps78;go_wp2
 go_loopg [3,5,8] ts.length (fun gh v3 a5 i wr=>∃(k:Nat) (sa:Option Addr) (sc:Nat),gh+k=ts.length/\i=.int .i64 k/\v3=.slice sa k sc/\OwnT w.heap.size wr (.slice sa k sc) k (ts.take k)/\w.grownBy wr none)
 case atStart=>exact⟨0,none,0,rfl,rfl,rfl,by simpa using OwnT.nil _ _,zX _ _⟩
 obtain⟨k,sa,sc,hg,rfl,rfl,h3,h6⟩:=hrel;obtain⟨HG,h4,H9⟩:=Kc hg h3 h6;clear hg;by_cases hk:k<ts.length
 ·have b2:(k:Int)<ts.length:=yo
  have h5:=HT.out.kept h6 yq;obtain⟨b,off,cap,e,b3,a2,_,_,h7⟩:=h5.head yo;simp only[Value.slice.injEq]at e;obtain⟨rfl,-,rfl⟩:=e;obtain⟨a,c,ch,h2⟩:=h7 k hk;have b1:tc<=9223372036854775807:=jl a2
  have H2:Hid (ts.take (k+1)=ts.take k++[ts.getD k []]):=Kh (yH hk);have a1:(ts.getD k []).length<=4096:=HR.out _ (by rw[zQ hk];exact List.getElem_mem _);obtain⟨t,ht⟩:=Nm (ts.getD k []);rw[<-ht]at ch h2 H2 a1;have h9:=Kh h2;have a9:=h6.size;clear ht h5 h7 h2 h6 h3;go_wp2_with (first|(at_builtin;refine appR rfl _ _ _ rfl yJ wr.heap.size (.slice (some ⟨wr.heap.size,0,none⟩) 0 0) 0 [] rfl (jK (heap_alloc_new wr _) (Nat.le_refl _)) _ (nats t) rfl ⟨_,h9.out.row.kept (Ga wr _ none) yq⟩ (qNO _) t.length (by simp[nats]) jm yo (by rw[zW];omega) ?_;intro sr cr w6 h1 H7;(have a4:=Kh h1);(have H1:Hid (wr.grownBy w6 none):=Kh (zE (Ga wr (.cells #[] 3) none) H7 (fun x e=>by have:wr.heap.size=x:=Oj e;omega)));clear h1 H7;obtain⟨hs,H5,H4,H3⟩:=h4.out.grow H1.out;(have H0:=Kh H5);(have a7:=Kh H4);(have a6:=Kh H3);(have b0:=H1.out.size);clear H5 H4 H3)|(at_builtin;refine app1 rfl _ _ _ rfl xT w.heap.size _ k hs rfl H0.out _ rfl rfl ?c1 ?c2 ?c3 ?_)|fail)
  case c1=>unfold maxLen;omega
  case c2=>omega
  case c3=>omega
  intro sa' sc' w8 h0 h8 a0
  have a3:Hid (OwnT w.heap.size w8 (.slice sa' (k+1) sc') (k+1) (ts.take (k+1))):=Kh (by
   rw[H2.out]
   exact OwnT.push H0.out a7.out a6.out (RowT.of_owns a4.out) h0 h8)
  have a8:Hid (w.grownBy w8 none):=Kh (zE (zI H9.out H1.out) h8 (fun x e=>(H0.out.lt x e).1));clear h0 h8;go_wp2;go_roundg (ts.length-(k+1))
  case measure=>have:=HG.out;omega
  exact⟨k+1,sa',sc',yo,by go_num,rfl,a3.out,a8.out⟩
 have H6:k=ts.length:=by have:=HG.out;omega
 have HE:Hid (ts.take k=ts):=Kh (List.take_of_length_le yo);have H8:=Kh H6;rw[HE.out]at h4;clear H6 h6 h3;go_wp2;go_ret;exact⟨sa,sc,by rw[<-H8.out];rfl,by rw[<-H8.out];exact h4.out,H9.out⟩
theorem qFX (B:Nat)(w:World)(v:Value)(f:List Nat)(n:Nat)(h:Row B w v (nats f))(hf:IsT n f)(h1:1<=n)(a9:n<=32):Calls Tryz.prog 92 #[v] w fun e w'=>e=.returned (.bool true)/\w=w':=by
 obtain⟨b,off,cap,rfl,_,h4,h3,h2⟩:=h.some_ (by rw[zV,hf.1];omega);have h7:cap<=9223372036854775807:=jl h3
 rw[zV,hf.1]at h4⊢;have h5:=Kh h2;have HF:=Kh hf;clear h hf h2 h3;go_enter Tryz.func92,Tryz.ntmps92;go_wp2
 go_loopg [15] n (fun gh i wr=>∃k:Nat,gh+k=n/\i=.int .i64 k/\w=wr)
 case atStart=>exact⟨0,rfl,rfl,rfl⟩
 obtain⟨k,hg,rfl,rfl⟩:=hrel;have HG:=Kh hg;clear hg;by_cases hk:k<n
 ·have ck:=h5.out.nat k (by rw[HF.out.1];exact hk)
  have hx:=HF.out.get hk;obtain⟨x,h0⟩:=Nm (f.getD k 0);rw[<-h0]at ck hx;have h6:(x:Int)<n:=yo;clear h0;go_wp2;go_roundg (n-(k+1))
  case measure=>have:=HG.out;omega
  exact⟨k+1,yo,by go_num,rfl⟩
 go_wp2;go_ret;exact⟨rfl,rfl⟩
theorem qDP (B:Nat)(w:World)(v:Value)(ts:List (List Nat))(n:Nat)(h:TMat B w v ts)(a9:∀t∈ts,IsT n t)(h1:1<=n)(a6:n<=32)(a7:1<=ts.length)(a8:ts.length<=6):Calls Tryz.prog 77 #[v] w fun e w'=>e=.returned (.bool true)/\w=w':=by
 obtain⟨b,off,cap,rfl,h9,h8,_,_,h0⟩:=h.head yo;have H3:cap<=9223372036854775807:=jl h8
 have H0:=h0 0 yo;obtain⟨a0,c0,ch0,h2⟩:=H0;have h7:(ts.getD 0 []).length=n:=(a9 _ (by rw[zQ yo];exact List.getElem_mem _)).1;rw[h7]at ch0;rw[Nat.add_zero]at ch0;have h4:=Kh h0;have H1:=Kh a9;obtain⟨L,hL⟩:=Nm ts.length;rw[<-hL]at h9 a7 a8 h4⊢;have H2:=Kh hL;clear h a9 h0 h8 h2 h7 hL;go_enter Tryz.func77,Tryz.ntmps77;go_wp2
 go_loopg [15] L (fun gh i wr=>∃k:Nat,gh+k=L/\i=.int .i64 k/\w=wr)
 case atStart=>exact⟨0,rfl,rfl,rfl⟩
 obtain⟨k,hg,rfl,rfl⟩:=hrel;have HG:=Kh hg;clear hg;by_cases hk:k<L
 ·obtain⟨a,c,ch,h3⟩:=h4.out k hk
  have h5:IsT n (ts.getD k []):=H1.out _ (by rw[zQ (by have:=H2.out;omega)];exact List.getElem_mem _);have h6:=h5.1;have HV:=Kh (qFX B w _ _ n h3.row h5 h1 a6);rw[h6]at ch HV;have e1:((n:Int) != (n:Int))=false:=yq
  clear h3 h5 h6;go_wp2_with fail;refine HV.out.mono ?_;rintro e w1 ⟨rfl,rfl⟩;go_wp2;go_roundg (L-(k+1))
  case measure=>have:=HG.out;omega
  exact⟨k+1,yo,by go_num,rfl⟩
 go_wp2;go_ret;exact⟨rfl,rfl⟩
theorem iO (w:World)(a:Nat)(ha:a<26):Calls Tryz.prog 63 #[.int .i64 (a:Int)] w fun e w'=>e=.returned (.string (strOfNums [97+(a:Int)]))/\w.grownBy w' none:=by
 have h1:IntKind.u8.wrap (97+(a:Int))=97+(a:Int):=IntWalk.u8_in _ yo;obtain⟨X,hX⟩:=Nm (strOfNums [97+(a:Int)]);have h0:∀(W:World) (g:Nat),W.cell? ⟨g,0,none⟩=some (.int .u8 (97+(a:Int)))->(convert 67 9 (.slice (some ⟨g,0,none⟩) 1 1)).run Tryz.prog W=.ok (.string X) W:=fun W g h=>by rw[hX];exact mD 67 5 Tryz.underlying67 Tryz.underlying5 9 Tryz.underlying9 h
 rw[<-hX];clear hX;go_enter Tryz.func63,Tryz.ntmps63;go_wp2;go_ret;exact⟨rfl,Ga _ _ none⟩
end Go.Proofs.YtiknckajkdlppaaGreat
namespace Go.Proofs.YtiknckajkdlppaaGreat
variable{pre a9:List Int}{n k i:Nat}
def lets (w:List Nat):List Int:=w.map fun(a:Nat)=>97+(a:Int)
def bH (pre las:List Int):Nat->Nat->List Nat
 | 0,_=>[]
 | f+1,i=>if las.getD i 0<0 then [] else bH pre las f (pre.getD i 0).toNat++[(las.getD i 0).toNat]
def vZ (pre las:List Int)(i:Nat):List Nat:=bH pre las (i+1) i
def qA (pre las:List Int)(n k:Nat):Prop:=∀i,i<n->las.getD i 0<0\/(0<=las.getD i 0/\las.getD i 0<k/\0<=pre.getD i 0/\pre.getD i 0<i)
theorem qIG (h:qA pre a9 n k):∀(i f g:Nat),i<n->i<f->i<g->bH pre a9 f i=bH pre a9 g i:=by
 intro i
 induction i using Nat.strongRecOn with
 | ind i ih =>
  intro f g hi hf hg
  match f,g,hf,hg with
  | f+1,g+1,hf,hg =>
   rw[bH,bH]
   split
   ·rfl
   rename_i hl
   rcases h i hi with h1|⟨h1,h2,h3,h4⟩
   ·exact absurd h1 hl
   rw[ih (pre.getD i 0).toNat yo f g yo yo yo]
theorem qFW (h:qA pre a9 n k)(f i:Nat)(hi:i<n)(hf:i<f):bH pre a9 f i=vZ pre a9 i:=qIG h i f (i+1) hi hf yo
theorem pZ (h:a9.getD i 0<0):vZ pre a9 i=[]:=by rw[vZ,bH,if_pos h]
theorem oB (h:qA pre a9 n k)(hi:i<n)(hl:¬a9.getD i 0<0):vZ pre a9 i=vZ pre a9 (pre.getD i 0).toNat++[(a9.getD i 0).toNat]:=by
 rw[vZ,bH,if_neg hl];rcases h i hi with h1|⟨h1,h2,h3,h4⟩
 ·exact absurd h1 hl
 rw[qFW h i _ yo yo]
theorem oM (h:qA pre a9 n k):∀i,i<n->(∀a∈vZ pre a9 i,a<k)/\(vZ pre a9 i).length<=i:=by
 intro i
 induction i using Nat.strongRecOn with
 | ind i ih =>
  intro hi;by_cases hl:a9.getD i 0<0
  ·rw[pZ hl];exact⟨fun a ha=>by simp at ha,yq⟩
  rcases h i hi with h1|⟨h1,h2,h3,h4⟩
  ·exact absurd h1 hl
  rw[oB h hi hl];have:=ih (pre.getD i 0).toNat yo yo;refine⟨fun a ha=>?_,by rw[List.length_append,List.length_singleton];omega⟩;rcases List.mem_append.1 ha with ha|ha
  ·exact this.1 a ha
  rw[List.mem_singleton]at ha;omega
end Go.Proofs.YtiknckajkdlppaaGreat
