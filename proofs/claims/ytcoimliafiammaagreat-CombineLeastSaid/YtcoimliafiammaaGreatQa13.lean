/- Part 13 of the proof. -/
import Derived.Test.YtcoimliafiammaaGreatQa12
import Derived.BigRegion
set_option linter.unusedVariables false
set_option linter.unusedSimpArgs false
set_option maxRecDepth 100000
set_option maxHeartbeats 16000000
namespace Go.Proofs.YtcoimliafiammaaGreat
open Go.Maps Go.RowKit
def setV (m g:Nat):Value:=.slice (some ⟨g,0,none⟩) m m
theorem qK {W:World}{B B' e e' s s' n n':Nat}{v v':Value}{xs a9:List Value}(h:W.ownsRow B e s v n xs)(h':W.ownsRow B' e' s' v' n' a9)(a8:e≠e'):v.ownBlock=none\/v.ownBlock≠v'.ownBlock:=by
 rcases hv:v.ownBlock with _|j
 ·exact .inl rfl
 refine .inr fun e1=>?_;obtain⟨cu,e2,mm,hh,hn⟩:=zZ h a8 j hv;exact zO h' hh (fun e3=>hn e3.symm) e1.symm
theorem BX.appI {W0 W W':World}{o k:Nat}{X:Nat->Prop}{fs:List Bool}{t:List (List Int)}{hs:List Value}{sf:Option Addr}{cf:Nat}{sn:Option Addr}{cn:Nat}(h:BX W0 W o X k fs t hs sf cf sn cn){B n:Nat}{v:Value}{xs:List Value}(ho:W.ownsRow B 3 1 v n xs)(hB:W0.heap.size<=B)(hX:∀j,v.ownBlock=some j->¬X j)(hg:W.grownBy W' v.ownBlock):BX W0 W' o X k fs t hs sf cf sn cn:=by
 rcases hv:v.ownBlock with _|g
 ·rw[hv]at hg;exact h.grow hg
 rw[hv]at hg;rcases ho.2 with ⟨rfl,_⟩|⟨b,cap,cur,rfl,hb,hh,_⟩
 ·simp[Value.ownBlock]at hv
 have e:b=g:=by simpa [Value.ownBlock] using hv
 subst e;exact h.put hg hh (hX b hv) (Nat.le_trans hB hb)
structure DSt (W0 W:World)(o:Nat)(X:Nat->Prop)(k m:Nat)(l:List (List Bool))(gs:List Nat)(fs:List Bool)(t:List (List Int))(hs:List Value)(sf:Option Addr)(cf:Nat)(sn:Option Addr)(cn:Nat)(ss:Option Addr)(sc:Nat):Prop where
 bx:BX W0 W o X k fs t hs sf cf sn cn
 own:W.ownsRow W0.heap.size 27 1 (.slice ss l.length sc) l.length (gs.map (setV m))
 len:gs.length=l.length
 row:∀j,j<l.length->Arr W (gs.getD j 0) 4 (bls (l.getD j []))
 lo:∀g∈gs,W0.heap.size<=g
 sep:∀g∈gs,(Value.slice sf fs.length cf).ownBlock≠some g
 ll:∀x∈l,x.length=m
section
variable {W0 W W':World} {o k m:Nat} {X:Nat->Prop} {l:List (List Bool)} {gs:List Nat} {fs:List Bool} {t:List (List Int)} {hs:List Value} {sf:Option Addr} {cf:Nat} {sn:Option Addr} {cn:Nat} {ss:Option Addr} {sc:Nat}
theorem DSt.getG (h:DSt W0 W o X k m l gs fs t hs sf cf sn cn ss sc){j:Nat}(hj:j<l.length):gs.getD j 0∈gs:=by
 rw[zG (by rw[h.len];exact hj)];exact List.getElem_mem _
theorem DSt.grow (h:DSt W0 W o X k m l gs fs t hs sf cf sn cn ss sc)(hg:W.grownBy W' none):DSt W0 W' o X k m l gs fs t hs sf cf sn cn ss sc :=
 ⟨h.bx.grow hg,zP h.own hg,h.len,fun j hj=>(h.row j hj).kept hg (by simp),h.lo,h.sep,h.ll⟩
theorem DSt.hd (h:DSt W0 W o X k m l gs fs t hs sf cf sn cn ss sc)(h0:0<l.length):∃hq,ss=some ⟨hq,0,none⟩/\l.length<=sc/\sc<=maxLen/\∀j,j<l.length->W.cell? ⟨hq,j,none⟩=some (.slice (some ⟨gs.getD j 0,0,none⟩) m m):=by
 obtain⟨hq,e,h1,h2,h3⟩:=yH h.own h0;refine⟨hq,e,h1,h2,fun j hj=>?_⟩;have h4:j<gs.length:=by rw[h.len];exact hj
 rw[h3.cell j (by simpa using h4)];simp[setV,List.getElem?_eq_getElem h4]
theorem DSt.pushS (h:DSt W0 W o X k m l gs fs t hs sf cf sn cn ss sc){n G:Nat}(hn:l.length=n){T:List Bool}(hT:T.length=m)(hA:Arr W G 4 (bls T))(hG:W0.heap.size<=G)(hF:(Value.slice sf fs.length cf).ownBlock≠some G){a9:Option Addr}{a8:Nat}(ho:W'.ownsRow W0.heap.size 27 1 (.slice a9 (n+1) a8) (n+1) (gs.map (setV m)++[setV m G]))(hg:W.grownBy W' (Value.slice ss n sc).ownBlock):DSt W0 W' o X k m (l++[T]) (gs++[G]) fs t hs sf cf sn cn a9 a8:=by
 subst hn
 have h0:∀ {g:Nat} {xs:List Value},Arr W g 4 xs->Arr W' g 4 xs:=fun ha=>by
  obtain⟨c,r,hc,hh⟩:=id ha;exact ha.kept hg (zO h.own hc (by decide))
 have hz:=hg.size;have h1:∀j,(Value.slice ss l.length sc).ownBlock=some j->yC W 3 j:=zZ h.own (by decide);refine⟨⟨fun j hj=>by have:=h.bx.lt j hj;omega,zB h.bx.box hg (zO h.own h.bx.box (by decide)),h.bx.ownF.kept hg (qK h.bx.ownF h.own (by decide)),h.bx.ownN.kept hg (qK h.bx.ownN h.own (by decide)),h.bx.rows.keptT hg h1,h.bx.lo,zA h.bx.grown hg (fun j e=>(h.own.lt j e).1)⟩,?_,by simp[h.len],fun j hj=>?_,fun g hg'=>?_,fun g hg'=>?_,fun x hx=>?_⟩
 ·rw[List.length_append,List.map_append];exact ho
 ·rw[List.length_append]at hj
  by_cases e:j<l.length
  ·rw[yN (by rw[h.len];exact e),yN e]
   exact h0 (h.row j e)
  have e2:j=l.length:=by simp at hj;omega
  subst e2;have e3:(gs++[G]).getD l.length 0=G:=by rw[<-h.len,List.getD_eq_getElem?_getD];simp
  have e4:(l++[T]).getD l.length []=T:=by rw[List.getD_eq_getElem?_getD];simp
  rw[e3,e4];exact h0 hA
 ·rcases List.mem_append.1 hg' with hh|hh
  ·exact h.lo g hh
  simp at hh;subst hh;exact hG
 ·rcases List.mem_append.1 hg' with hh|hh
  ·exact h.sep g hh
  simp at hh;subst hh;exact hF
 rcases List.mem_append.1 hx with hh|hh
 ·exact h.ll x hh
 simp at hh;subst hh;exact hT
theorem DSt.appI (h:DSt W0 W o X k m l gs fs t hs sf cf sn cn ss sc){B n:Nat}{v:Value}{xs:List Value}(ho:W.ownsRow B 3 1 v n xs)(hB:W0.heap.size<=B)(hX:∀j,v.ownBlock=some j->¬X j)(hg:W.grownBy W' v.ownBlock):DSt W0 W' o X k m l gs fs t hs sf cf sn cn ss sc :=
 ⟨h.bx.appI ho hB hX hg,h.own.kept hg (qK h.own ho (by decide)),h.len,fun j hj=>by
  obtain⟨c,r,hc,hh⟩:=id (h.row j hj)
  exact(h.row j hj).kept hg (zO ho hc (by decide)),h.lo,h.sep,h.ll⟩
theorem DSt.pushF (h:DSt W0 W o X k m l gs fs t hs sf cf sn cn ss sc){n:Nat}(hn:fs.length=n){b:Bool}{a9:Option Addr}{a8:Nat}(ho:W'.ownsRow o 4 1 (.slice a9 (n+1) a8) (n+1) (bls fs++[.bool b]))(hg:W.grownBy W' (Value.slice sf n cf).ownBlock)(hm:pG W W' (.slice sf n cf) (.slice a9 (n+1) a8)){W2:World}(a7:W2=W'.setCell ⟨o,2,none⟩ (.slice a9 (n+1) a8)):DSt W0 W2 o X k m l gs (fs++[b]) t hs a9 a8 sn cn ss sc:=by
 have hp:=h.bx.pushF hn ho hg a7;subst hn;have hb:=zB h.bx.box hg (zO h.bx.ownF h.bx.box (by decide));have g2:=zD W' ⟨o,2,none⟩ (.slice a9 (fs.length+1) a8);rw[<-a7]at g2;have h0:=h.own.kept hg (qK h.own h.bx.ownF (by decide));refine⟨hp,h0.kept g2 (.inr (zO h0 hb (by decide))),h.len,fun j hj=>?_,h.lo,fun g hgm=>?_,h.ll⟩
 ·have h1:=(h.row j hj).kept hg (h.sep _ (h.getG hj))
  exact h1.kept g2 (fun e=>h1.type_ne hb (by decide) (Oj e).symm)
 rw[List.length_append];show (Value.slice a9 (fs.length+1) a8).ownBlock≠some g;rcases hm with h1|⟨_,h1⟩
 ·rw[h1];exact h.sep g hgm
 intro e;have:=h1 g e;obtain⟨j,hj,e2⟩:=List.getElem_of_mem hgm;have h2:j<l.length:=(by rw[<-h.len];exact hj);have:=(h.row j h2).lt;rw[zG hj,e2]at this;omega
theorem DSt.pushN (h:DSt W0 W o X k m l gs fs t hs sf cf sn cn ss sc){n:Nat}(hn:t.length=n){rv:Value}{row:List Int}{a9:Option Addr}{a8:Nat}{Y:Nat->Prop}(a5:∀j,X j->Y j)(hY:∀j,Y j->j<W.heap.size)(ho:W'.ownsRow o 22 1 (.slice a9 (n+1) a8) (n+1) (hs++[rv]))(hg:W.grownBy W' (Value.slice sn n cn).ownBlock)(a7:RowX Y 3 W rv (ints row)){W2:World}(a6:W2=W'.setCell ⟨o,3,none⟩ (.slice a9 (n+1) a8)):DSt W0 W2 o Y k m l gs fs (t++[row]) (hs++[rv]) sf cf a9 a8 ss sc:=by
 have hp:=h.bx.pushN hn a5 hY ho hg a7 a6;subst hn;have hb:=zB h.bx.box hg (zO h.bx.ownN h.bx.box (by decide));have g2:=zD W' ⟨o,3,none⟩ (.slice a9 (t.length+1) a8);rw[<-a6]at g2;have h0:=h.own.kept hg (qK h.own h.bx.ownN (by decide));refine⟨hp,h0.kept g2 (.inr (zO h0 hb (by decide))),h.len,fun j hj=>?_,h.lo,h.sep,h.ll⟩;obtain⟨c,r,hc,hh⟩:=id (h.row j hj);have h1:=(h.row j hj).kept hg (zO h.bx.ownN hc (by decide));exact h1.kept g2 (fun e=>h1.type_ne hb (by decide) (Oj e).symm)
end
def rFs (bs:List (List Nat))(l:List (List Bool))(i:Nat):List Bool:=(l.take i).map (finP bs)
def rTs (bs:List (List Nat))(k:Nat)(l:List (List Bool))(i:Nat):List (List Int):=(l.take i).map (qZ (nxtB bs) k l)
def jR (bs:List (List Nat))(l:List (List Bool))(S:List Bool)(a:Nat):List Nat:=(List.range a).map fun b=>l.idxOf (nxtB bs S b)
theorem qPX {bs:List (List Nat)}{l:List (List Bool)}{i:Nat}(h:i<=l.length):(rFs bs l i).length=i:=by simp[rFs];omega
theorem qHA {bs:List (List Nat)}{k:Nat}{l:List (List Bool)}{i:Nat}(h:i<=l.length):(rTs bs k l i).length=i:=by simp[rTs];omega
theorem qUZ {bs:List (List Nat)}{l:List (List Bool)}{i:Nat}(h:i<l.length):rFs bs l (i+1)=rFs bs l i++[finP bs (l.getD i [])]:=by
 rw[rFs,zT (d:=[]) h,List.map_append];rfl
theorem qUX {bs:List (List Nat)}{k:Nat}{l:List (List Bool)}{i:Nat}(h:i<l.length):rTs bs k l (i+1)=rTs bs k l i++[qZ (nxtB bs) k l (l.getD i [])]:=by
 rw[rTs,zT (d:=[]) h,List.map_append];rfl
theorem qVA {bs:List (List Nat)}{l m:List (List Bool)}{i:Nat}(h:i<=l.length):rFs bs (l++m) i=rFs bs l i:=by
 rw[rFs,List.take_append_of_le_length h];rfl
theorem qUY {bs:List (List Nat)}{k:Nat}{s0:List Bool}{l m:List (List Bool)}{i a:Nat}(h:BfsI (nxtB bs) k s0 l i a):rTs bs k (l++m) i=rTs bs k l i:=by
 rw[rTs,List.take_append_of_le_length h.le];refine List.map_congr_left fun x hx=>qIS ?_;obtain⟨j,hj,e⟩:=List.getElem_of_mem hx;rw[List.getElem_take]at e;rw[List.length_take]at hj;exact h.cl j x (by omega) (by rw[List.getElem?_eq_getElem (by omega),e])
theorem qMC {bs:List (List Nat)}{k:Nat}{s0:List Bool}{l m:List (List Bool)}{i a:Nat}(h:BfsI (nxtB bs) k s0 l i a)(hi:i<l.length)(ha:a<=k):jR bs (l++m) (l.getD i []) a=jR bs l (l.getD i []) a:=by
 refine List.map_congr_left fun b hb=>?_;have hb:=List.mem_range.1 hb;rw[List.idxOf_append,if_pos];exact h.row _ (by rw[zG hi,List.getElem?_eq_getElem hi]) b hb (by omega)
theorem aG (bs:List (List Nat))(l:List (List Bool))(S:List Bool)(a:Nat):jR bs l S (a+1)=jR bs l S a++[l.idxOf (nxtB bs S a)]:=by simp[jR,List.range_succ]
theorem qMD (bs:List (List Nat))(l:List (List Bool))(S:List Bool)(k:Nat):nats (jR bs l S k)=ints (qZ (nxtB bs) k l S):=by simp[nats,ints,jR,qZ]
theorem qWW {l:List (List Bool)}{T:List Bool}(h:∀j,j<l.length->l.getD j []≠T):T ∉ l:=fun hm=>by
 obtain⟨j,hj,e⟩:=List.getElem_of_mem hm
 exact h j hj (by rw[zG hj];exact e)
theorem qRY {l:List (List Bool)}{T:List Bool}:∀ {i:Nat},i<l.length->l.getD i []=T->(∀j,j<i->l.getD j []≠T)->l.idxOf T=i:=by
 induction l with
 | nil=>intro i hi;simp at hi
 | cons x l ih =>
  intro i hi he hj;cases i with
  | zero =>
   have:x=T:=by simpa using he
   rw[this];simp
  | succ i =>
   have h0:x≠T:=(by simpa using hj 0 (by omega));rw[List.idxOf_cons];have hb:(x == T)=false:=by rw[beq_eq_false_iff_ne];exact h0
   rw[hb];have:=ih (i:=i) (by simpa using hi) (by simpa using he) (fun j hj'=>by simpa using hj (j+1) (by omega));simp[this]
end Go.Proofs.YtcoimliafiammaaGreat
namespace Go.Proofs.YtcoimliafiammaaGreat
open Go.RowKit
def Fit:List (List UInt8)->List UInt8->List UInt8->Prop
 | [],v,r=>∃q,r=q++v
 | u::us,v,r=>∃p r',r=p++u++r'/\Fit us v r'
theorem Fit.more:∀ {us:List (List UInt8)} {v r:List UInt8} (p:List UInt8),Fit us v r->Fit us v (p++r)
 | [],v,r,p,⟨q,h⟩=>⟨p++q,by rw[h,List.append_assoc]⟩
 | u::us,v,r,p,⟨q,r',h,hf⟩=>⟨p++q,r',by rw[h];simp only[List.append_assoc],hf⟩
theorem fW {r u p q:List UInt8}(h:r=p++u++q):Lib.occAt r u p.length=true:=by
 subst h;unfold Lib.occAt;rw[List.append_assoc,List.drop_left,List.isPrefixOf_iff_prefix];exact List.prefix_append _ _
theorem qKA {r u:List UInt8}{i:Nat}(h:Lib.occAt r u i=true)(hi:i<=r.length):r=r.take i++u++r.drop (i+u.length):=by
 unfold Lib.occAt at h;rw[List.isPrefixOf_iff_prefix]at h;obtain⟨t,ht⟩:=h;have h1:r=r.take i++(u++t):=by rw[ht,List.take_append_drop]
 have h2:r.drop (i+u.length)=t:=by rw[<-List.drop_drop,<-ht,List.drop_left]
 rw[h2,List.append_assoc];exact h1
theorem xAH (us:List (List UInt8))(u v r:List UInt8):Fit (u::us) v r↔(Lib.cut r u).2.2=true/\Fit us v (Lib.cut r u).2.1:=by
 unfold Lib.cut;rcases Lib.index_spec r u with ⟨h,hno⟩|⟨i,h,hi,hocc,hno⟩
 ·rw[if_neg (by omega)]
  constructor
  ·rintro ⟨p,r',hr,_⟩
   have:=hno p.length (by rw[hr];simp);rw[fW hr]at this;cases this
  rintro ⟨h,_⟩;cases h
 rw[if_pos (by omega),h];simp only[Int.toNat_natCast,true_and];constructor
 ·rintro ⟨p,r',hr,hf⟩
  have h0:i<=p.length:=by
   rcases Nat.lt_or_ge p.length i with hlt|hge
   ·have:=hno p.length hlt
    rw[fW hr]at this;cases this
   exact hge
  have hd:r.drop (p.length+u.length)=r':=by
   rw[hr,<-List.length_append,List.drop_left]
  have he:r.drop (i+u.length)=(r.drop (i+u.length)).take (p.length-i)++r':=by
   have e:r'=(r.drop (i+u.length)).drop (p.length-i):=by rw[List.drop_drop,<-hd];congr 1;omega
   rw[e,List.take_append_drop]
  rw[he];exact hf.more _
 intro hf;exact⟨_,_,qKA hocc hi,hf⟩
theorem gZ:∀(us:List (List UInt8)) (r v:List UInt8),lQ us r v=true↔Fit us v r
 | [],r,v=>by
  show Lib.hasSuffix r v=true↔_
  unfold Lib.hasSuffix
  rw[List.isSuffixOf_iff_suffix]
  exact⟨fun⟨q,h⟩=>⟨q,h.symm⟩,fun⟨q,h⟩=>⟨q,h.symm⟩⟩
 | u::us,r,v=>by
  rw[xAH]
  unfold lQ rZ
  by_cases h:(Lib.cut r u).2.2=true
  ·rw[if_pos h]
   have:=gZ us (Lib.cut r u).2.1 v
   unfold lQ at this
   rw[this]
   exact⟨fun h'=>⟨h,h'⟩,fun h'=>h'.2⟩
  ·rw[if_neg h]
   exact⟨fun h'=>(by cases h'),fun h'=>absurd h'.1 h⟩
def pC:List (List UInt8)->List UInt8->Prop
 | [],_=>False
 | [b],s=>s=b
 | b::c::rest,s=>∃r,s=b++r/\Fit (c::rest).dropLast ((c::rest).getLastD []) r
theorem kI:∀(bs:List (List UInt8)) (s:List UInt8),wU bs s=true↔pC bs s
 | [],s=>by simp[wU,pC]
 | [b],s=>by simp[wU,pC]
 | b::c::rest,s=>by
  simp only[wU,pC,Bool.and_eq_true,gZ]
  unfold Lib.hasPrefix
  rw[List.isPrefixOf_iff_prefix]
  constructor
  ·rintro ⟨⟨t,ht⟩,hf⟩
   refine⟨t,ht.symm,?_⟩
   rwa [<-ht,List.drop_left]at hf
  ·rintro ⟨r,rfl,hf⟩
   exact⟨List.prefix_append _ _,by rwa [List.drop_left]⟩
theorem aW {n:Nat}{letters:Int}:∀(bs:List ByteArray) (i:Nat),(∀j (h:j<bs.length),tQ n letters (i+j) bs[j]=true)->vP n letters i bs=true
 | [],_,_=>rfl
 | b::bs,i,h=>by
  have h1:=h 0 (by simp)
  have h2:=aW bs (i+1) fun j hj=>by
   have:=h (j+1) (by simpa using hj)
   rwa [show i+1+j=i+(j+1) by omega]
  simp only[vP]
  rw[h2,Bool.and_true]
  simpa using h1
def letU (c:UInt8):Nat:=c.toNat-97
theorem qWP {x y:UInt8}(hx:97<=x.toNat)(hy:97<=y.toNat)(h:letU x=letU y):x=y:=by
 unfold letU at h;exact UInt8.toNat_inj.1 (by omega)
def okU (l:List UInt8):Prop:=∀x∈l,97<=x.toNat
theorem lS:∀ {l m:List UInt8},okU l->okU m->l.map letU=m.map letU->l=m
 | [],[],_,_,_=>rfl
 | [],y::m,_,_,h=>by simp at h
 | x::l,[],_,_,h=>by simp at h
 | x::l,y::m,hl,hm,h=>by
  simp only[List.map_cons,List.cons.injEq]at h
  rw[qWP (hl x (by simp)) (hm y (by simp)) h.1,lS (fun z hz=>hl z (List.mem_cons_of_mem _ hz)) (fun z hz=>hm z (List.mem_cons_of_mem _ hz)) h.2]
def TlU:List (List UInt8)->List UInt8->Prop
 | [],r=>r=[]
 | u::us,r=>∃p r',r=p++u++r'/\TlU us r'
theorem qKO:∀(us:List (List UInt8)) (v r:List UInt8),Fit us v r↔TlU (us++[v]) r
 | [],v,r=>⟨fun⟨q,h⟩=>⟨q,[],by simp[h],rfl⟩,fun⟨p,r',h,h'⟩=>⟨p,by rw[h,show r'=[] from h'];simp⟩⟩
 | u::us,v,r=>by
  constructor
  ·rintro ⟨p,r',h,hf⟩;exact⟨p,r',h,(qKO us v r').1 hf⟩
  ·rintro ⟨p,r',h,hf⟩;exact⟨p,r',h,(qKO us v r').2 hf⟩
theorem qJD:∀ {us:List (List UInt8)} {r:List UInt8},(∀u∈us,okU u)->okU r->(TlU us r↔TlN (us.map (List.map letU)) (r.map letU))
 | [],r,_,_=>by
  show r=[]↔r.map letU=[]
  rw[List.map_eq_nil_iff]
 | u::us,r,hu,hr=>by
  constructor
  ·rintro ⟨p,r',rfl,h⟩
   refine⟨p.map letU,r'.map letU,by simp,(qJD (fun x hx=>hu x (List.mem_cons_of_mem _ hx)) (fun x hx=>hr x (List.mem_append_right _ hx))).1 h⟩
  ·rintro ⟨p,r',h,ht⟩
   obtain⟨a,c,rfl,h1,rfl⟩:=List.map_eq_append_iff.1 h
   obtain⟨a1,b1,rfl,rfl,h2⟩:=List.map_eq_append_iff.1 h1
   have hb:b1=u:=lS (fun x hx=>hr x (by simp[hx])) (hu u (by simp)) h2
   subst hb
   exact⟨a1,c,rfl,(qJD (fun x hx=>hu x (List.mem_cons_of_mem _ hx)) (fun x hx=>hr x (List.mem_append_right _ hx))).2 ht⟩
theorem qVF:∀ {bs:List (List UInt8)} {s:List UInt8},(∀u∈bs,okU u)->okU s->(pC bs s↔PatN (bs.map (List.map letU)) (s.map letU))
 | [],s,_,_=>Iff.rfl
 | [b],s,hb,hs=>by
  show s=b↔∃r,s.map letU=b.map letU++r/\r=[]
  constructor
  ·rintro rfl;exact⟨[],by simp,rfl⟩
  ·rintro ⟨r,h,rfl⟩
   exact lS hs (hb b (by simp)) (by simpa using h)
 | b::c::rest,s,hb,hs=>by
  have hl:(c::rest)=(c::rest).dropLast++[(c::rest).getLastD []]:=by
   rw[List.getLastD_eq_getLast?,List.getLast?_eq_some_getLast (List.cons_ne_nil c rest)];exact(List.dropLast_concat_getLast (List.cons_ne_nil c rest)).symm
  have h0:∀u∈c::rest,okU u:=fun x hx=>hb x (List.mem_cons_of_mem _ hx);constructor
  ·rintro ⟨r,rfl,hf⟩
   refine⟨r.map letU,by simp,?_⟩;have:=(qKO _ _ _).1 hf;rw[<-hl]at this;exact(qJD h0 (fun x hx=>hs x (List.mem_append_right _ hx))).1 this
  ·rintro ⟨r,h,ht⟩
   obtain⟨a,r',rfl,h1,rfl⟩:=List.map_eq_append_iff.1 h;have ha:a=b:=lS (fun x hx=>hs x (List.mem_append_left _ hx)) (hb b (by simp)) h1;subst ha;refine⟨r',rfl,(qKO _ _ _).2 ?_⟩;rw[<-hl];exact(qJD h0 (fun x hx=>hs x (List.mem_append_right _ hx))).2 ht
theorem qBT (s:ByteArray):zI s=s.data.toList.map letU:=rfl
theorem jK {s:ByteArray}{k:Int}(h:zU s k=true):okU s.data.toList:=fun x hx=>by
 simp only[zU,Bool.and_eq_true,List.all_eq_true]at h
 have:=h.2 x hx
 unfold pK at this
 rw[decide_eq_true_eq]at this
 omega
theorem pW {s:ByteArray}{k l:Int}(h:zU s k=true)(a9:k<=l)(hl:l<=6):zU s l=true:=by
 simp only[zU,Bool.and_eq_true,decide_eq_true_eq,List.all_eq_true]at h⊢;refine⟨⟨by omega,hl,h.1.2.2⟩,fun c hc=>?_⟩;have:=h.2 c hc;unfold pK at this⊢;rw[decide_eq_true_eq]at this⊢;omega
theorem nX {bs:List ByteArray}{k l:Int}(h:yT bs k=0)(a9:k<=l)(hl:l<=6):yT bs l=0:=by
 obtain⟨h1,h2,h3,h4,h5,h6⟩:=vH h;rw[kJ (by omega) (by omega) (by omega) (by omega) (by omega),if_pos];refine aW _ _ fun j hj=>?_;have:=lN h6 j hj;unfold tQ at this⊢;rw[Bool.and_eq_true]at this⊢;exact⟨pW this.1 a9 hl,this.2⟩
theorem qRS {bs:List ByteArray}{s:ByteArray}{k:Nat}(h:yT bs (k:Int)=0)(hs:zU s (k:Int)=true):yJ bs s=true↔PatN (bs.map zI) (zI s):=by
 obtain⟨h1,h6,h0,h8,ht,hw,_⟩:=qDZ h;rw[yJ,nX h h6 (Int.le_refl 6),pW hs h6 (Int.le_refl 6)];simp only[decide_true,Bool.true_and]
 rw[kI,qVF (fun u hu=>by
  obtain⟨b,hb,rfl⟩:=List.mem_map.1 hu;obtain⟨i,hi,rfl⟩:=List.getElem_of_mem hb
  exact jK (hw i hi)) (jK hs),List.map_map]
 rfl
theorem gV {bs:List ByteArray}{k:Int}(h:yT bs k=0):∃b us,bs.map zI=b::us/\∀u∈us.dropLast,u≠[]:=by
 obtain⟨h1,h6,h0,h8,ht,hw,h2⟩:=qDZ h
 match bs,h0 with
 | b::rest,_ =>
  refine⟨zI b,rest.map zI,rfl,fun u hu=>?_⟩;obtain⟨i,hi,rfl⟩:=List.getElem_of_mem hu
  have h3:i+1<rest.length:=by
   rw[List.length_dropLast,List.length_map]at hi;omega
  have:=h2 (i+1) (by simp;omega) (by omega) (by simp;omega);simp only[List.getElem_cons_succ]at this;intro e;rw[List.getElem_dropLast,List.getElem_map]at e;have e2:=congrArg List.length e;rw[yM,List.length_nil]at e2;omega
theorem qMT {bs:List ByteArray}{s:ByteArray}{k:Nat}(h:yT bs (k:Int)=0)(hs:zU s (k:Int)=true):acc (xI bs (k:Int)) (st0 (xI bs (k:Int))) (zI s)=yJ bs s:=by
 obtain⟨h1,h6,h0,h8,ht,hw,_⟩:=qDZ h;have h7:1<=k:=by omega
 have h5:k<=6:=by omega
 obtain⟨b,us,hb,h4⟩:=gV h;have h2:=(uI hs).1;have h3:=qBL h7 h5 h0 ht;rw[xI,if_pos (vO.2 h),Int.toNat_natCast];show acc (minD (patD k (bs.map zI)) k) 0 (zI s)=_;rw[qRL h3 h2];rw[Bool.eq_iff_iff,qRS h hs,hb];exact qQN h4 h2
theorem qEC {bs:List ByteArray}{k:Nat}(h:yT bs (k:Int)=0):∃n,n<=66/\VD (xI bs (k:Int)) n k:=by
 obtain⟨h1,h6,h0,h8,ht,hw,_⟩:=qDZ h;have h2:=qBL (k:=k) (by omega) (by omega) h0 ht;have hl:=gW (k:=k) h0 ht;rw[xI,if_pos (vO.2 h),Int.toNat_natCast];exact⟨_,Nat.le_trans (qRO h2) hl.2,qEQ h2⟩
end Go.Proofs.YtcoimliafiammaaGreat
namespace Go.Proofs.YtcoimliafiammaaGreat
def qFC (n:Nat):Code->Option Code
 | .block i c=>if i=n then some c else qFC n c
 | .seq a b=>match qFC n a with
  | some c=>some c
  | none=>qFC n b
 | .cond _ a b=>match qFC n a with
  | some c=>some c
  | none=>qFC n b
 | .loop c=>qFC n c
 | .scope c=>qFC n c
 | _=>none
noncomputable def blk (f:Func)(n:Nat):Code:=(f.body.bind (qFC n)).getD .skip
def qFB (n:Nat):Code->Option Code
 | .region i o d=>if i=n then some (.region i o d) else none
 | .block _ c=>qFB n c
 | .seq a b=>match qFB n a with
  | some c=>some c
  | none=>qFB n b
 | .cond _ a b=>match qFB n a with
  | some c=>some c
  | none=>qFB n b
 | .loop c=>qFB n c
 | .scope c=>qFB n c
 | _=>none
noncomputable def reg (f:Func)(n:Nat):Code:=(f.body.bind (qFB n)).getD .skip
open Go.Maps Go.RowKit
theorem xCQ {w w':World}{p:Addr}{u:Value}(h:w.cell? p=some u)(hg:w.grownBy w' none):w'.cell? p=some u:=(World.cell?_of_block (hg.block p.block (World.block_lt_of_cell? w p h) (by simp))).trans h
theorem xBI {Q:Exit->Act->World->Prop}{v0 v1 v3 v4 v5 v6 v9 z7 z8 z9 y0 y1 y2 y3 z2 z3 z4 y4 y5 y6 y7 y8 y9 x0 x1 x2 x3 x4 x5 x6 x7 x8 x9 t0 t1 t2 t3 t4 t5 t6 t7 t8 t9 s0 s1 s2 s3 s4 s5 s6 s7 s8 s9 r0 r1 r2 r3 r4 r5 r6 r7 r8 r9 q0 q1 q2 q3 q4 q5 q6 q7 q8 q9 p0 p1 p2 p3 p4 p5 p6 p7 p8 p9 o2 o3 o4 o5 o6 o7 o8 o9 n0 n1 n2 n3 g6 g7 g8 g9 f0 f1 f2 f3 f4 f5 f6 n7 n8 n9 m0 m1 m2 m3 m4 m5 m6 m7 m8 m9 l0 l1 l2 l3 l4 l5 l6 l7 l8 l9 k0 k1 k2 k3 k4 k5 k6 k7 k8 k9 j0 j1 j2 j3 j4 j5 j6 j7 j8 j9 i0 i1 i2 i3 i4 i5 i6 i7 i8 i9 g0 g1 g2 g3 f7 f8 f9 e0 e2 e3 e4 e5 e6 e7 e8 e9 d2 d3 d4 d5 d6 d7 d8 d9 c1 c2 c3 c4 c5 c6 c7 c8 c9 b1 b2 b3 b4 b5 b6 b7 b8 b9 a1 a2 a3 a4 a5 a6 a7 a8:Value}{w5 wA ws:World}{bs:List ByteArray}{L:List (List Nat)}{S:List Bool}{kb off cap P pb pc mb n k x G gi:Nat}(HL:Hid (L=bs.map zI))(A5:Hid (L.length=bs.length))(A0:Hid (∀i,i<bs.length->lenP L i=(bs.getD i ⟨#[]⟩).size))(A6:Hid (n=(wL L).length))(A7:Hid (yT bs k=0))(n4:Hid (RCtx w5 bs kb off cap pb pc mb n))(g4:Hid (w5.grownBy wA none))(n5:Hid (∀W:World,w5.grownBy W none->W.cell? ⟨P,0,none⟩=some (.slice (some ⟨kb,off,none⟩) bs.length cap)))(n6:Hid (Arr wA gi 4 (bls S)))(A8:Hid (S.length=n))(a9:Hid (G=wA.heap.size))(z5:Hid (Arr ws G 4 (bls (yR L n S x 0))))(z6:Hid (wA.grownBy ws none))(A9:bs.length<=9223372036854775807)(A2:cap<=9223372036854775807)(A1:bs.length<=cap)(A4:n<=pc)(z1:pc<=9223372036854775807)(hm:n<=22)(z0:0<n)(A3:k<=6)(hx:x<k)(g5:∀(z19 z20 z21 z113 z114 z115 z116 z117 z118 z119 z120 z121 z122 z123 z124 z125 z126 z127 z128 z129 z130 z131 z132 z133 z134 z135 z136 z137 z138 z139 z140 z141 z142 z143 z144 z145 z146 z147 z148 z149 z150 z151 z152 z153 z154 z155 z156 z157 z158 z159 z160 z161 z162 z163 z164 z165 z166 z167 z168 z169 z170:Value) (wr:World),Arr wr G 4 (bls (yR L n S x n))->wA.grownBy wr none->Q .normal ⟨(v0::v1::(Value.pointer (some ⟨P,0,none⟩))::v3::v4::v5::v6::(Value.slice (some ⟨pb,0,none⟩) n pc)::(Value.map (some mb))::v9::z7::z8::z9::y0::y1::y2::y3::(Value.int .i64 x)::(Value.slice (some ⟨G,0,none⟩) n n)::z19::z20::z21::y4::y5::y6::y7::y8::y9::x0::x1::x2::x3::x4::x5::x6::x7::x8::x9::t0::t1::t2::t3::t4::t5::t6::t7::t8::t9::s0::s1::s2::s3::s4::s5::s6::s7::s8::s9::r0::r1::r2::r3::r4::r5::r6::r7::r8::r9::q0::q1::q2::q3::q4::q5::q6::q7::q8::q9::p0::p1::p2::p3::p4::p5::p6::p7::p8::p9::o2::o3::o4::o5::o6::o7::o8::o9::n0::n1::n2::n3::g6::g7::g8::g9::f0::f1::f2::f3::f4::f5::f6::(Value.slice (some ⟨gi,0,none⟩) n n)::(Value.int .i64 n)::z113::z114::z115::z116::z117::z118::z119::z120::z121::z122::z123::z124::z125::z126::z127::z128::z129::z130::z131::z132::z133::z134::z135::z136::z137::z138::z139::z140::z141::z142::z143::z144::z145::z146::z147::z148::z149::z150::z151::z152::z153::z154::z155::z156::z157::z158::z159::z160::z161::z162::z163::z164::z165::z166::z167::z168::z169::z170::f7::f8::f9::e0::e2::e3::e4::e5::e6::e7::e8::e9::d2::d3::d4::d5::d6::d7::d8::d9::c1::c2::c3::c4::c5::c6::c7::c8::c9::b1::b2::b3::b4::b5::b6::b7::b8::b9::a1::a2::a3::a4::a5::a6::a7::a8::[]).toArray,[]⟩ wr):Code.wp Tryz.prog (blk Tryz.f88 8) (Exit.inBlock 8 Q) ⟨(v0::v1::(Value.pointer (some ⟨P,0,none⟩))::v3::v4::v5::v6::(Value.slice (some ⟨pb,0,none⟩) n pc)::(Value.map (some mb))::v9::z7::z8::z9::y0::y1::y2::y3::(Value.int .i64 x)::(Value.slice (some ⟨G,0,none⟩) n n)::z2::z3::z4::y4::y5::y6::y7::y8::y9::x0::x1::x2::x3::x4::x5::x6::x7::x8::x9::t0::t1::t2::t3::t4::t5::t6::t7::t8::t9::s0::s1::s2::s3::s4::s5::s6::s7::s8::s9::r0::r1::r2::r3::r4::r5::r6::r7::r8::r9::q0::q1::q2::q3::q4::q5::q6::q7::q8::q9::p0::p1::p2::p3::p4::p5::p6::p7::p8::p9::o2::o3::o4::o5::o6::o7::o8::o9::n0::n1::n2::n3::g6::g7::g8::g9::f0::f1::f2::f3::f4::f5::f6::(Value.slice (some ⟨gi,0,none⟩) n n)::(Value.int .i64 n)::(Value.int .i64 0)::n7::n8::n9::m0::m1::m2::m3::m4::m5::m6::m7::m8::m9::l0::l1::l2::l3::l4::l5::l6::l7::l8::l9::k0::k1::k2::k3::k4::k5::k6::k7::k8::k9::j0::j1::j2::j3::j4::j5::j6::j7::j8::j9::i0::i1::i2::i3::i4::i5::i6::i7::i8::i9::g0::g1::g2::g3::f7::f8::f9::e0::e2::e3::e4::e5::e6::e7::e8::e9::d2::d3::d4::d5::d6::d7::d8::d9::c1::c2::c3::c4::c5::c6::c7::c8::c9::b1::b2::b3::b4::b5::b6::b7::b8::b9::a1::a2::a3::a4::a5::a6::a7::a8::[]).toArray,[]⟩ ws:=by
 have E0:(x:Int)<k:=by omega
 conv=>arg 2;whnf
 go_loopg [19,20,21,113] n (fun gh s19 s20 s21 i wp=>∃p:Nat,gh+p=n/\i=.int .i64 p/\Arr wp G 4 (bls (yR L n S x p))/\wA.grownBy wp none)
 case atStart=>exact⟨0,rfl,rfl,z5.out,z6.out⟩
 clear z5 z6;obtain⟨p,B2,rfl,H2,H9⟩:=hrel;obtain⟨h4,HA,C6⟩:=K3 B2 H2 H9;clear B2;have h7:=zA g4.out H9;by_cases hp:p<n
 ·have D4:(p:Int)<n:=by omega
  have B3:=n4.out.grow h7;obtain⟨bi,bk,H5,D5,C0,C3,B1,cx0,cx1,cu⟩:=B3.at hp;obtain⟨u,hu⟩:=Nm (bs.getD bi ⟨#[]⟩);rw[<-hu]at D5 B1 cu;obtain⟨c,hc⟩:=Nm (S.getD p false);have c0:=(n6.out.kept H9 (by simp)).bool p (by rw[A8.out];exact hp);rw[<-hc]at c0;have D6:(bi:Int)<bs.length:=(by omega);rw[<-HL.out]at C0 C3 B1
  have E2:u.size<=22:=by
   have h9:=rY (bs:=L) (i:=bi) (k:=lenP L bi) (by rw[A5.out];exact H5) (Nat.le_refl _);rw[<-A6.out,B1]at h9;omega
  have H1:∀i (hi:i<u.size),97<=u[i].toNat/\u[i].toNat-97<k:=by
   rw[hu,zG H5];have:=(qDZ A7.out).2.2.2.2.2.1 bi H5;exact(uI this).2.1
  obtain⟨B4,D8,B5,HU,HC,D7⟩:=K6 C0 C3 B1 hu hc H1;clear C0 C3 B1 hu hc H2 H9 h7 B3 H1;go_upto_region 31 with fail;have B7:=Ga wr (.cells #[.int .i64 (bi:Int),.int .i64 (bk:Int)] 154) none;have B8:=heap_alloc_new wr (.cells #[.int .i64 (bi:Int),.int .i64 (bk:Int)] 154);obtain⟨v2,B9⟩:=Nm (wr.alloc (.cells #[.int .i64 (bi:Int),.int .i64 (bk:Int)] 154));obtain⟨A,hA⟩:=Nm wr.heap.size;rw[<-B9,<-hA];rw[<-B9]at B7 B8;rw[<-hA]at B8;obtain⟨d0,d1⟩:=uD B8;have E6:G≠A:=(by have:=HA.out.lt;omega);have H4:=zA C6.out B7;have h7:=zA g4.out H4;have cu2:=vL ((n4.out.grow h7).blk) bi H5;rw[<-HU.out]at cu2;have cP2:=n5.out _ h7;have H0:=Kh (HA.out.kept B7 (by simp));have D1:=Kh (n4.out.grow h7);have h3:Hid (∀w',v2.grownBy w' none->wA.grownBy w' none):=Kh (fun w' hg=>zA H4 hg);have C4:=tB L n S x p;have H6:=Kh C4;have ca0:=H0.out.bool p (by rw[C4];exact hp);have fa0:=H0.out.frozen p;obtain⟨o0,C9⟩:=Nm ((yR L n S x p).getD p false);rw[<-C9]at ca0
  have H7:Hid (c=true->yR L n S x (p+1)=(if stP (bi,bk) then (if leP L (bi,bk) x then (yR L n S x p).set (p+1) true else yR L n S x p).set p true else (if leP L (bi,bk) x then (yR L n S x p).set (p+1) true else yR L n S x p))):=Kh (fun hcc=>by
   show kR L S x p (yR L n S x p)=_
   rw[kR,if_pos (by rw[bitP,<-HC.out];exact hcc),D8.out])
  have H8:Hid (c=false->yR L n S x (p+1)=yR L n S x p):=Kh (fun hcc=>by
   show kR L S x p (yR L n S x p)=_
   rw[kR,if_neg (by rw[bitP,<-HC.out,hcc];simp)])
  clear B9 hA B7 B8 H4 h7 C4 C9 c0 cx0 cx1 cu HA C6;cases c with
  | false =>
   have h6:=Kh (H8.out rfl);clear H7 H8;go_wp2;go_roundg (n-(p+1))
   case measure=>have:=h4.out;omega
   exact⟨p+1,by have:=h4.out;omega,by go_num,by rw[h6.out];exact H0.out,h3.out _ (zH _ _)⟩
  | true =>
   have h0:=Kh (H7.out rfl);clear H7 H8;by_cases hlt:bk<u.size
   ·have C1:decide ((bk:Int)<(u.size:Int))=true:=by rw[decide_eq_true_eq];omega
    obtain⟨b0,a0,B0,E1,E3,E5,D0⟩:=gI D7.out hlt
    have D2:Hid (leP L (bi,bk) x=(a0 == x)):=Kh (by
     have e1:L.getD bi []=zI u:=by rw[HL.out,qVZ H5,nthL,<-HU.out]
     rw[leP,B5.out,decide_eq_true hlt,Bool.true_and,e1,D0])
    clear D0;by_cases hax:a0=x
    ·have C2:((a0:Int) == (x:Int))=true:=by simp[hax]
     have h5:Hid (leP L (bi,bk) x=true):=Kh (by rw[D2.out];simp[hax]);have H3:=D1.out.num (bi:=bi) (bk:=bk+1) H5 (by rw[<-HU.out];exact hlt);rw[<-HL.out,<-Nat.add_assoc,<-B4.out]at H3;have B6:p+1<n:=H3.2;have D3:(p:Int)+1<n:=by omega
     have E4:∀qq,(Instr.lookup 152 (.map (some mb)) (.agg #[.int .i64 (bi:Int),.int .i64 ((bk:Int)+1)]) false).run Tryz.prog (v2.drewN qq)=.ok (.int .i64 ((p:Int)+1)) (v2.drewN qq):=fun qq=>by
      have:=((D1.out.grow (zK v2 qq none)).num (bi:=bi) (bk:=bk+1) H5 (by rw[<-HU.out];exact hlt)).1;rw[<-HL.out,<-Nat.add_assoc,<-B4.out]at this;simpa [posV] using this
     have ca1:=H0.out.bool (p+1) (by rw[H6.out];exact B6);have fa1:=H0.out.frozen (p+1);obtain⟨o1,C8⟩:=Nm ((yR L n S x p).getD (p+1) false);rw[<-C8]at ca1;clear H3 C8 hax;by_cases hz:bk=0
     ·have ez:((bk:Int) == 0)=true:=by simp[hz]
      have HZ:=Kh hz;by_cases B0:0<bi
      ·have eb:decide (0<(bi:Int))=true:=by rw[decide_eq_true_eq];omega
       have h2:Hid (stP (bi,bk)=true):=Kh (by simp[stP,HZ.out,B0]);clear hz;have h6:Hid (yR L n S x (p+1)=((yR L n S x p).set (p+1) true).set p true):=Kh (by rw[h0.out,h2.out,h5.out];rfl);clear h0 h2 h5;go_wp2_with fail
       go_quiet (fail)
       go_wp2;go_roundg (n-(p+1))
       case measure=>have:=h4.out;omega
       have h1:=zK v2 nq none;have h8:=H0.out.kept h1 (by simp);refine⟨p+1,by have:=h4.out;omega,by go_num,?_,?_⟩
       ·rw[h6.out];exact(h8.bool_set (p+1) (by rw[H6.out];exact B6) true).bool_set p (by rw[List.length_set,H6.out];exact hp) true
       exact zY (zY (h3.out _ h1) (zD (v2.drewN nq) ⟨G,p+1,none⟩ _) (by show _<=G;have:=a9.out;omega)) (zD ((v2.drewN nq).setCell ⟨G,p+1,none⟩ _) ⟨G,p,none⟩ _) (by show _<=G;have:=a9.out;omega)
      have eb:decide (0<(bi:Int))=false:=by rw[decide_eq_false_iff_not];omega
      have h2:Hid (stP (bi,bk)=false):=Kh (by simp[stP];omega);clear hz;have h6:Hid (yR L n S x (p+1)=(yR L n S x p).set (p+1) true):=Kh (by rw[h0.out,h2.out,h5.out];rfl);clear h0 h2 h5;go_wp2_with fail
      go_quiet (fail)
      go_wp2;go_roundg (n-(p+1))
      case measure=>have:=h4.out;omega
      have h1:=zK v2 nq none;have h8:=H0.out.kept h1 (by simp);refine⟨p+1,by have:=h4.out;omega,by go_num,?_,?_⟩
      ·rw[h6.out];exact h8.bool_set (p+1) (by rw[H6.out];exact B6) true
      exact zY (h3.out _ h1) (zD (v2.drewN nq) ⟨G,p+1,none⟩ _) (by show _<=G;have:=a9.out;omega)
     have ez:((bk:Int) == 0)=false:=by rw[beq_eq_false_iff_ne];omega
     have h2:Hid (stP (bi,bk)=false):=Kh (by simp[stP,hz]);clear hz;have h6:Hid (yR L n S x (p+1)=(yR L n S x p).set (p+1) true):=Kh (by rw[h0.out,h2.out,h5.out];rfl);clear h0 h2 h5;go_wp2_with fail
     go_quiet (fail)
     go_wp2;go_roundg (n-(p+1))
     case measure=>have:=h4.out;omega
     have h1:=zK v2 nq none;have h8:=H0.out.kept h1 (by simp);refine⟨p+1,by have:=h4.out;omega,by go_num,?_,?_⟩
     ·rw[h6.out];exact h8.bool_set (p+1) (by rw[H6.out];exact B6) true
     exact zY (h3.out _ h1) (zD (v2.drewN nq) ⟨G,p+1,none⟩ _) (by show _<=G;have:=a9.out;omega)
    have C2:((a0:Int) == (x:Int))=false:=by rw[beq_eq_false_iff_ne];omega
    have h5:Hid (leP L (bi,bk) x=false):=Kh (by rw[D2.out];simp[hax]);clear hax;by_cases hz:bk=0
    ·have ez:((bk:Int) == 0)=true:=by simp[hz]
     have HZ:=Kh hz;by_cases B0:0<bi
     ·have eb:decide (0<(bi:Int))=true:=by rw[decide_eq_true_eq];omega
      have h2:Hid (stP (bi,bk)=true):=Kh (by simp[stP,HZ.out,B0]);clear hz;have h6:Hid (yR L n S x (p+1)=(yR L n S x p).set p true):=Kh (by rw[h0.out,h2.out,h5.out];rfl);clear h0 h2 h5;go_wp2_with fail
      go_quiet (fail)
      go_wp2;go_roundg (n-(p+1))
      case measure=>have:=h4.out;omega
      have h1:=zK v2 nq none;have h8:=H0.out.kept h1 (by simp);refine⟨p+1,by have:=h4.out;omega,by go_num,?_,?_⟩
      ·rw[h6.out];exact h8.bool_set p (by rw[H6.out];exact hp) true
      exact zY (h3.out _ h1) (zD (v2.drewN nq) ⟨G,p,none⟩ _) (by show _<=G;have:=a9.out;omega)
     have eb:decide (0<(bi:Int))=false:=by rw[decide_eq_false_iff_not];omega
     have h2:Hid (stP (bi,bk)=false):=Kh (by simp[stP];omega);clear hz;have h6:Hid (yR L n S x (p+1)=yR L n S x p):=Kh (by rw[h0.out,h2.out,h5.out];rfl);clear h0 h2 h5;go_wp2_with fail
     go_quiet (fail)
     go_wp2;go_roundg (n-(p+1))
     case measure=>have:=h4.out;omega
     have h1:=zK v2 nq none;have h8:=H0.out.kept h1 (by simp);refine⟨p+1,by have:=h4.out;omega,by go_num,?_,?_⟩
     ·rw[h6.out];exact h8
     exact h3.out _ h1
    have ez:((bk:Int) == 0)=false:=by rw[beq_eq_false_iff_ne];omega
    have h2:Hid (stP (bi,bk)=false):=Kh (by simp[stP,hz]);clear hz;have h6:Hid (yR L n S x (p+1)=yR L n S x p):=Kh (by rw[h0.out,h2.out,h5.out];rfl);clear h0 h2 h5;go_wp2_with fail
    go_quiet (fail)
    go_wp2;go_roundg (n-(p+1))
    case measure=>have:=h4.out;omega
    have h1:=zK v2 nq none;have h8:=H0.out.kept h1 (by simp);refine⟨p+1,by have:=h4.out;omega,by go_num,?_,?_⟩
    ·rw[h6.out];exact h8
    exact h3.out _ h1
   have C1:decide ((bk:Int)<(u.size:Int))=false:=by rw[decide_eq_false_iff_not];omega
   have h5:Hid (leP L (bi,bk) x=false):=Kh (by rw[leP,B5.out,decide_eq_false hlt,Bool.false_and]);by_cases hz:bk=0
   ·have ez:((bk:Int) == 0)=true:=by simp[hz]
    have HZ:=Kh hz;by_cases B0:0<bi
    ·have eb:decide (0<(bi:Int))=true:=by rw[decide_eq_true_eq];omega
     have h2:Hid (stP (bi,bk)=true):=Kh (by simp[stP,HZ.out,B0]);clear hz;have h6:Hid (yR L n S x (p+1)=(yR L n S x p).set p true):=Kh (by rw[h0.out,h2.out,h5.out];rfl);clear h0 h2 h5;go_wp2_with fail
     go_quiet (fail)
     go_wp2;go_roundg (n-(p+1))
     case measure=>have:=h4.out;omega
     have h1:=zK v2 nq none;have h8:=H0.out.kept h1 (by simp);refine⟨p+1,by have:=h4.out;omega,by go_num,?_,?_⟩
     ·rw[h6.out];exact h8.bool_set p (by rw[H6.out];exact hp) true
     exact zY (h3.out _ h1) (zD (v2.drewN nq) ⟨G,p,none⟩ _) (by show _<=G;have:=a9.out;omega)
    have eb:decide (0<(bi:Int))=false:=by rw[decide_eq_false_iff_not];omega
    have h2:Hid (stP (bi,bk)=false):=Kh (by simp[stP];omega);clear hz;have h6:Hid (yR L n S x (p+1)=yR L n S x p):=Kh (by rw[h0.out,h2.out,h5.out];rfl);clear h0 h2 h5;go_wp2_with fail
    go_quiet (fail)
    go_wp2;go_roundg (n-(p+1))
    case measure=>have:=h4.out;omega
    have h1:=zK v2 nq none;have h8:=H0.out.kept h1 (by simp);refine⟨p+1,by have:=h4.out;omega,by go_num,?_,?_⟩
    ·rw[h6.out];exact h8
    exact h3.out _ h1
   have ez:((bk:Int) == 0)=false:=by rw[beq_eq_false_iff_ne];omega
   have h2:Hid (stP (bi,bk)=false):=Kh (by simp[stP,hz]);clear hz;have h6:Hid (yR L n S x (p+1)=yR L n S x p):=Kh (by rw[h0.out,h2.out,h5.out];rfl);clear h0 h2 h5;go_wp2_with fail
   go_quiet (fail)
   go_wp2;go_roundg (n-(p+1))
   case measure=>have:=h4.out;omega
   have h1:=zK v2 nq none;have h8:=H0.out.kept h1 (by simp);refine⟨p+1,by have:=h4.out;omega,by go_num,?_,?_⟩
   ·rw[h6.out];exact h8
   exact h3.out _ h1
 have D4:¬(p:Int)<n:=by omega
 have C7:p=n:=by have:=h4.out;omega
 have D9:Hid (Arr wr G 4 (bls (yR L n S x n))):=Kh (by have h9:=H2;rw[C7]at h9;exact h9);have C5:=Kh H9;clear H2 H9 h7 C7 HA C6;go_wp2;exact g5 _ _ _ _ _ _ _ _ _ _ _ _ _ _ _ _ _ _ _ _ _ _ _ _ _ _ _ _ _ _ _ _ _ _ _ _ _ _ _ _ _ _ _ _ _ _ _ _ _ _ _ _ _ _ _ _ _ _ _ _ _ _ D9.out C5.out
theorem xBH {K K1 K2 K3:Act->World->Prop}{n0:Ending->World->Prop}{v0 v1 v3 v4 v5 v6 v7 v9 x4 x5 x6 x7 x8 x9 t0 t1 t2 t3 t4 t5 t6 t7 t8 t9 s0 s1 s2 s3 s4 s5 s6 s7 s8 s9 r0 r1 r2 r3 r4 r5 r6 r7 r8 r9 q0 q1 q2 q3 q4 q5 q6 q7 q8 q9 p0 p1 p2 p3 p4 p5 p6 p7 p8 p9 o0 o1 o2 o3 o4 o5 o6 o7 o8 z1 z2 z3 z4 z5 z6 z7 z8 z9 y0 y1 y2 y3 y4 y5 y6 y7 y8 y9 x0 x1 n3 n4 n5 n6 n7 n8 n9 m0 m1 m2 m3 m4 m5 m6 m7 m8 m9 l0 l1 l2 l3 l4 l5 l6 l7 l8 l9 k0 k1 k2 k3 k4 k5 k6 k7 k8 k9 j0 j1 j2 j3 j4 j5 j6 j7 j8 j9 i0 i1 i2 i3 i4 i5 i6 i7 i8 i9 g0 f0 f1 f2 f3 f4 f5 f6 f7 f8 f9 e0 e1 e2 e3 e4 e5 e6 e7 e8 e9 d0 d1 d3 d4 d5 d6 d7 d8 d9 c0 c1 c2 c3 c4 c5 c6 c7 c8 c9 b0 b1 b2 b3 b4 b5 b6 b7 b8 b9 a0 a1 a2 a3 a4 a5 a6 a7 a8 a9:Value}{wo:World}{bs:List ByteArray}{ul:ByteArray}{fs:List Bool}{D:World->Option Addr->Nat->Prop}{kb off cap P mb n gi o9 m sc oD q R1 F cf:Nat}{sf:Option Addr}{bf:Bool}(x2:Hid (∀W1:World,wo.grownBy W1 none->W1.ownsRow oD 4 1 (.slice sf q cf) q (bls fs)/\oD<=W1.heap.size))(n1:Hid (∀(W1 w':World) (sf':Option Addr) (cf':Nat),w'.ownsRow oD 4 1 (.slice sf' (q+1) cf') (q+1) (bls fs++[.bool bf])->W1.grownBy w' (Value.slice sf q cf).ownBlock->pG W1 w' (.slice sf q cf) (.slice sf' (q+1) cf')->wo.grownBy W1 none->D (w'.setCell ⟨oD,2,none⟩ (.slice sf' (q+1) cf')) sf' cf'/\w'.frozen? ⟨oD,2,none⟩=false/\w'.cell? ⟨oD,2,none⟩=some (.slice sf q cf)))(A2:∀qq,(Instr.lookup 152 (.map (some mb)) (.agg #[.int .i64 (R1:Int),.int .i64 (ul.size:Int)]) false).run Tryz.prog (wo.drewN qq)=.ok (.int .i64 (F:Int)) (wo.drewN qq))(A9:(Instr.lookup 152 (.map (some mb)) (.agg #[.int .i64 (R1:Int),.int .i64 (ul.size:Int)]) false).run Tryz.prog wo.drew=.ok (.int .i64 (F:Int)) wo.drew)(A8:(Instr.lookup 152 (.map (some mb)) (.agg #[.int .i64 (R1:Int),.int .i64 (ul.size:Int)]) false).run Tryz.prog wo=.ok (.int .i64 (F:Int)) wo)(d2:wo.cell? ⟨oD,2,none⟩=some (.slice sf q cf))(B8:wo.frozen? ⟨oD,2,none⟩=false)(pP:wo.cell? ⟨P,0,none⟩=some (.slice (some ⟨kb,off,none⟩) bs.length cap))(cF:wo.cell? ⟨gi,F,none⟩=some (.bool bf))(A5:wo.cell? ⟨kb,off+R1,none⟩=some (.string ul))(A4:wo.cell? ⟨o9,q,none⟩=some (.slice (some ⟨gi,0,none⟩) n n))(z0:bs.length<=9223372036854775807)(A1:cap<=9223372036854775807)(A0:bs.length<=cap)(hm:n<=22)(A6:R1<bs.length)(hq:q<m)(A3:m<=sc)(x3:sc<=9223372036854775807)(B9:F<n)(A7:m<=4194304)(n2:∀(z79 z80 z81 z82 z83 z84 z85 z86 z87 z88 z89 z90 z91 z92 z93 z94 z95 z96 z97 z98 z99:Value) (w':World) (sf':Option Addr) (cf':Nat),D w' sf' cf'->K ⟨(v0::v1::(Value.pointer (some ⟨P,0,none⟩))::v3::v4::v5::v6::v7::(Value.map (some mb))::v9::x4::x5::(Value.int .i64 R1)::(Value.slice (some ⟨o9,0,none⟩) m sc)::(Value.pointer (some ⟨oD,0,none⟩))::(Value.int .i64 q)::x6::x7::x8::x9::t0::t1::t2::t3::t4::t5::t6::t7::t8::t9::s0::s1::s2::s3::s4::s5::s6::s7::s8::s9::r0::r1::r2::r3::r4::r5::r6::r7::r8::r9::q0::q1::q2::q3::q4::q5::q6::q7::q8::q9::p0::p1::p2::p3::p4::p5::p6::p7::p8::p9::o0::o1::o2::o3::o4::o5::o6::o7::o8::z79::z80::z81::z82::z83::z84::z85::z86::z87::z88::z89::z90::z91::z92::z93::z94::z95::z96::z97::z98::z99::n3::n4::n5::n6::n7::n8::n9::m0::m1::m2::m3::m4::m5::m6::m7::m8::m9::l0::l1::l2::l3::l4::l5::l6::l7::l8::l9::k0::k1::k2::k3::k4::k5::k6::k7::k8::k9::j0::j1::j2::j3::j4::j5::j6::j7::j8::j9::i0::i1::i2::i3::i4::i5::i6::i7::i8::i9::g0::f0::f1::f2::f3::f4::f5::f6::f7::f8::f9::e0::e1::e2::e3::e4::e5::e6::e7::e8::e9::d0::d1::d3::d4::d5::d6::d7::d8::d9::c0::c1::c2::c3::c4::c5::c6::c7::c8::c9::b0::b1::b2::b3::b4::b5::b6::b7::b8::b9::a0::a1::a2::a3::a4::a5::a6::a7::a8::a9::[]).toArray,[]⟩ w'):Code.wp Tryz.prog (reg Tryz.f88 21) (Exit.then K (Exit.inBlock 5 (Exit.then K1 (Exit.then K2 (Exit.inBlock 4 (Exit.then K3 (bodyPost Tryz.prog Tryz.f88 n0))))))) ⟨(v0::v1::(Value.pointer (some ⟨P,0,none⟩))::v3::v4::v5::v6::v7::(Value.map (some mb))::v9::x4::x5::(Value.int .i64 R1)::(Value.slice (some ⟨o9,0,none⟩) m sc)::(Value.pointer (some ⟨oD,0,none⟩))::(Value.int .i64 q)::x6::x7::x8::x9::t0::t1::t2::t3::t4::t5::t6::t7::t8::t9::s0::s1::s2::s3::s4::s5::s6::s7::s8::s9::r0::r1::r2::r3::r4::r5::r6::r7::r8::r9::q0::q1::q2::q3::q4::q5::q6::q7::q8::q9::p0::p1::p2::p3::p4::p5::p6::p7::p8::p9::o0::o1::o2::o3::o4::o5::o6::o7::o8::z1::z2::z3::z4::z5::z6::z7::z8::z9::y0::y1::y2::y3::y4::y5::y6::y7::y8::y9::x0::x1::n3::n4::n5::n6::n7::n8::n9::m0::m1::m2::m3::m4::m5::m6::m7::m8::m9::l0::l1::l2::l3::l4::l5::l6::l7::l8::l9::k0::k1::k2::k3::k4::k5::k6::k7::k8::k9::j0::j1::j2::j3::j4::j5::j6::j7::j8::j9::i0::i1::i2::i3::i4::i5::i6::i7::i8::i9::g0::f0::f1::f2::f3::f4::f5::f6::f7::f8::f9::e0::e1::e2::e3::e4::e5::e6::e7::e8::e9::d0::d1::d3::d4::d5::d6::d7::d8::d9::c0::c1::c2::c3::c4::c5::c6::c7::c8::c9::b0::b1::b2::b3::b4::b5::b6::b7::b8::b9::a0::a1::a2::a3::a4::a5::a6::a7::a8::a9::[]).toArray,[]⟩ wo:=by
 have H1:(R1:Int)<bs.length:=by omega
 have H3:(q:Int)<m:=by omega
 have h8:=World.block_lt_of_cell? _ _ d2;have h7:=World.block_lt_of_cell? _ _ pP;have h6:=World.block_lt_of_cell? _ _ cF;have h5:=World.block_lt_of_cell? _ _ A5;have h4:=World.block_lt_of_cell? _ _ A4;simp only at h8 h7 h6 h5 h4
 conv=>arg 2;whnf
 go_region_law (first|(refine qO ?g1 (.tmp 80) (.tmp 97) 27 ?g2 xL.toN oD (.slice sf q cf) q (bls fs) ?g3 ?g4 [.bool bf] wo.heap.size ?g5 (0,0) ?g6 ?g7 ?g7b ?g8 ?g9 ?g10 ?_;(case g1=>rfl);(case g2=>rfl);(case g3=>rfl);(case g4=>(refine(x2.out _ ?_).1;exact vI (o:=.cells #[.bool bf] 4) rfl rfl rfl rfl));(case g5=>rfl);(case g6=>rfl);(case g7=>exact heap_alloc_new (wo.drew) _);(case g7b=>(intro u hu;simp at hu;subst hu;rfl));(case g8=>(unfold maxLen;omega));(case g9=>omega);(case g10=>(refine(x2.out _ ?_).2;exact vI (o:=.cells #[.bool bf] 4) rfl rfl rfl rfl));intro sf8 cf8 w8 h0 h3 h1;have h2:=n1.out _ _ _ _ h0 h3 h1 (vI (o:=.cells #[.bool bf] 4) rfl rfl rfl rfl);have h9:=h2.2.1;have H0:=h2.2.2;have H2:=Kh h2;clear h2 h0 h3 h1)|fail)
 all_goals
  go_wp2_with fail;exact n2 _ _ _ _ _ _ _ _ _ _ _ _ _ _ _ _ _ _ _ _ _  _ sf8 cf8 H2.out.1
end Go.Proofs.YtcoimliafiammaaGreat
