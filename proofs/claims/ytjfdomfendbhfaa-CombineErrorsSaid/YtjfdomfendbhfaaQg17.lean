/- Part 17 of the proof. -/
import Derived.Test.YtjfdomfendbhfaaQg16
set_option linter.unusedVariables false
set_option linter.unusedSimpArgs false
set_option maxRecDepth 100000
set_option maxHeartbeats 16000000
namespace Go.Proofs.Ytjfdomfendbhfaa
def lets (w:List Nat):List Int:=w.map fun(a:Nat)=>97+(a:Int)
open Go.RowKit
def ofE (d:DfaV)(ps:List (List ByteArray)):Int:=if xD d=0 then (if 300<ps.length then 3 else vP d.letters ps) else xD d
def ofT (d:DfaV)(ps:List (List ByteArray)):List DfaV:=autD ps d.letters++[minD d d.letters.toNat]
theorem yY (ps:List (List ByteArray))(k:Int):(autD ps k).length=ps.length:=by simp[autD]
theorem uB (d:DfaV)(ps:List (List ByteArray)):(ofT d ps).length=ps.length+1:=by rw[ofT,List.length_append,yY];rfl
theorem oE {d:DfaV}{ps:List (List ByteArray)}(h:ofE d ps=0):xD d=0/\ps.length<=300/\vP d.letters ps=0:=by
 unfold ofE at h
 split at h
 ·rename_i h1
  split at h
  ·omega
  ·exact⟨h1,by omega,h⟩
 ·omega
theorem qFX {d:DfaV}{ps:List (List ByteArray)}(h:xD d≠0):ofE d ps=xD d:=if_neg h
theorem ofE_many {d:DfaV}{ps:List (List ByteArray)}(h:xD d=0)(h3:300<ps.length):ofE d ps=3:=by rw[ofE,if_pos h,if_pos h3]
theorem ofE_pats {d:DfaV}{ps:List (List ByteArray)}(h:xD d=0)(h3:¬ 300<ps.length):ofE d ps=vP d.letters ps:=by rw[ofE,if_pos h,if_neg h3]
theorem qFI {d:DfaV}(h:xD d=0):d.final.length<=512:=by
 unfold xD at h
 split at h
 ·omega
 split at h
 ·omega
 omega
theorem qCO {d:DfaV}{ps:List (List ByteArray)}{i:Nat}(hi:i<ps.length):(ofT d ps).getD i dN=xF (ps.getD i []) d.letters:=by
 rw[ofT,oJ (List.prefix_append _ _) (by rw[yY];exact hi),zG (by rw[yY];exact hi),zG hi];simp[autD]
theorem aC (d:DfaV)(ps:List (List ByteArray)):(ofT d ps).getD ps.length dN=minD d d.letters.toNat:=by
 rw[ofT,List.getD_eq_getElem?_getD,List.getElem?_append_right (by rw[yY];exact Nat.le_refl _),yY,Nat.sub_self];rfl
theorem autD_ok {ps:List (List ByteArray)}{k:Nat}(h:vP (k:Int) ps=0):OkT (autD ps (k:Int)) k:=fun i hi=>by
 rw[yY]at hi
 have e:(autD ps (k:Int)).getD i dN=xF (ps.getD i []) (k:Int):=by
  rw[zG (by rw[yY];exact hi),zG hi];simp[autD]
 have hp:patW (ps.getD i []) (k:Int)=0:=by rw[zG hi];exact uM.1 h _ (List.getElem_mem hi)
 obtain⟨n,hn,hv⟩:=qAT (vW.1 hp);exact⟨n,by rw[e];exact hv,by omega⟩
theorem OkT.snoc {ds:List DfaV}{k n:Nat}{d:DfaV}(h:OkT ds k)(hd:VD d n k)(hn:n<=512):OkT (ds++[d]) k:=fun i hi=>by
 rw[List.length_append,List.length_singleton]at hi
 rcases Nat.lt_succ_iff_lt_or_eq.1 hi with hi|rfl
 ·obtain⟨m,h1,h2⟩:=h i hi
  exact⟨m,by rw[oJ (List.prefix_append _ _) hi];exact h1,h2⟩
 ·refine⟨n,?_,hn⟩
  rw[List.getD_eq_getElem?_getD,List.getElem?_append_right (Nat.le_refl _),Nat.sub_self];exact hd
theorem qDW {d:DfaV}{ps:List (List ByteArray)}(h:ofE d ps=0):OkT (ofT d ps) d.letters.toNat:=by
 obtain⟨h1,h2,h3⟩:=oE h;have hv:=dC h1;have h5:=qFI h1;have hk:=hv.hk;have e:((d.letters.toNat:Nat):Int)=d.letters:=hk.symm;have ha:=autD_ok (ps:=ps) (k:=d.letters.toNat) (by rw[e];exact h3);rw[e]at ha;exact ha.snoc (iJ hv) (by have:=qGD hv;omega)
theorem qCT {np:Nat}{cs:List ChoV}{m m':Nat->Bool}(hc:vD np cs cs.length)(h:∀ i,i<np->m i=m' i):∀ (f:Nat) (r:Int),r<=1+(cs.length:Int)->decF cs m f r=decF cs m' f r
 | 0,r,_=>rfl
 | f+1,r,hr=>by
  rw[decF,decF]
  split
  ·rfl
  ·rename_i h2
   have hi:r.toNat - 2<cs.length:=by omega
   have hf:=nZ (hc _ hi)
   rw[h _ (show (cs.getD (r.toNat - 2) default).p.toNat<np by omega)]
   split
   ·exact qCT hc h f _ (by omega)
   ·exact qCT hc h f _ (by omega)
theorem qCS {np:Nat}{cs:List ChoV}{m m':Nat->Bool}(hc:vD np cs cs.length)(h:∀ i,i<np->m i=m' i){r:Int}(hr:r<=1+(cs.length:Int)):decG cs m r=decG cs m' r:=qCT hc h _ r hr
theorem aE {ds:List DfaV}{np:Nat}(hn:np<=ds.length)(u:List Nat){i:Nat}(hi:i<np):(mtsT ds np (sI (nxtT ds) (st0T ds) u)).getD i false=acc (ds.getD i dN) (st0 (ds.getD i dN)) u:=by
 rw[hJ hi,vY (by omega)]
abbrev MT (ds:List DfaV)(np:Nat)(L:List (List Nat)):Nat->List Bool:=fun s=>mtsT ds np (L.getD s [])
abbrev AT (ds:List DfaV)(np:Nat)(L:List (List Nat)):Nat->Bool:=fun s=>accT ds (L.getD s []) np
theorem dia_dec {ds:List DfaV}{np k:Nat}{L:List (List Nat)}{l:List ClaV}{cs:List ChoV}{r:Int}(hn:np<ds.length)(hL:BfsD (nxtT ds) k (st0T ds) L)(hc:ClsI (MT ds np L) (AT ds np L) L.length L.length l)(hb:∀ c∈l,lV c=false)(hch:vD np cs cs.length)(hr:r<=1+(cs.length:Int))(hd:∀ c∈l,decG cs (fun i=>c.m.getD i false) r=c.b):
  ∀ u,yJ k u->decG cs (fun i=>acc (ds.getD i dN) (st0 (ds.getD i dN)) u) r=acc (ds.getD np dN) (st0 (ds.getD np dN)) u:=fun u hu=>by
 obtain⟨i,hi,e⟩:=List.getElem_of_mem (hL.all u hL.mem0 hu)
 obtain⟨c,hcl,h1,h2⟩:=hc.dec hb hi
 have e2:L.getD i []=sI (nxtT ds) (st0T ds) u:=by rw[zG hi,e]
 rw[<- vY hn,<- e2]
 show _=AT ds np L i
 rw[<- h2,<- hd c hcl]
 refine qCS hch (fun j hj=>?_) hr
 show acc _ _ _=c.m.getD j false
 rw[h1]
 show _=(mtsT ds np (L.getD i [])).getD j false
 rw[e2,aE (by omega) u hj]
theorem cls_conf {ds:List DfaV}{np k:Nat}{L:List (List Nat)}{l:List ClaV}(hn:np<ds.length)(hL:BfsD (nxtT ds) k (st0T ds) L)(hc:ClsI (MT ds np L) (AT ds np L) L.length L.length l){c:ClaV}(hcl:c∈l)(hb:lV c=true):Conf ds np k:=by
 obtain⟨y,n,_,_,hy,h0,h1,h2,h3⟩:=hc.both hcl hb;exact(mP hn hL).2 ⟨_,_,by rw[zG hy];exact List.getElem_mem hy,by rw[zG h0];exact List.getElem_mem h0,h1,h2,h3⟩
theorem cls_noconf {ds:List DfaV}{np k:Nat}{L:List (List Nat)}{l:List ClaV}(hn:np<ds.length)(hL:BfsD (nxtT ds) k (st0T ds) L)(hc:ClsI (MT ds np L) (AT ds np L) L.length L.length l)(hb:∀ c∈l,lV c=false):¬ Conf ds np k:=fun h=>by
 obtain⟨x,y,hx,hy,h1,h2,h3⟩:=(mP hn hL).1 h
 obtain⟨i,hi,rfl⟩:=List.getElem_of_mem hx
 obtain⟨j,hj,rfl⟩:=List.getElem_of_mem hy
 rw[<- zG (d:=[]) hi]at h1 h2
 rw[<- zG (d:=[]) hj]at h1 h3
 exact hc.clash hb hi hj h1 h2 h3
inductive OfOut (w':World)(d:DfaV)(ps:List (List ByteArray)):Value->ByteArray->ByteArray->Int->Prop
 | bad (h:ofE d ps≠0):OfOut w' d ps (.agg #[.slice none 0 0,.slice none 0 0,.int .i64 0]) ⟨#[]⟩ ⟨#[]⟩ (ofE d ps)
 | over (h:ofE d ps=0) (ho:Over (ofT d ps) d.letters.toNat):OfOut w' d ps (.agg #[.slice none 0 0,.slice none 0 0,.int .i64 0]) ⟨#[]⟩ ⟨#[]⟩ 3
 | conf (h:ofE d ps=0) (hu:qHF (ofT d ps) d.letters.toNat) (hc:Conf (ofT d ps) ps.length d.letters.toNat) (u v:List Nat) (h1:yJ d.letters.toNat u) (h2:yJ d.letters.toNat v) (h3:u.length<=4000) (h4:v.length<=4000)
   (h5:∀ i,i<ps.length->acc (xF (ps.getD i []) d.letters) (st0 (xF (ps.getD i []) d.letters)) u=acc (xF (ps.getD i []) d.letters) (st0 (xF (ps.getD i []) d.letters)) v) (h6:acc d (st0 d) u=true) (h7:acc d (st0 d) v=false) :
   OfOut w' d ps (.agg #[.slice none 0 0,.slice none 0 0,.int .i64 0]) (strOfNums (lets u)) (strOfNums (lets v)) 20
 | ok (v:Value) (g:DiaV) (l:List ClaV) (L:List (List Nat)) (h:ofE d ps=0) (hL:BfsD (nxtT (ofT d ps)) d.letters.toNat (st0T (ofT d ps)) L) (hl4:L.length<=4000) (hn:¬ Conf (ofT d ps) ps.length d.letters.toNat) (hg:dG w'.heap.size w' v g) (h1:g.pats=ps) (h2:vD ps.length g.chos g.chos.length) (h3:0<=g.root) (h4:g.root<=1+(g.chos.length:Int))
   (h5:∀ u,yJ d.letters.toNat u->decG g.chos (fun i=>acc (xF (ps.getD i []) d.letters) (st0 (xF (ps.getD i []) d.letters)) u) g.root=acc d (st0 d) u) (hc:ClsI (MT (ofT d ps) ps.length L) (AT (ofT d ps) ps.length L) L.length L.length l) (h6:g.chos.length+1<=l.length) :
   OfOut w' d ps v ⟨#[]⟩ ⟨#[]⟩ 0
theorem st0_min (d:DfaV)(k:Nat):st0 (minD d k)=0:=rfl
theorem aF {d:DfaV}{n k:Nat}(hd:VD d n k){u:List Nat}(hu:yJ k u):acc (minD d k) (st0 (minD d k)) u=acc d (st0 d) u:=by rw[st0_min];exact qGC hd hu
theorem of_conf {d:DfaV}{ps:List (List ByteArray)}{L:List (List Nat)}{y n:Nat}{u v:List Nat}(h:ofE d ps=0)(hL:BfsD (nxtT (ofT d ps)) d.letters.toNat (st0T (ofT d ps)) L)(hu:yJ d.letters.toNat u)(hv:yJ d.letters.toNat v)(h1:sI (nxtT (ofT d ps)) (L.getD 0 []) u=L.getD y [])(h2:sI (nxtT (ofT d ps)) (L.getD 0 []) v=L.getD n [])(hm:MT (ofT d ps) ps.length L y=MT (ofT d ps) ps.length L n)(ha:AT (ofT d ps) ps.length L y=true)(hb:AT (ofT d ps) ps.length L n=false):(∀ i,i<ps.length->acc (xF (ps.getD i []) d.letters) (st0 (xF (ps.getD i []) d.letters)) u=acc (xF (ps.getD i []) d.letters) (st0 (xF (ps.getD i []) d.letters)) v)/\acc d (st0 d) u=true/\acc d (st0 d) v=false:=by
 have e0:L.getD 0 []=st0T (ofT d ps):=by rw[List.getD_eq_getElem?_getD,hL.hd];rfl
 rw[e0]at h1 h2;have hn:ps.length<(ofT d ps).length:=by rw[uB];omega
 have h0:=dC (oE h).1;refine⟨fun i hi=>?_,?_,?_⟩
 ·have e1:=aE (ds:=ofT d ps) (np:=ps.length) (by omega) u hi
  have e2:=aE (ds:=ofT d ps) (np:=ps.length) (by omega) v hi;rw[qCO hi,h1]at e1;rw[qCO hi,h2]at e2;rw[<- e1,<- e2];exact congrArg (fun l=>l.getD i false) hm
 ·have e1:=vY hn u
  rw[h1,aC,aF h0 hu]at e1;rw[<- e1];exact ha
 ·have e1:=vY hn v
  rw[h2,aC,aF h0 hv]at e1;rw[<- e1];exact hb
theorem of_dec {d:DfaV}{ps:List (List ByteArray)}{L:List (List Nat)}{l:List ClaV}{cs:List ChoV}{r:Int}(h:ofE d ps=0)(hL:BfsD (nxtT (ofT d ps)) d.letters.toNat (st0T (ofT d ps)) L)(hc:ClsI (MT (ofT d ps) ps.length L) (AT (ofT d ps) ps.length L) L.length L.length l)(hb:∀ c∈l,lV c=false)(hch:vD ps.length cs cs.length)(hr:r<=1+(cs.length:Int))(hd:∀ c∈l,decG cs (fun i=>c.m.getD i false) r=c.b):
  ∀ u,yJ d.letters.toNat u->decG cs (fun i=>acc (xF (ps.getD i []) d.letters) (st0 (xF (ps.getD i []) d.letters)) u) r=acc d (st0 d) u:=fun u hu=>by
 have hn:ps.length<(ofT d ps).length:=by rw[uB];omega
 have h1:=dia_dec hn hL hc hb hch hr hd u hu
 rw[aC,aF (dC (oE h).1) hu]at h1
 rw[<- h1]
 exact qCS hch (fun i hi=>by rw[qCO hi]) hr
theorem of_short {d:DfaV}{ps:List (List ByteArray)}(h:ofE d ps=0):∀ p∈ps,p.length<=100000:=fun p hp=>by
 have h1:=uM.1 (oE h).2.2 p hp
 have:=wT (vW.1 h1)
 omega
open Go.Maps
theorem kN {w:World}{m e e':Nat}{cs:Array Value}{q:Nat×Nat}(h:w.heap[m]?=some (.cells cs e q))(hne:e≠e'):∀ j,some m=some j->yH w e' j:=fun j ej=>by
 have ej:m=j:=Oj ej
 subst ej
 exact⟨_,_,_,h,hne⟩
theorem eX.growG {B:Nat}{w w':World}{v pv:Value}{L T:List (List Nat)}(h:eX B w v pv L T)(hg:w.grownBy w' none):eX B w' v pv L T:=by
 obtain⟨sS,sN,cS,cN,hs,hn,rfl,h1,h2,h3,h4⟩:=h;exact⟨sS,sN,cS,cN,hs,hn,rfl,zP h1 hg,zP h2 hg,(h3.kept hg (by simp)).mono hg.size,(h4.kept hg (by simp)).mono hg.size⟩
theorem eX.keptO {B m e:Nat}{w w':World}{v pv:Value}{L T:List (List Nat)}{cs:Array Value}{q:Nat×Nat}(h:eX B w v pv L T)(hb:w.heap[m]?=some (.cells cs e q))(h1:34≠e)(h2:e≠3)(hg:w.grownBy w' (some m)):eX B w' v pv L T:=by
 obtain⟨sS,sN,cS,cN,hs,hn,rfl,a1,a2,a3,a4⟩:=h;exact⟨sS,sN,cS,cN,hs,hn,rfl,a1.kept hg (.inr (zQ a1 hb h1)),a2.kept hg (.inr (zQ a2 hb h1)),(a3.kept hg (fun j e=>.inr (kN hb h2 j e))).mono hg.size,(a4.kept hg (fun j e=>.inr (kN hb h2 j e))).mono hg.size⟩
theorem DsUp.keptO {base m e:Nat}{w w':World}{v:Value}{l:List (DfaV×Value×Value)}{cs:Array Value}{q:Nat×Nat}(h:DsUp base w v l)(hb:w.heap[m]?=some (.cells cs e q))(h0:42≠e)(h1:e≠4)(h2:e≠34)(h3:e≠3)(hg:w.grownBy w' (some m)):DsUp base w' v l :=
 ⟨h.own.kept hg (.inr (zQ h.own hb h0)),fun x hx=>(h.ok x hx).kept hg (fun j e=>⟨kN hb h1 j e,kN hb h2 j e,kN hb h3 j e⟩)⟩
theorem gr_reg4 {Q':Exit->Act->World->Prop}{v0 v1 v3 v4 v5 v6 v7 v9 v10 v11 v12 v13 v14 v15 v16 v17 v18 v19 v20 v21 v22 v23 v24 v25 v26 v27 v28 v29 v30 v31 v32 v33 v34 v35 v36 v37 v38 v39 v40 v41 v42 v43 v44 v45 v46 v47 v48 v49 v50 v51 v52 v53 v54 v55 v56 v57 v58 v59 v60 v61 v62 v63 v64 v65 v66 v67 v68 v69 v70 v71 v72 v73 v74 v75 v76 v77 v78 v79 v80 v81 v82 v83 v84 v85 v86 v87 v88 v89 v90 v91 v92 v93 v94 v95 v96 v97 v98 v99 v100 v101 v102 v103 v104 v105 v106 v107 v108 v109 v110 v111 v112 v113 v114 v115 v116 v117 v118 v119 v120 v121 v122 v123 v124:Value}{dd:_}{w0 w:World}{Q base Bd n2 sc k fl fc nl nc:Nat}{sa fa na:Option Addr}{ds:Int}{d:DfaV}{ps:List (List ByteArray)}{lp:List (DfaV×Value×Value)}(hbq:w.heap[Q]?=some (.cells #[.int .i64 (k:Int),.int .i64 ds,.slice fa fl fc,.slice na nl nc] 42 (0,0)))(hgw:w0.grownBy w none)(hbase:base<=w.heap.size)(hb0:w0.heap.size<=base)(hQb:Q<base)(hup:DsUp base w (.slice sa n2 sc) lp)(hlp:lp.map (·.1)=autD ps (k:Int))(hll:lp.length=n2)(hn:n2=ps.length)(hn3:n2<=300)(hmin:∀ W:World,w0.grownBy W none->Calls Try.prog 54 #[.agg #[.int .i64 (k:Int),.int .i64 ds,.slice fa fl fc,.slice na nl nc]] W (qGX W (minD d k)))(hokt:OkT (autD ps (k:Int)++[minD d k]) k)(hk1:1<=k)(hk6:k<=6)(hover:Over (autD ps (k:Int)++[minD d k]) k->∀ (z30 z31 z32 z33 z34 z35 z36 z37 z38 z39 z40:Value) (R:Nat) (w':World),w0.grownBy w' none->Q' .normal ⟨(v0::v1::(Value.pointer (some ⟨Q,0,none⟩))::v3::v4::v5::v6::(Value.int .i64 3)::(Value.slice sa n2 sc)::(Value.pointer (some ⟨R,0,none⟩))::v10::v11::v12::v13::v14::v15::v16::v17::v18::v19::v20::v21::v22::v23::v24::v25::v26::v27::v28::v29::z30::z31::z32::z33::z34::z35::z36::z37::z38::z39::z40::v41::v42::v43::v44::v45::v46::v47::v48::v49::v50::v51::v52::v53::v54::v55::v56::v57::v58::v59::v60::v61::v62::v63::v64::v65::v66::v67::v68::v69::v70::v71::v72::v73::v74::v75::v76::v77::v78::v79::v80::v81::v82::v83::v84::v85::v86::v87::v88::v89::v90::v91::v92::v93::v94::v95::v96::v97::v98::v99::v100::v101::v102::v103::v104::v105::v106::v107::v108::v109::v110::v111::v112::v113::v114::v115::v116::v117::v118::v119::v120::v121::v122::v123::v124::[]).toArray,dd⟩ w')(hok:∀ (z30 z31 z32 z33 z34 z35 z36 z37 z38 z39 z40:Value) (R:Nat) (w':World) (B8:Nat) (sN sS sT:Option Addr) (cN cS cT LL TL:Nat) (L T:List (List Nat)) (l:List (DfaV×Value×Value)),LL=L.length->TL=T.length->l.map (·.1)=autD ps (k:Int)++[minD d k]->w'.heap[R]?=some (.cells #[.slice sN (n2+1) cN,.slice sS LL cS,.slice sT TL cT] 88 (0,0))->eX B8 w' (.agg #[.slice sN (n2+1) cN,.slice sS LL cS,.slice sT TL cT]) (.slice sN (n2+1) cN) L T->DsUp base w' (.slice sN (n2+1) cN) l->BfsD (nxtT (autD ps (k:Int)++[minD d k])) k (st0T (autD ps (k:Int)++[minD d k])) L->L.length<=4000->TOk (autD ps (k:Int)++[minD d k]) k L T L.length->w0.grownBy w' none->Q' .normal ⟨(v0::v1::(Value.pointer (some ⟨Q,0,none⟩))::v3::v4::v5::v6::(Value.int .i64 0)::(Value.slice sa n2 sc)::(Value.pointer (some ⟨R,0,none⟩))::v10::v11::v12::v13::v14::v15::v16::v17::v18::v19::v20::v21::v22::v23::v24::v25::v26::v27::v28::v29::z30::z31::z32::z33::z34::z35::z36::z37::z38::z39::z40::v41::v42::v43::v44::v45::v46::v47::v48::v49::v50::v51::v52::v53::v54::v55::v56::v57::v58::v59::v60::v61::v62::v63::v64::v65::v66::v67::v68::v69::v70::v71::v72::v73::v74::v75::v76::v77::v78::v79::v80::v81::v82::v83::v84::v85::v86::v87::v88::v89::v90::v91::v92::v93::v94::v95::v96::v97::v98::v99::v100::v101::v102::v103::v104::v105::v106::v107::v108::v109::v110::v111::v112::v113::v114::v115::v116::v117::v118::v119::v120::v121::v122::v123::v124::[]).toArray,dd⟩ w'):Code.wp Try.prog (reg Try.f62 4) Q' ⟨(v0::v1::(Value.pointer (some ⟨Q,0,none⟩))::v3::v4::v5::v6::v7::(Value.slice sa n2 sc)::v9::v10::v11::v12::v13::v14::v15::v16::v17::v18::v19::v20::v21::v22::v23::v24::v25::v26::v27::v28::v29::v30::v31::v32::v33::v34::v35::v36::v37::v38::v39::v40::v41::v42::v43::v44::v45::v46::v47::v48::v49::v50::v51::v52::v53::v54::v55::v56::v57::v58::v59::v60::v61::v62::v63::v64::v65::v66::v67::v68::v69::v70::v71::v72::v73::v74::v75::v76::v77::v78::v79::v80::v81::v82::v83::v84::v85::v86::v87::v88::v89::v90::v91::v92::v93::v94::v95::v96::v97::v98::v99::v100::v101::v102::v103::v104::v105::v106::v107::v108::v109::v110::v111::v112::v113::v114::v115::v116::v117::v118::v119::v120::v121::v122::v123::v124::[]).toArray,dd⟩ w:=by
 conv=>arg 2;whnf
 obtain⟨w7,f9⟩:∃ w7,w7=w.drew:=⟨_,rfl⟩;have h9:w.grownBy w7 none:=by rw[f9];exact zO w none
 have g0:=Kh f9;have h2:=Kh (zA hgw h9 (by simp));have h0:=Kh (zB hbq h9 (by simp));have h4:=Kh (hup.grow h9);have h6:Hid (base<=w7.heap.size):=Kh (Nat.le_trans hbase h9.size);have c6:=Kh hlp;have d8:=Kh hll;have f0:=Kh hn;have f3:=Kh hmin;have c5:=Kh hokt;have C:=Kh (zF h0.out);clear f9 h9 hbq hgw hbase hup hlp hll hn hmin hokt;refine wp_region_noPanic ?_;refine wQ (G:=tZ 100 (fun W=>W.cell? ⟨Q,0,none⟩=some (.int .i64 (k:Int))/\W.cell? ⟨Q,1,none⟩=some (.int .i64 ds)/\W.cell? ⟨Q,2,none⟩=some (.slice fa fl fc)/\W.cell? ⟨Q,3,none⟩=some (.slice na nl nc)) (fun _=>True)) (by kernel_rfl) ?_;rw[<- g0.out];refine zW 0 ⟨C.out,fun _=>trivial⟩ ?_;refine zW 1 ⟨C.out,fun _=>trivial⟩ ?_;refine zW 5 ⟨C.out,fun _=>trivial⟩ ?_;refine zW 6 ⟨C.out,fun _=>trivial⟩ ?_;refine twoG (i:=2) (j:=11) (by kernel_rfl) rfl rfl (fun K hK=>?_) (fun K hK=>?_)
 ·go_simp
  go_at_call 54
  refine(f3.out w7 h2.out).mono ?_;rintro e wc1 ⟨v6,rfl,c3,c2⟩;obtain⟨f6,x6,rfl,e1⟩:=c3.t;obtain⟨fa6,fl6,fc6,na6,nl6,nc6,rfl,rfl⟩:=e1.shapes;have b2:=Kh e1;have h2:=Kh (zA h2.out c2 (by simp));have h0:=Kh (zB h0.out c2 (by simp));have h4:=Kh (h4.out.grow c2);have h6:Hid (base<=wc1.heap.size):=Kh (Nat.le_trans h6.out (c2).size);have C:=Kh (zF h0.out);obtain⟨ml,e3⟩:∃ x,x=(minD d k).letters:=⟨_,rfl⟩;obtain⟨ms,e2⟩:∃ x,x=(minD d k).start:=⟨_,rfl⟩;rw[<- e3,<- e2];have f2:=Kh e3;have f1:=Kh e2;refine hK.out _ _ ⟨C.out,fun _=>trivial⟩ ?_;clear hK K c3 c2 e1 e3 e2
  try simp only[Act.put,sPa,sPb,sPc]
  refine twoG (i:=3) (j:=11) (by kernel_rfl) rfl rfl (fun K hK=>?_) (fun K hK=>?_)
  ·go_simp
   have H9:=heap_alloc_new wc1 (.cells #[.int .i64 ml,.int .i64 ms,.slice fa6 fl6 fc6,.slice na6 nl6 nc6] 42);have h9:=Ga wc1 (.cells #[.int .i64 ml,.int .i64 ms,.slice fa6 fl6 fc6,.slice na6 nl6 nc6] 42) none;obtain⟨R7,d7⟩:∃ R,R=wc1.heap.size:=⟨_,rfl⟩;obtain⟨wl2,e5⟩:∃ w',w'=wc1.alloc (.cells #[.int .i64 ml,.int .i64 ms,.slice fa6 fl6 fc6,.slice na6 nl6 nc6] 42):=⟨_,rfl⟩;rw[<- e5]at H9 h9 ⊢;rw[<- d7]at H9 ⊢;have b2:=Kh (b2.out.grow h9);have d9:=Kh H9;have h2:=Kh (zA h2.out h9 (by simp));have h0:=Kh (zB h0.out h9 (by simp));have h4:=Kh (h4.out.grow h9);have h6:Hid (base<=wl2.heap.size):=Kh (Nat.le_trans h6.out (h9).size);have C:=Kh (zF h0.out);refine hK.out _ _ ⟨C.out,fun _=>trivial⟩ ?_;clear hK K e5 d7 h9 H9
   try simp only[Act.put,sPa,sPb,sPc]
   have b1:=h4.out.own;rw[d8.out]at b1;have e0:=h6.out;have H9:=d9.out;refine twoG (i:=4) (j:=11) (by kernel_rfl) rfl rfl (fun K hK=>?_) (fun K hK=>?_)
   ·refine uX rfl (.tmp 31) (.tmp 34) 84 rfl qU base (.slice sa n2 sc) n2 (nC lp) rfl b1 [.int .i64 ml,.int .i64 ms,.slice fa6 fl6 fc6,.slice na6 nl6 nc6] R7 rfl (0,0) rfl H9 ?z1 ?z2 ?z3 e0 ?_
    case z1=>intro v hv;simp only[List.mem_cons,List.not_mem_nil,or_false]at hv;rcases hv with rfl|rfl|rfl|rfl<;>rfl
    case z2=>unfold maxLen;omega
    case z3=>show (n2+1) * 64<=140737488355328;omega
    intro sN cN wp3 H7 H5 e4;have h4:=Kh (h4.out.push (v':=.slice sN (n2+1) cN) (x:=(minD d k,.slice fa6 fl6 fc6,.slice na6 nl6 nc6)) b2.out (by rw[d8.out];unfold dval;rw[<- f2.out,<- f1.out];exact H7) H5);have c4:Hid (∀ j,(Value.slice sa n2 sc).ownBlock=some j->base<=j/\j<wl2.heap.size):=Kh (fun j e=>b1.lt j e);have h0:=Kh (zB h0.out H5 (fun e=>by have:=(c4.out Q e).1;omega));have h2:=Kh (zA h2.out H5 (fun j e=>by have:=(c4.out j e).1;omega));have h6:Hid (base<=wp3.heap.size):=Kh (Nat.le_trans h6.out H5.size);have C:=Kh (zF h0.out);refine hK.out _ _ ⟨C.out,fun _=>trivial⟩ ?_;clear hK K H7 H5 e4
    try simp only[Act.put,sPa,sPb,sPc]
    have H2:Hid (Calls Try.prog 52 #[.slice sN (n2+1) cN,.int .i64 (k:Int)] wp3 (qFF wp3 (.slice sN (n2+1) cN) (autD ps k++[minD d k]) k)):=Kh (sW wp3.heap.size wp3 _ (autD ps k++[minD d k]) k (Nat.le_refl _) (by
     have:=h4.out.in_;rw[List.map_append,c6.out]at this
     exact this) c5.out hk1 hk6 (by rw[List.length_append,yY,<- f0.out];show n2+1<=400;omega))
    refine twoG (i:=7) (j:=11) (by kernel_rfl) rfl rfl (fun K hK=>?_) (fun K hK=>?_)
    ·go_simp
     go_at_call 52
     refine H2.out.mono ?_;rintro e wm4 (⟨b5,rfl,h5⟩|⟨B8,v8,L,T,rfl,c1,H6,H1,c0,b4,h5⟩)
     ·have d0:=Kh b5
      have h2:=Kh (zA h2.out h5 (by simp));have h0:=Kh (zB h0.out h5 (by simp));have h4:=Kh (h4.out.grow h5);have h6:Hid (base<=wm4.heap.size):=Kh (Nat.le_trans h6.out (h5).size);have C:=Kh (zF h0.out);refine hK.out _ _ ⟨C.out,fun _=>trivial⟩ ?_;clear hK K b5 h5
      try simp only[Act.put,sPa,sPb,sPc]
      refine zW 8 ⟨C.out,fun _=>trivial⟩ ?_;refine zW 9 ⟨C.out,fun _=>trivial⟩ ?_;refine zW 10 ⟨C.out,fun _=>trivial⟩ ?_;refine oneG (i:=11) (by kernel_rfl) rfl (fun K hK=>?_);go_simp;obtain⟨R,hR⟩:∃ R,R=wm4.heap.size:=⟨_,rfl⟩;have b3:Hid (w0.heap.size<=R):=Kh (by rw[hR];exact h2.out.size);obtain⟨wb5,e9⟩:∃ w',w'=wm4.alloc (.cells #[.slice none 0 0,.slice none 0 0,.slice none 0 0] 88):=⟨_,rfl⟩;have a2:=Ga wm4 (.cells #[.slice none 0 0,.slice none 0 0,.slice none 0 0] 88) none;have b9:=heap_alloc_new wm4 (.cells #[.slice none 0 0,.slice none 0 0,.slice none 0 0] 88);rw[<- e9]at a2 b9 ⊢;rw[<- hR]at b9 ⊢;have h2:=Kh (zA h2.out a2 (by simp));have h0:=Kh (zB h0.out a2 (by simp));have h4:=Kh (h4.out.grow a2);have h6:Hid (base<=wb5.heap.size):=Kh (Nat.le_trans h6.out (a2).size);have C:=Kh (zF h0.out);have h7:=Kh b9;refine hK.out _ _ ⟨C.out,fun _=>trivial⟩ ?_;clear hK K a2 b9 e9 hR
      try simp only[Act.put,sPa,sPb,sPc]
      have h3:=h7.out;have f40:=zE h3 0;have f41:=zE h3 1;have f42:=zE h3 2;have a3:=zK h3;obtain⟨v0',v1',v2'⟩:=zM h3;refine oneG (i:=12) (by kernel_rfl) rfl (fun K hK=>?_);go_simp;have g1:=zD (zD (zC wb5 ⟨R,0,none⟩ (.slice none 0 0)) (zC _ ⟨R,1,none⟩ (.slice none 0 0))) (zC _ ⟨R,2,none⟩ (.slice none 0 0));have z1:=heap_setCell_same _ R 2 _ _ (.slice none 0 0) (heap_setCell_same _ R 1 _ _ (.slice none 0 0) (heap_setCell_same wb5 R 0 _ _ (.slice none 0 0) h3));obtain⟨w9,H0⟩:∃ w9,w9=((wb5.setCell ⟨R,0,none⟩ (.slice none 0 0)).setCell ⟨R,1,none⟩ (.slice none 0 0)).setCell ⟨R,2,none⟩ (.slice none 0 0):=⟨_,rfl⟩;rw[<- H0]at g1 z1 ⊢;simp only[Array.setIfInBounds,List.size_toArray,List.length_cons,List.length_nil]at z1;have c8:w0.heap.size<=R:=b3.out;have h2:=Kh (zA h2.out g1 (fun j e=>by have e:R=j:=Oj e;omega));have a7:Q≠R:=fun e=>by have h1:=h0.out;rw[e,h3]at h1;simp at h1
      have h0:=Kh (zB h0.out g1 (fun e=>a7 (Oj e).symm));have C:=Kh (zF h0.out);subst H0;refine hK.out _ _ ⟨C.out,fun _=>trivial⟩ ?_;clear hK K v0' v1' v2' f40 f41 f42
      try simp only[Act.put,sPa,sPb,sPc]
      refine oneG (i:=13) (by kernel_rfl) rfl (fun K hK=>?_);go_simp;refine hK.out _ _ ⟨C.out,fun _=>trivial⟩ ?_;clear hK K
      try simp only[Act.put,sPa,sPb,sPc]
      refine rH (by kernel_rfl) ?_ _;refine NoPanic.normal ?_;exact hover d0.out _ _ _ _ _ _ _ _ _ _ _ R _ h2.out
     ·have d2:=Kh H1;have d1:=Kh c0;have c9:=Kh b4
      have f8:Hid (w0.heap.size<=B8):=Kh (Nat.le_trans h2.out.size c1);obtain⟨sS,sT,cS,cT,f4,f5,rfl,c7⟩:=id H6;obtain⟨LL,a8⟩:∃ n,n=L.length:=⟨_,rfl⟩;obtain⟨TL,a6⟩:∃ n,n=T.length:=⟨_,rfl⟩;rw[<- a8,<- a6]at H6 ⊢;have a0:=Kh H6;have b0:=Kh a8;have a9:=Kh a6;have h2:=Kh (zA h2.out h5 (by simp));have h0:=Kh (zB h0.out h5 (by simp));have h4:=Kh (h4.out.grow h5);have h6:Hid (base<=wm4.heap.size):=Kh (Nat.le_trans h6.out (h5).size);have C:=Kh (zF h0.out);refine hK.out _ _ ⟨C.out,fun _=>trivial⟩ ?_;clear hK K H1 c0 b4 h5 c7 H6 a8 a6 c1
      try simp only[Act.put,sPa,sPb,sPc]
      refine zW 8 ⟨C.out,fun _=>trivial⟩ ?_;refine zW 9 ⟨C.out,fun _=>trivial⟩ ?_;refine zW 10 ⟨C.out,fun _=>trivial⟩ ?_;refine oneG (i:=11) (by kernel_rfl) rfl (fun K hK=>?_);go_simp;obtain⟨R,hR⟩:∃ R,R=wm4.heap.size:=⟨_,rfl⟩;have b3:Hid (w0.heap.size<=R):=Kh (by rw[hR];exact h2.out.size);obtain⟨wb6,e8⟩:∃ w',w'=wm4.alloc (.cells #[.slice none 0 0,.slice none 0 0,.slice none 0 0] 88):=⟨_,rfl⟩;have H8:=Ga wm4 (.cells #[.slice none 0 0,.slice none 0 0,.slice none 0 0] 88) none;have b8:=heap_alloc_new wm4 (.cells #[.slice none 0 0,.slice none 0 0,.slice none 0 0] 88);rw[<- e8]at H8 b8 ⊢;rw[<- hR]at b8 ⊢;have h2:=Kh (zA h2.out H8 (by simp));have h0:=Kh (zB h0.out H8 (by simp));have h4:=Kh (h4.out.grow H8);have h6:Hid (base<=wb6.heap.size):=Kh (Nat.le_trans h6.out (H8).size);have C:=Kh (zF h0.out);have a0:=Kh (a0.out.growG H8);have h7:=Kh b8;refine hK.out _ _ ⟨C.out,fun _=>trivial⟩ ?_;clear hK K H8 b8 e8 hR
      try simp only[Act.put,sPa,sPb,sPc]
      have h3:=h7.out;have f40:=zE h3 0;have f41:=zE h3 1;have f42:=zE h3 2;have a3:=zK h3;obtain⟨v0',v1',v2'⟩:=zM h3;refine oneG (i:=12) (by kernel_rfl) rfl (fun K hK=>?_);go_simp;have g1:=zD (zD (zC wb6 ⟨R,0,none⟩ (.slice sN (n2+1) cN)) (zC _ ⟨R,1,none⟩ (.slice sS LL cS))) (zC _ ⟨R,2,none⟩ (.slice sT TL cT));have z1:=heap_setCell_same _ R 2 _ _ (.slice sT TL cT) (heap_setCell_same _ R 1 _ _ (.slice sS LL cS) (heap_setCell_same wb6 R 0 _ _ (.slice sN (n2+1) cN) h3));obtain⟨w9,H0⟩:∃ w9,w9=((wb6.setCell ⟨R,0,none⟩ (.slice sN (n2+1) cN)).setCell ⟨R,1,none⟩ (.slice sS LL cS)).setCell ⟨R,2,none⟩ (.slice sT TL cT):=⟨_,rfl⟩;rw[<- H0]at g1 z1 ⊢;simp only[Array.setIfInBounds,List.size_toArray,List.length_cons,List.length_nil]at z1;have c8:w0.heap.size<=R:=b3.out;have h2:=Kh (zA h2.out g1 (fun j e=>by have e:R=j:=Oj e;omega));have a7:Q≠R:=fun e=>by have h1:=h0.out;rw[e,h3]at h1;simp at h1
      have h0:=Kh (zB h0.out g1 (fun e=>a7 (Oj e).symm));have C:=Kh (zF h0.out);have h4:=Kh (h4.out.keptO (m:=R) h3 (by decide) (by decide) (by decide) (by decide) g1);have a0:=Kh (a0.out.keptO (m:=R) h3 (by decide) (by decide) g1);have f7:=Kh z1;subst H0;refine hK.out _ _ ⟨C.out,fun _=>trivial⟩ ?_;clear hK K v0' v1' v2' f40 f41 f42
      try simp only[Act.put,sPa,sPb,sPc]
      refine oneG (i:=13) (by kernel_rfl) rfl (fun K hK=>?_);go_simp;refine hK.out _ _ ⟨C.out,fun _=>trivial⟩ ?_;clear hK K
      try simp only[Act.put,sPa,sPb,sPc]
      refine rH (by kernel_rfl) ?_ _;refine NoPanic.normal ?_;exact hok _ _ _ _ _ _ _ _ _ _ _ R _ _ _ _ _ _ _ _ _ _ L T (lp++[(minD d k,.slice fa6 fl6 fc6,.slice na6 nl6 nc6)]) b0.out a9.out (by rw[List.map_append,c6.out];rfl) z1 a0.out h4.out d2.out d1.out c9.out h2.out
    ·go_simp
     obtain⟨R,hR⟩:∃ R,R=wp3.heap.size:=⟨_,rfl⟩;have b3:Hid (w0.heap.size<=R):=Kh (by rw[hR];exact h2.out.size);obtain⟨wb7,e7⟩:∃ w',w'=wp3.alloc (.cells #[.slice none 0 0,.slice none 0 0,.slice none 0 0] 88):=⟨_,rfl⟩;have a1:=Ga wp3 (.cells #[.slice none 0 0,.slice none 0 0,.slice none 0 0] 88) none;have b7:=heap_alloc_new wp3 (.cells #[.slice none 0 0,.slice none 0 0,.slice none 0 0] 88);rw[<- e7]at a1 b7 ⊢;rw[<- hR]at b7 ⊢;have h2:=Kh (zA h2.out a1 (by simp));have h0:=Kh (zB h0.out a1 (by simp));have h4:=Kh (h4.out.grow a1);have h6:Hid (base<=wb7.heap.size):=Kh (Nat.le_trans h6.out (a1).size);have C:=Kh (zF h0.out);have h7:=Kh b7;refine hK.out _ _ ⟨C.out,fun _=>trivial⟩ ?_;clear hK K a1 b7 e7 hR
     try simp only[Act.put,sPa,sPb,sPc]
     have H2:Hid (Calls Try.prog 52 #[.slice sN (n2+1) cN,.int .i64 (k:Int)] wb7 (qFF wb7 (.slice sN (n2+1) cN) (autD ps k++[minD d k]) k)):=Kh (sW wb7.heap.size wb7 _ (autD ps k++[minD d k]) k (Nat.le_refl _) (by
      have:=h4.out.in_;rw[List.map_append,c6.out]at this
      exact this) c5.out hk1 hk6 (by rw[List.length_append,yY,<- f0.out];show n2+1<=400;omega))
     refine oneG (i:=7) (by kernel_rfl) rfl (fun K hK=>?_);go_simp
     go_at_call 52
     refine H2.out.mono ?_;rintro e wm8 (⟨b5,rfl,h5⟩|⟨B8,v8,L,T,rfl,c1,H6,H1,c0,b4,h5⟩)
     ·have d0:=Kh b5
      have h2:=Kh (zA h2.out h5 (by simp));have h0:=Kh (zB h0.out h5 (by simp));have h4:=Kh (h4.out.grow h5);have h6:Hid (base<=wm8.heap.size):=Kh (Nat.le_trans h6.out (h5).size);have C:=Kh (zF h0.out);have h7:=Kh (zB h7.out h5 (by simp));refine hK.out _ _ ⟨C.out,fun _=>trivial⟩ ?_;clear hK K b5 h5
      try simp only[Act.put,sPa,sPb,sPc]
      refine zW 8 ⟨C.out,fun _=>trivial⟩ ?_;refine zW 9 ⟨C.out,fun _=>trivial⟩ ?_;refine zW 10 ⟨C.out,fun _=>trivial⟩ ?_;have h3:=h7.out;have f40:=zE h3 0;have f41:=zE h3 1;have f42:=zE h3 2;have a3:=zK h3;obtain⟨v0',v1',v2'⟩:=zM h3;refine oneG (i:=12) (by kernel_rfl) rfl (fun K hK=>?_);go_simp;have g1:=zD (zD (zC wm8 ⟨R,0,none⟩ (.slice none 0 0)) (zC _ ⟨R,1,none⟩ (.slice none 0 0))) (zC _ ⟨R,2,none⟩ (.slice none 0 0));have z1:=heap_setCell_same _ R 2 _ _ (.slice none 0 0) (heap_setCell_same _ R 1 _ _ (.slice none 0 0) (heap_setCell_same wm8 R 0 _ _ (.slice none 0 0) h3));obtain⟨w9,H0⟩:∃ w9,w9=((wm8.setCell ⟨R,0,none⟩ (.slice none 0 0)).setCell ⟨R,1,none⟩ (.slice none 0 0)).setCell ⟨R,2,none⟩ (.slice none 0 0):=⟨_,rfl⟩;rw[<- H0]at g1 z1 ⊢;simp only[Array.setIfInBounds,List.size_toArray,List.length_cons,List.length_nil]at z1;have c8:w0.heap.size<=R:=b3.out;have h2:=Kh (zA h2.out g1 (fun j e=>by have e:R=j:=Oj e;omega));have a7:Q≠R:=fun e=>by have h1:=h0.out;rw[e,h3]at h1;simp at h1
      have h0:=Kh (zB h0.out g1 (fun e=>a7 (Oj e).symm));have C:=Kh (zF h0.out);subst H0;refine hK.out _ _ ⟨C.out,fun _=>trivial⟩ ?_;clear hK K v0' v1' v2' f40 f41 f42
      try simp only[Act.put,sPa,sPb,sPc]
      refine oneG (i:=13) (by kernel_rfl) rfl (fun K hK=>?_);go_simp;refine hK.out _ _ ⟨C.out,fun _=>trivial⟩ ?_;clear hK K
      try simp only[Act.put,sPa,sPb,sPc]
      refine rH (by kernel_rfl) ?_ _;refine NoPanic.normal ?_;exact hover d0.out _ _ _ _ _ _ _ _ _ _ _ R _ h2.out
     ·have d2:=Kh H1;have d1:=Kh c0;have c9:=Kh b4
      have f8:Hid (w0.heap.size<=B8):=Kh (Nat.le_trans h2.out.size c1);obtain⟨sS,sT,cS,cT,f4,f5,rfl,c7⟩:=id H6;obtain⟨LL,a8⟩:∃ n,n=L.length:=⟨_,rfl⟩;obtain⟨TL,a6⟩:∃ n,n=T.length:=⟨_,rfl⟩;rw[<- a8,<- a6]at H6 ⊢;have a0:=Kh H6;have b0:=Kh a8;have a9:=Kh a6;have h2:=Kh (zA h2.out h5 (by simp));have h0:=Kh (zB h0.out h5 (by simp));have h4:=Kh (h4.out.grow h5);have h6:Hid (base<=wm8.heap.size):=Kh (Nat.le_trans h6.out (h5).size);have C:=Kh (zF h0.out);have h7:=Kh (zB h7.out h5 (by simp));refine hK.out _ _ ⟨C.out,fun _=>trivial⟩ ?_;clear hK K H1 c0 b4 h5 c7 H6 a8 a6 c1
      try simp only[Act.put,sPa,sPb,sPc]
      refine zW 8 ⟨C.out,fun _=>trivial⟩ ?_;refine zW 9 ⟨C.out,fun _=>trivial⟩ ?_;refine zW 10 ⟨C.out,fun _=>trivial⟩ ?_;have h3:=h7.out;have f40:=zE h3 0;have f41:=zE h3 1;have f42:=zE h3 2;have a3:=zK h3;obtain⟨v0',v1',v2'⟩:=zM h3;refine oneG (i:=12) (by kernel_rfl) rfl (fun K hK=>?_);go_simp;have g1:=zD (zD (zC wm8 ⟨R,0,none⟩ (.slice sN (n2+1) cN)) (zC _ ⟨R,1,none⟩ (.slice sS LL cS))) (zC _ ⟨R,2,none⟩ (.slice sT TL cT));have z1:=heap_setCell_same _ R 2 _ _ (.slice sT TL cT) (heap_setCell_same _ R 1 _ _ (.slice sS LL cS) (heap_setCell_same wm8 R 0 _ _ (.slice sN (n2+1) cN) h3));obtain⟨w9,H0⟩:∃ w9,w9=((wm8.setCell ⟨R,0,none⟩ (.slice sN (n2+1) cN)).setCell ⟨R,1,none⟩ (.slice sS LL cS)).setCell ⟨R,2,none⟩ (.slice sT TL cT):=⟨_,rfl⟩;rw[<- H0]at g1 z1 ⊢;simp only[Array.setIfInBounds,List.size_toArray,List.length_cons,List.length_nil]at z1;have c8:w0.heap.size<=R:=b3.out;have h2:=Kh (zA h2.out g1 (fun j e=>by have e:R=j:=Oj e;omega));have a7:Q≠R:=fun e=>by have h1:=h0.out;rw[e,h3]at h1;simp at h1
      have h0:=Kh (zB h0.out g1 (fun e=>a7 (Oj e).symm));have C:=Kh (zF h0.out);have h4:=Kh (h4.out.keptO (m:=R) h3 (by decide) (by decide) (by decide) (by decide) g1);have a0:=Kh (a0.out.keptO (m:=R) h3 (by decide) (by decide) g1);have f7:=Kh z1;subst H0;refine hK.out _ _ ⟨C.out,fun _=>trivial⟩ ?_;clear hK K v0' v1' v2' f40 f41 f42
      try simp only[Act.put,sPa,sPb,sPc]
      refine oneG (i:=13) (by kernel_rfl) rfl (fun K hK=>?_);go_simp;refine hK.out _ _ ⟨C.out,fun _=>trivial⟩ ?_;clear hK K
      try simp only[Act.put,sPa,sPb,sPc]
      refine rH (by kernel_rfl) ?_ _;refine NoPanic.normal ?_;exact hok _ _ _ _ _ _ _ _ _ _ _ R _ _ _ _ _ _ _ _ _ _ L T (lp++[(minD d k,.slice fa6 fl6 fc6,.slice na6 nl6 nc6)]) b0.out a9.out (by rw[List.map_append,c6.out];rfl) z1 a0.out h4.out d2.out d1.out c9.out h2.out
   ·go_simp
    obtain⟨R,hR⟩:∃ R,R=wl2.heap.size:=⟨_,rfl⟩;have b3:Hid (w0.heap.size<=R):=Kh (by rw[hR];exact h2.out.size);obtain⟨wb9,e6⟩:∃ w',w'=wl2.alloc (.cells #[.slice none 0 0,.slice none 0 0,.slice none 0 0] 88):=⟨_,rfl⟩;have H4:=Ga wl2 (.cells #[.slice none 0 0,.slice none 0 0,.slice none 0 0] 88) none;have b6:=heap_alloc_new wl2 (.cells #[.slice none 0 0,.slice none 0 0,.slice none 0 0] 88);rw[<- e6]at H4 b6 ⊢;rw[<- hR]at b6 ⊢;have h2:=Kh (zA h2.out H4 (by simp));have h0:=Kh (zB h0.out H4 (by simp));have h4:=Kh (h4.out.grow H4);have h6:Hid (base<=wb9.heap.size):=Kh (Nat.le_trans h6.out (H4).size);have C:=Kh (zF h0.out);have b2:=Kh (b2.out.grow H4);have d9:=Kh (zB d9.out H4 (by simp));have h7:=Kh b6;refine hK.out _ _ ⟨C.out,fun _=>trivial⟩ ?_;clear hK K H4 b6 e6 hR
    try simp only[Act.put,sPa,sPb,sPc]
    have b1:=h4.out.own;rw[d8.out]at b1;have e0:=h6.out;have H9:=d9.out;refine oneG (i:=4) (by kernel_rfl) rfl (fun K hK=>?_);refine uX rfl (.tmp 31) (.tmp 34) 84 rfl qU base (.slice sa n2 sc) n2 (nC lp) rfl b1 [.int .i64 ml,.int .i64 ms,.slice fa6 fl6 fc6,.slice na6 nl6 nc6] R7 rfl (0,0) rfl H9 ?z1 ?z2 ?z3 e0 ?_
    case z1=>intro v hv;simp only[List.mem_cons,List.not_mem_nil,or_false]at hv;rcases hv with rfl|rfl|rfl|rfl<;>rfl
    case z2=>unfold maxLen;omega
    case z3=>show (n2+1) * 64<=140737488355328;omega
    intro sN cN wp10 H7 H5 e4;have h4:=Kh (h4.out.push (v':=.slice sN (n2+1) cN) (x:=(minD d k,.slice fa6 fl6 fc6,.slice na6 nl6 nc6)) b2.out (by rw[d8.out];unfold dval;rw[<- f2.out,<- f1.out];exact H7) H5);have c4:Hid (∀ j,(Value.slice sa n2 sc).ownBlock=some j->base<=j/\j<wb9.heap.size):=Kh (fun j e=>b1.lt j e);have h0:=Kh (zB h0.out H5 (fun e=>by have:=(c4.out Q e).1;omega));have h2:=Kh (zA h2.out H5 (fun j e=>by have:=(c4.out j e).1;omega));have h6:Hid (base<=wp10.heap.size):=Kh (Nat.le_trans h6.out H5.size);have C:=Kh (zF h0.out);have h7:=Kh (zB h7.out H5 (fun e=>zQ b1 h7.out (by decide) e));refine hK.out _ _ ⟨C.out,fun _=>trivial⟩ ?_;clear hK K H7 H5 e4
    try simp only[Act.put,sPa,sPb,sPc]
    have H2:Hid (Calls Try.prog 52 #[.slice sN (n2+1) cN,.int .i64 (k:Int)] wp10 (qFF wp10 (.slice sN (n2+1) cN) (autD ps k++[minD d k]) k)):=Kh (sW wp10.heap.size wp10 _ (autD ps k++[minD d k]) k (Nat.le_refl _) (by
     have:=h4.out.in_;rw[List.map_append,c6.out]at this
     exact this) c5.out hk1 hk6 (by rw[List.length_append,yY,<- f0.out];show n2+1<=400;omega))
    refine oneG (i:=7) (by kernel_rfl) rfl (fun K hK=>?_);go_simp
    go_at_call 52
    refine H2.out.mono ?_;rintro e wm11 (⟨b5,rfl,h5⟩|⟨B8,v8,L,T,rfl,c1,H6,H1,c0,b4,h5⟩)
    ·have d0:=Kh b5
     have h2:=Kh (zA h2.out h5 (by simp));have h0:=Kh (zB h0.out h5 (by simp));have h4:=Kh (h4.out.grow h5);have h6:Hid (base<=wm11.heap.size):=Kh (Nat.le_trans h6.out (h5).size);have C:=Kh (zF h0.out);have h7:=Kh (zB h7.out h5 (by simp));refine hK.out _ _ ⟨C.out,fun _=>trivial⟩ ?_;clear hK K b5 h5
     try simp only[Act.put,sPa,sPb,sPc]
     refine zW 8 ⟨C.out,fun _=>trivial⟩ ?_;refine zW 9 ⟨C.out,fun _=>trivial⟩ ?_;refine zW 10 ⟨C.out,fun _=>trivial⟩ ?_;have h3:=h7.out;have f40:=zE h3 0;have f41:=zE h3 1;have f42:=zE h3 2;have a3:=zK h3;obtain⟨v0',v1',v2'⟩:=zM h3;refine oneG (i:=12) (by kernel_rfl) rfl (fun K hK=>?_);go_simp;have g1:=zD (zD (zC wm11 ⟨R,0,none⟩ (.slice none 0 0)) (zC _ ⟨R,1,none⟩ (.slice none 0 0))) (zC _ ⟨R,2,none⟩ (.slice none 0 0));have z1:=heap_setCell_same _ R 2 _ _ (.slice none 0 0) (heap_setCell_same _ R 1 _ _ (.slice none 0 0) (heap_setCell_same wm11 R 0 _ _ (.slice none 0 0) h3));obtain⟨w9,H0⟩:∃ w9,w9=((wm11.setCell ⟨R,0,none⟩ (.slice none 0 0)).setCell ⟨R,1,none⟩ (.slice none 0 0)).setCell ⟨R,2,none⟩ (.slice none 0 0):=⟨_,rfl⟩;rw[<- H0]at g1 z1 ⊢;simp only[Array.setIfInBounds,List.size_toArray,List.length_cons,List.length_nil]at z1;have c8:w0.heap.size<=R:=b3.out;have h2:=Kh (zA h2.out g1 (fun j e=>by have e:R=j:=Oj e;omega));have a7:Q≠R:=fun e=>by have h1:=h0.out;rw[e,h3]at h1;simp at h1
     have h0:=Kh (zB h0.out g1 (fun e=>a7 (Oj e).symm));have C:=Kh (zF h0.out);subst H0;refine hK.out _ _ ⟨C.out,fun _=>trivial⟩ ?_;clear hK K v0' v1' v2' f40 f41 f42
     try simp only[Act.put,sPa,sPb,sPc]
     refine oneG (i:=13) (by kernel_rfl) rfl (fun K hK=>?_);go_simp;refine hK.out _ _ ⟨C.out,fun _=>trivial⟩ ?_;clear hK K
     try simp only[Act.put,sPa,sPb,sPc]
     refine rH (by kernel_rfl) ?_ _;refine NoPanic.normal ?_;exact hover d0.out _ _ _ _ _ _ _ _ _ _ _ R _ h2.out
    ·have d2:=Kh H1;have d1:=Kh c0;have c9:=Kh b4
     have f8:Hid (w0.heap.size<=B8):=Kh (Nat.le_trans h2.out.size c1);obtain⟨sS,sT,cS,cT,f4,f5,rfl,c7⟩:=id H6;obtain⟨LL,a8⟩:∃ n,n=L.length:=⟨_,rfl⟩;obtain⟨TL,a6⟩:∃ n,n=T.length:=⟨_,rfl⟩;rw[<- a8,<- a6]at H6 ⊢;have a0:=Kh H6;have b0:=Kh a8;have a9:=Kh a6;have h2:=Kh (zA h2.out h5 (by simp));have h0:=Kh (zB h0.out h5 (by simp));have h4:=Kh (h4.out.grow h5);have h6:Hid (base<=wm11.heap.size):=Kh (Nat.le_trans h6.out (h5).size);have C:=Kh (zF h0.out);have h7:=Kh (zB h7.out h5 (by simp));refine hK.out _ _ ⟨C.out,fun _=>trivial⟩ ?_;clear hK K H1 c0 b4 h5 c7 H6 a8 a6 c1
     try simp only[Act.put,sPa,sPb,sPc]
     refine zW 8 ⟨C.out,fun _=>trivial⟩ ?_;refine zW 9 ⟨C.out,fun _=>trivial⟩ ?_;refine zW 10 ⟨C.out,fun _=>trivial⟩ ?_;have h3:=h7.out;have f40:=zE h3 0;have f41:=zE h3 1;have f42:=zE h3 2;have a3:=zK h3;obtain⟨v0',v1',v2'⟩:=zM h3;refine oneG (i:=12) (by kernel_rfl) rfl (fun K hK=>?_);go_simp;have g1:=zD (zD (zC wm11 ⟨R,0,none⟩ (.slice sN (n2+1) cN)) (zC _ ⟨R,1,none⟩ (.slice sS LL cS))) (zC _ ⟨R,2,none⟩ (.slice sT TL cT));have z1:=heap_setCell_same _ R 2 _ _ (.slice sT TL cT) (heap_setCell_same _ R 1 _ _ (.slice sS LL cS) (heap_setCell_same wm11 R 0 _ _ (.slice sN (n2+1) cN) h3));obtain⟨w9,H0⟩:∃ w9,w9=((wm11.setCell ⟨R,0,none⟩ (.slice sN (n2+1) cN)).setCell ⟨R,1,none⟩ (.slice sS LL cS)).setCell ⟨R,2,none⟩ (.slice sT TL cT):=⟨_,rfl⟩;rw[<- H0]at g1 z1 ⊢;simp only[Array.setIfInBounds,List.size_toArray,List.length_cons,List.length_nil]at z1;have c8:w0.heap.size<=R:=b3.out;have h2:=Kh (zA h2.out g1 (fun j e=>by have e:R=j:=Oj e;omega));have a7:Q≠R:=fun e=>by have h1:=h0.out;rw[e,h3]at h1;simp at h1
     have h0:=Kh (zB h0.out g1 (fun e=>a7 (Oj e).symm));have C:=Kh (zF h0.out);have h4:=Kh (h4.out.keptO (m:=R) h3 (by decide) (by decide) (by decide) (by decide) g1);have a0:=Kh (a0.out.keptO (m:=R) h3 (by decide) (by decide) g1);have f7:=Kh z1;subst H0;refine hK.out _ _ ⟨C.out,fun _=>trivial⟩ ?_;clear hK K v0' v1' v2' f40 f41 f42
     try simp only[Act.put,sPa,sPb,sPc]
     refine oneG (i:=13) (by kernel_rfl) rfl (fun K hK=>?_);go_simp;refine hK.out _ _ ⟨C.out,fun _=>trivial⟩ ?_;clear hK K
     try simp only[Act.put,sPa,sPb,sPc]
     refine rH (by kernel_rfl) ?_ _;refine NoPanic.normal ?_;exact hok _ _ _ _ _ _ _ _ _ _ _ R _ _ _ _ _ _ _ _ _ _ L T (lp++[(minD d k,.slice fa6 fl6 fc6,.slice na6 nl6 nc6)]) b0.out a9.out (by rw[List.map_append,c6.out];rfl) z1 a0.out h4.out d2.out d1.out c9.out h2.out
  ·go_simp
   obtain⟨R,hR⟩:∃ R,R=wc1.heap.size:=⟨_,rfl⟩;have b3:Hid (w0.heap.size<=R):=Kh (by rw[hR];exact h2.out.size);obtain⟨wb12,d6⟩:∃ w',w'=wc1.alloc (.cells #[.slice none 0 0,.slice none 0 0,.slice none 0 0] 88):=⟨_,rfl⟩;have h8:=Ga wc1 (.cells #[.slice none 0 0,.slice none 0 0,.slice none 0 0] 88) none;have a5:=heap_alloc_new wc1 (.cells #[.slice none 0 0,.slice none 0 0,.slice none 0 0] 88);rw[<- d6]at h8 a5 ⊢;rw[<- hR]at a5 ⊢;have h2:=Kh (zA h2.out h8 (by simp));have h0:=Kh (zB h0.out h8 (by simp));have h4:=Kh (h4.out.grow h8);have h6:Hid (base<=wb12.heap.size):=Kh (Nat.le_trans h6.out (h8).size);have C:=Kh (zF h0.out);have b2:=Kh (b2.out.grow h8);have h7:=Kh a5;refine hK.out _ _ ⟨C.out,fun _=>trivial⟩ ?_;clear hK K h8 a5 d6 hR
   try simp only[Act.put,sPa,sPb,sPc]
   refine oneG (i:=3) (by kernel_rfl) rfl (fun K hK=>?_);go_simp;have H9:=heap_alloc_new wb12 (.cells #[.int .i64 ml,.int .i64 ms,.slice fa6 fl6 fc6,.slice na6 nl6 nc6] 42);have h9:=Ga wb12 (.cells #[.int .i64 ml,.int .i64 ms,.slice fa6 fl6 fc6,.slice na6 nl6 nc6] 42) none;obtain⟨R7,d7⟩:∃ R,R=wb12.heap.size:=⟨_,rfl⟩;obtain⟨wl13,d4⟩:∃ w',w'=wb12.alloc (.cells #[.int .i64 ml,.int .i64 ms,.slice fa6 fl6 fc6,.slice na6 nl6 nc6] 42):=⟨_,rfl⟩;rw[<- d4]at H9 h9 ⊢;rw[<- d7]at H9 ⊢;have b2:=Kh (b2.out.grow h9);have d9:=Kh H9;have h2:=Kh (zA h2.out h9 (by simp));have h0:=Kh (zB h0.out h9 (by simp));have h4:=Kh (h4.out.grow h9);have h6:Hid (base<=wl13.heap.size):=Kh (Nat.le_trans h6.out (h9).size);have C:=Kh (zF h0.out);have h7:=Kh (zB h7.out h9 (by simp));refine hK.out _ _ ⟨C.out,fun _=>trivial⟩ ?_;clear hK K d4 d7 h9 H9
   try simp only[Act.put,sPa,sPb,sPc]
   have b1:=h4.out.own;rw[d8.out]at b1;have e0:=h6.out;have H9:=d9.out;refine oneG (i:=4) (by kernel_rfl) rfl (fun K hK=>?_);refine uX rfl (.tmp 31) (.tmp 34) 84 rfl qU base (.slice sa n2 sc) n2 (nC lp) rfl b1 [.int .i64 ml,.int .i64 ms,.slice fa6 fl6 fc6,.slice na6 nl6 nc6] R7 rfl (0,0) rfl H9 ?z1 ?z2 ?z3 e0 ?_
   case z1=>intro v hv;simp only[List.mem_cons,List.not_mem_nil,or_false]at hv;rcases hv with rfl|rfl|rfl|rfl<;>rfl
   case z2=>unfold maxLen;omega
   case z3=>show (n2+1) * 64<=140737488355328;omega
   intro sN cN wp14 H7 H5 e4;have h4:=Kh (h4.out.push (v':=.slice sN (n2+1) cN) (x:=(minD d k,.slice fa6 fl6 fc6,.slice na6 nl6 nc6)) b2.out (by rw[d8.out];unfold dval;rw[<- f2.out,<- f1.out];exact H7) H5);have c4:Hid (∀ j,(Value.slice sa n2 sc).ownBlock=some j->base<=j/\j<wl13.heap.size):=Kh (fun j e=>b1.lt j e);have h0:=Kh (zB h0.out H5 (fun e=>by have:=(c4.out Q e).1;omega));have h2:=Kh (zA h2.out H5 (fun j e=>by have:=(c4.out j e).1;omega));have h6:Hid (base<=wp14.heap.size):=Kh (Nat.le_trans h6.out H5.size);have C:=Kh (zF h0.out);have h7:=Kh (zB h7.out H5 (fun e=>zQ b1 h7.out (by decide) e));refine hK.out _ _ ⟨C.out,fun _=>trivial⟩ ?_;clear hK K H7 H5 e4
   try simp only[Act.put,sPa,sPb,sPc]
   have H2:Hid (Calls Try.prog 52 #[.slice sN (n2+1) cN,.int .i64 (k:Int)] wp14 (qFF wp14 (.slice sN (n2+1) cN) (autD ps k++[minD d k]) k)):=Kh (sW wp14.heap.size wp14 _ (autD ps k++[minD d k]) k (Nat.le_refl _) (by
    have:=h4.out.in_;rw[List.map_append,c6.out]at this
    exact this) c5.out hk1 hk6 (by rw[List.length_append,yY,<- f0.out];show n2+1<=400;omega))
   refine oneG (i:=7) (by kernel_rfl) rfl (fun K hK=>?_);go_simp
   go_at_call 52
   refine H2.out.mono ?_;rintro e wm15 (⟨b5,rfl,h5⟩|⟨B8,v8,L,T,rfl,c1,H6,H1,c0,b4,h5⟩)
   ·have d0:=Kh b5
    have h2:=Kh (zA h2.out h5 (by simp));have h0:=Kh (zB h0.out h5 (by simp));have h4:=Kh (h4.out.grow h5);have h6:Hid (base<=wm15.heap.size):=Kh (Nat.le_trans h6.out (h5).size);have C:=Kh (zF h0.out);have h7:=Kh (zB h7.out h5 (by simp));refine hK.out _ _ ⟨C.out,fun _=>trivial⟩ ?_;clear hK K b5 h5
    try simp only[Act.put,sPa,sPb,sPc]
    refine zW 8 ⟨C.out,fun _=>trivial⟩ ?_;refine zW 9 ⟨C.out,fun _=>trivial⟩ ?_;refine zW 10 ⟨C.out,fun _=>trivial⟩ ?_;have h3:=h7.out;have f40:=zE h3 0;have f41:=zE h3 1;have f42:=zE h3 2;have a3:=zK h3;obtain⟨v0',v1',v2'⟩:=zM h3;refine oneG (i:=12) (by kernel_rfl) rfl (fun K hK=>?_);go_simp;have g1:=zD (zD (zC wm15 ⟨R,0,none⟩ (.slice none 0 0)) (zC _ ⟨R,1,none⟩ (.slice none 0 0))) (zC _ ⟨R,2,none⟩ (.slice none 0 0));have z1:=heap_setCell_same _ R 2 _ _ (.slice none 0 0) (heap_setCell_same _ R 1 _ _ (.slice none 0 0) (heap_setCell_same wm15 R 0 _ _ (.slice none 0 0) h3));obtain⟨w9,H0⟩:∃ w9,w9=((wm15.setCell ⟨R,0,none⟩ (.slice none 0 0)).setCell ⟨R,1,none⟩ (.slice none 0 0)).setCell ⟨R,2,none⟩ (.slice none 0 0):=⟨_,rfl⟩;rw[<- H0]at g1 z1 ⊢;simp only[Array.setIfInBounds,List.size_toArray,List.length_cons,List.length_nil]at z1;have c8:w0.heap.size<=R:=b3.out;have h2:=Kh (zA h2.out g1 (fun j e=>by have e:R=j:=Oj e;omega));have a7:Q≠R:=fun e=>by have h1:=h0.out;rw[e,h3]at h1;simp at h1
    have h0:=Kh (zB h0.out g1 (fun e=>a7 (Oj e).symm));have C:=Kh (zF h0.out);subst H0;refine hK.out _ _ ⟨C.out,fun _=>trivial⟩ ?_;clear hK K v0' v1' v2' f40 f41 f42
    try simp only[Act.put,sPa,sPb,sPc]
    refine oneG (i:=13) (by kernel_rfl) rfl (fun K hK=>?_);go_simp;refine hK.out _ _ ⟨C.out,fun _=>trivial⟩ ?_;clear hK K
    try simp only[Act.put,sPa,sPb,sPc]
    refine rH (by kernel_rfl) ?_ _;refine NoPanic.normal ?_;exact hover d0.out _ _ _ _ _ _ _ _ _ _ _ R _ h2.out
   ·have d2:=Kh H1;have d1:=Kh c0;have c9:=Kh b4
    have f8:Hid (w0.heap.size<=B8):=Kh (Nat.le_trans h2.out.size c1);obtain⟨sS,sT,cS,cT,f4,f5,rfl,c7⟩:=id H6;obtain⟨LL,a8⟩:∃ n,n=L.length:=⟨_,rfl⟩;obtain⟨TL,a6⟩:∃ n,n=T.length:=⟨_,rfl⟩;rw[<- a8,<- a6]at H6 ⊢;have a0:=Kh H6;have b0:=Kh a8;have a9:=Kh a6;have h2:=Kh (zA h2.out h5 (by simp));have h0:=Kh (zB h0.out h5 (by simp));have h4:=Kh (h4.out.grow h5);have h6:Hid (base<=wm15.heap.size):=Kh (Nat.le_trans h6.out (h5).size);have C:=Kh (zF h0.out);have h7:=Kh (zB h7.out h5 (by simp));refine hK.out _ _ ⟨C.out,fun _=>trivial⟩ ?_;clear hK K H1 c0 b4 h5 c7 H6 a8 a6 c1
    try simp only[Act.put,sPa,sPb,sPc]
    refine zW 8 ⟨C.out,fun _=>trivial⟩ ?_;refine zW 9 ⟨C.out,fun _=>trivial⟩ ?_;refine zW 10 ⟨C.out,fun _=>trivial⟩ ?_;have h3:=h7.out;have f40:=zE h3 0;have f41:=zE h3 1;have f42:=zE h3 2;have a3:=zK h3;obtain⟨v0',v1',v2'⟩:=zM h3;refine oneG (i:=12) (by kernel_rfl) rfl (fun K hK=>?_);go_simp;have g1:=zD (zD (zC wm15 ⟨R,0,none⟩ (.slice sN (n2+1) cN)) (zC _ ⟨R,1,none⟩ (.slice sS LL cS))) (zC _ ⟨R,2,none⟩ (.slice sT TL cT));have z1:=heap_setCell_same _ R 2 _ _ (.slice sT TL cT) (heap_setCell_same _ R 1 _ _ (.slice sS LL cS) (heap_setCell_same wm15 R 0 _ _ (.slice sN (n2+1) cN) h3));obtain⟨w9,H0⟩:∃ w9,w9=((wm15.setCell ⟨R,0,none⟩ (.slice sN (n2+1) cN)).setCell ⟨R,1,none⟩ (.slice sS LL cS)).setCell ⟨R,2,none⟩ (.slice sT TL cT):=⟨_,rfl⟩;rw[<- H0]at g1 z1 ⊢;simp only[Array.setIfInBounds,List.size_toArray,List.length_cons,List.length_nil]at z1;have c8:w0.heap.size<=R:=b3.out;have h2:=Kh (zA h2.out g1 (fun j e=>by have e:R=j:=Oj e;omega));have a7:Q≠R:=fun e=>by have h1:=h0.out;rw[e,h3]at h1;simp at h1
    have h0:=Kh (zB h0.out g1 (fun e=>a7 (Oj e).symm));have C:=Kh (zF h0.out);have h4:=Kh (h4.out.keptO (m:=R) h3 (by decide) (by decide) (by decide) (by decide) g1);have a0:=Kh (a0.out.keptO (m:=R) h3 (by decide) (by decide) g1);have f7:=Kh z1;subst H0;refine hK.out _ _ ⟨C.out,fun _=>trivial⟩ ?_;clear hK K v0' v1' v2' f40 f41 f42
    try simp only[Act.put,sPa,sPb,sPc]
    refine oneG (i:=13) (by kernel_rfl) rfl (fun K hK=>?_);go_simp;refine hK.out _ _ ⟨C.out,fun _=>trivial⟩ ?_;clear hK K
    try simp only[Act.put,sPa,sPb,sPc]
    refine rH (by kernel_rfl) ?_ _;refine NoPanic.normal ?_;exact hok _ _ _ _ _ _ _ _ _ _ _ R _ _ _ _ _ _ _ _ _ _ L T (lp++[(minD d k,.slice fa6 fl6 fc6,.slice na6 nl6 nc6)]) b0.out a9.out (by rw[List.map_append,c6.out];rfl) z1 a0.out h4.out d2.out d1.out c9.out h2.out
 ·go_simp
  obtain⟨R,hR⟩:∃ R,R=w7.heap.size:=⟨_,rfl⟩;have b3:Hid (w0.heap.size<=R):=Kh (by rw[hR];exact h2.out.size);obtain⟨wb16,d5⟩:∃ w',w'=w7.alloc (.cells #[.slice none 0 0,.slice none 0 0,.slice none 0 0] 88):=⟨_,rfl⟩;have H3:=Ga w7 (.cells #[.slice none 0 0,.slice none 0 0,.slice none 0 0] 88) none;have a4:=heap_alloc_new w7 (.cells #[.slice none 0 0,.slice none 0 0,.slice none 0 0] 88);rw[<- d5]at H3 a4 ⊢;rw[<- hR]at a4 ⊢;have h2:=Kh (zA h2.out H3 (by simp));have h0:=Kh (zB h0.out H3 (by simp));have h4:=Kh (h4.out.grow H3);have h6:Hid (base<=wb16.heap.size):=Kh (Nat.le_trans h6.out (H3).size);have C:=Kh (zF h0.out);have h7:=Kh a4;refine hK.out _ _ ⟨C.out,fun _=>trivial⟩ ?_;clear hK K H3 a4 d5 hR
  try simp only[Act.put,sPa,sPb,sPc]
  refine oneG (i:=2) (by kernel_rfl) rfl (fun K hK=>?_);go_simp
  go_at_call 54
  refine(f3.out wb16 h2.out).mono ?_;rintro e wc17 ⟨v6,rfl,c3,c2⟩;obtain⟨f6,x6,rfl,e1⟩:=c3.t;obtain⟨fa6,fl6,fc6,na6,nl6,nc6,rfl,rfl⟩:=e1.shapes;have b2:=Kh e1;have h2:=Kh (zA h2.out c2 (by simp));have h0:=Kh (zB h0.out c2 (by simp));have h4:=Kh (h4.out.grow c2);have h6:Hid (base<=wc17.heap.size):=Kh (Nat.le_trans h6.out (c2).size);have C:=Kh (zF h0.out);have h7:=Kh (zB h7.out c2 (by simp));obtain⟨ml,e3⟩:∃ x,x=(minD d k).letters:=⟨_,rfl⟩;obtain⟨ms,e2⟩:∃ x,x=(minD d k).start:=⟨_,rfl⟩;rw[<- e3,<- e2];have f2:=Kh e3;have f1:=Kh e2;refine hK.out _ _ ⟨C.out,fun _=>trivial⟩ ?_;clear hK K c3 c2 e1 e3 e2
  try simp only[Act.put,sPa,sPb,sPc]
  refine oneG (i:=3) (by kernel_rfl) rfl (fun K hK=>?_);go_simp;have H9:=heap_alloc_new wc17 (.cells #[.int .i64 ml,.int .i64 ms,.slice fa6 fl6 fc6,.slice na6 nl6 nc6] 42);have h9:=Ga wc17 (.cells #[.int .i64 ml,.int .i64 ms,.slice fa6 fl6 fc6,.slice na6 nl6 nc6] 42) none;obtain⟨R7,d7⟩:∃ R,R=wc17.heap.size:=⟨_,rfl⟩;obtain⟨wl18,d3⟩:∃ w',w'=wc17.alloc (.cells #[.int .i64 ml,.int .i64 ms,.slice fa6 fl6 fc6,.slice na6 nl6 nc6] 42):=⟨_,rfl⟩;rw[<- d3]at H9 h9 ⊢;rw[<- d7]at H9 ⊢;have b2:=Kh (b2.out.grow h9);have d9:=Kh H9;have h2:=Kh (zA h2.out h9 (by simp));have h0:=Kh (zB h0.out h9 (by simp));have h4:=Kh (h4.out.grow h9);have h6:Hid (base<=wl18.heap.size):=Kh (Nat.le_trans h6.out (h9).size);have C:=Kh (zF h0.out);have h7:=Kh (zB h7.out h9 (by simp));refine hK.out _ _ ⟨C.out,fun _=>trivial⟩ ?_;clear hK K d3 d7 h9 H9
  try simp only[Act.put,sPa,sPb,sPc]
  have b1:=h4.out.own;rw[d8.out]at b1;have e0:=h6.out;have H9:=d9.out;refine oneG (i:=4) (by kernel_rfl) rfl (fun K hK=>?_);refine uX rfl (.tmp 31) (.tmp 34) 84 rfl qU base (.slice sa n2 sc) n2 (nC lp) rfl b1 [.int .i64 ml,.int .i64 ms,.slice fa6 fl6 fc6,.slice na6 nl6 nc6] R7 rfl (0,0) rfl H9 ?z1 ?z2 ?z3 e0 ?_
  case z1=>intro v hv;simp only[List.mem_cons,List.not_mem_nil,or_false]at hv;rcases hv with rfl|rfl|rfl|rfl<;>rfl
  case z2=>unfold maxLen;omega
  case z3=>show (n2+1) * 64<=140737488355328;omega
  intro sN cN wp19 H7 H5 e4;have h4:=Kh (h4.out.push (v':=.slice sN (n2+1) cN) (x:=(minD d k,.slice fa6 fl6 fc6,.slice na6 nl6 nc6)) b2.out (by rw[d8.out];unfold dval;rw[<- f2.out,<- f1.out];exact H7) H5);have c4:Hid (∀ j,(Value.slice sa n2 sc).ownBlock=some j->base<=j/\j<wl18.heap.size):=Kh (fun j e=>b1.lt j e);have h0:=Kh (zB h0.out H5 (fun e=>by have:=(c4.out Q e).1;omega));have h2:=Kh (zA h2.out H5 (fun j e=>by have:=(c4.out j e).1;omega));have h6:Hid (base<=wp19.heap.size):=Kh (Nat.le_trans h6.out H5.size);have C:=Kh (zF h0.out);have h7:=Kh (zB h7.out H5 (fun e=>zQ b1 h7.out (by decide) e));refine hK.out _ _ ⟨C.out,fun _=>trivial⟩ ?_;clear hK K H7 H5 e4
  try simp only[Act.put,sPa,sPb,sPc]
  have H2:Hid (Calls Try.prog 52 #[.slice sN (n2+1) cN,.int .i64 (k:Int)] wp19 (qFF wp19 (.slice sN (n2+1) cN) (autD ps k++[minD d k]) k)):=Kh (sW wp19.heap.size wp19 _ (autD ps k++[minD d k]) k (Nat.le_refl _) (by
   have:=h4.out.in_;rw[List.map_append,c6.out]at this
   exact this) c5.out hk1 hk6 (by rw[List.length_append,yY,<- f0.out];show n2+1<=400;omega))
  refine oneG (i:=7) (by kernel_rfl) rfl (fun K hK=>?_);go_simp
  go_at_call 52
  refine H2.out.mono ?_;rintro e wm20 (⟨b5,rfl,h5⟩|⟨B8,v8,L,T,rfl,c1,H6,H1,c0,b4,h5⟩)
  ·have d0:=Kh b5
   have h2:=Kh (zA h2.out h5 (by simp));have h0:=Kh (zB h0.out h5 (by simp));have h4:=Kh (h4.out.grow h5);have h6:Hid (base<=wm20.heap.size):=Kh (Nat.le_trans h6.out (h5).size);have C:=Kh (zF h0.out);have h7:=Kh (zB h7.out h5 (by simp));refine hK.out _ _ ⟨C.out,fun _=>trivial⟩ ?_;clear hK K b5 h5
   try simp only[Act.put,sPa,sPb,sPc]
   refine zW 8 ⟨C.out,fun _=>trivial⟩ ?_;refine zW 9 ⟨C.out,fun _=>trivial⟩ ?_;refine zW 10 ⟨C.out,fun _=>trivial⟩ ?_;have h3:=h7.out;have f40:=zE h3 0;have f41:=zE h3 1;have f42:=zE h3 2;have a3:=zK h3;obtain⟨v0',v1',v2'⟩:=zM h3;refine oneG (i:=12) (by kernel_rfl) rfl (fun K hK=>?_);go_simp;have g1:=zD (zD (zC wm20 ⟨R,0,none⟩ (.slice none 0 0)) (zC _ ⟨R,1,none⟩ (.slice none 0 0))) (zC _ ⟨R,2,none⟩ (.slice none 0 0));have z1:=heap_setCell_same _ R 2 _ _ (.slice none 0 0) (heap_setCell_same _ R 1 _ _ (.slice none 0 0) (heap_setCell_same wm20 R 0 _ _ (.slice none 0 0) h3));obtain⟨w9,H0⟩:∃ w9,w9=((wm20.setCell ⟨R,0,none⟩ (.slice none 0 0)).setCell ⟨R,1,none⟩ (.slice none 0 0)).setCell ⟨R,2,none⟩ (.slice none 0 0):=⟨_,rfl⟩;rw[<- H0]at g1 z1 ⊢;simp only[Array.setIfInBounds,List.size_toArray,List.length_cons,List.length_nil]at z1;have c8:w0.heap.size<=R:=b3.out;have h2:=Kh (zA h2.out g1 (fun j e=>by have e:R=j:=Oj e;omega));have a7:Q≠R:=fun e=>by have h1:=h0.out;rw[e,h3]at h1;simp at h1
   have h0:=Kh (zB h0.out g1 (fun e=>a7 (Oj e).symm));have C:=Kh (zF h0.out);subst H0;refine hK.out _ _ ⟨C.out,fun _=>trivial⟩ ?_;clear hK K v0' v1' v2' f40 f41 f42
   try simp only[Act.put,sPa,sPb,sPc]
   refine oneG (i:=13) (by kernel_rfl) rfl (fun K hK=>?_);go_simp;refine hK.out _ _ ⟨C.out,fun _=>trivial⟩ ?_;clear hK K
   try simp only[Act.put,sPa,sPb,sPc]
   refine rH (by kernel_rfl) ?_ _;refine NoPanic.normal ?_;exact hover d0.out _ _ _ _ _ _ _ _ _ _ _ R _ h2.out
  ·have d2:=Kh H1;have d1:=Kh c0;have c9:=Kh b4
   have f8:Hid (w0.heap.size<=B8):=Kh (Nat.le_trans h2.out.size c1);obtain⟨sS,sT,cS,cT,f4,f5,rfl,c7⟩:=id H6;obtain⟨LL,a8⟩:∃ n,n=L.length:=⟨_,rfl⟩;obtain⟨TL,a6⟩:∃ n,n=T.length:=⟨_,rfl⟩;rw[<- a8,<- a6]at H6 ⊢;have a0:=Kh H6;have b0:=Kh a8;have a9:=Kh a6;have h2:=Kh (zA h2.out h5 (by simp));have h0:=Kh (zB h0.out h5 (by simp));have h4:=Kh (h4.out.grow h5);have h6:Hid (base<=wm20.heap.size):=Kh (Nat.le_trans h6.out (h5).size);have C:=Kh (zF h0.out);have h7:=Kh (zB h7.out h5 (by simp));refine hK.out _ _ ⟨C.out,fun _=>trivial⟩ ?_;clear hK K H1 c0 b4 h5 c7 H6 a8 a6 c1
   try simp only[Act.put,sPa,sPb,sPc]
   refine zW 8 ⟨C.out,fun _=>trivial⟩ ?_;refine zW 9 ⟨C.out,fun _=>trivial⟩ ?_;refine zW 10 ⟨C.out,fun _=>trivial⟩ ?_;have h3:=h7.out;have f40:=zE h3 0;have f41:=zE h3 1;have f42:=zE h3 2;have a3:=zK h3;obtain⟨v0',v1',v2'⟩:=zM h3;refine oneG (i:=12) (by kernel_rfl) rfl (fun K hK=>?_);go_simp;have g1:=zD (zD (zC wm20 ⟨R,0,none⟩ (.slice sN (n2+1) cN)) (zC _ ⟨R,1,none⟩ (.slice sS LL cS))) (zC _ ⟨R,2,none⟩ (.slice sT TL cT));have z1:=heap_setCell_same _ R 2 _ _ (.slice sT TL cT) (heap_setCell_same _ R 1 _ _ (.slice sS LL cS) (heap_setCell_same wm20 R 0 _ _ (.slice sN (n2+1) cN) h3));obtain⟨w9,H0⟩:∃ w9,w9=((wm20.setCell ⟨R,0,none⟩ (.slice sN (n2+1) cN)).setCell ⟨R,1,none⟩ (.slice sS LL cS)).setCell ⟨R,2,none⟩ (.slice sT TL cT):=⟨_,rfl⟩;rw[<- H0]at g1 z1 ⊢;simp only[Array.setIfInBounds,List.size_toArray,List.length_cons,List.length_nil]at z1;have c8:w0.heap.size<=R:=b3.out;have h2:=Kh (zA h2.out g1 (fun j e=>by have e:R=j:=Oj e;omega));have a7:Q≠R:=fun e=>by have h1:=h0.out;rw[e,h3]at h1;simp at h1
   have h0:=Kh (zB h0.out g1 (fun e=>a7 (Oj e).symm));have C:=Kh (zF h0.out);have h4:=Kh (h4.out.keptO (m:=R) h3 (by decide) (by decide) (by decide) (by decide) g1);have a0:=Kh (a0.out.keptO (m:=R) h3 (by decide) (by decide) g1);have f7:=Kh z1;subst H0;refine hK.out _ _ ⟨C.out,fun _=>trivial⟩ ?_;clear hK K v0' v1' v2' f40 f41 f42
   try simp only[Act.put,sPa,sPb,sPc]
   refine oneG (i:=13) (by kernel_rfl) rfl (fun K hK=>?_);go_simp;refine hK.out _ _ ⟨C.out,fun _=>trivial⟩ ?_;clear hK K
   try simp only[Act.put,sPa,sPb,sPc]
   refine rH (by kernel_rfl) ?_ _;refine NoPanic.normal ?_;exact hok _ _ _ _ _ _ _ _ _ _ _ R _ _ _ _ _ _ _ _ _ _ L T (lp++[(minD d k,.slice fa6 fl6 fc6,.slice na6 nl6 nc6)]) b0.out a9.out (by rw[List.map_append,c6.out];rfl) z1 a0.out h4.out d2.out d1.out c9.out h2.out
end Go.Proofs.Ytjfdomfendbhfaa
