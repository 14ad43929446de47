/- Part 19 of the proof. -/
import Derived.Test.YtjfdomfendbhfaaQh16
import Derived.Test.YtjfdomfendbhfaaQh18
set_option linter.unusedVariables false
set_option linter.unusedSimpArgs false
set_option maxRecDepth 100000
set_option maxHeartbeats 16000000
namespace Go.Proofs.Ytjfdomfendbhfaa
open Go.RowKit
def AnyD (m:DfaV)(n:Nat):Prop:=OrdD m n\/qDS m n\/DefD m n\/True
theorem qAS.r {B tb:Nat}{w:World}{letters most:Nat}{e:Ending}{w':World}(h:qAS B tb w letters most e w'):jT (fun _ _=>True) B tb w letters most e w':=by
 obtain⟨v,m,n,h1,h2,h3,h4,h6,h7⟩:=h;exact⟨v,m,n,h1,h2,h3,h4,trivial,h6,h7⟩
theorem many_any (B tb:Nat)(w:World)(letters most:Nat)(h1:1<=letters)(h2:letters<=2)(hm1:1<=most)(hm:most<=500)(hT:xL B w tb):Calls Try.prog 17 #[.pointer (some ⟨tb,0,none⟩),.int .i64 (letters:Int),.int .i64 (most:Int)] w (jT AnyD B tb w letters 500):=by
 have H9:=hT.lt;have a9:=hT.ge;obtain⟨P,hP⟩:∃P,P=w.heap.size:=⟨_,rfl⟩;have h8:=Kh hP;obtain⟨wA,H0⟩:∃wA,wA=w.alloc (.cells #[.int .i64 0,.int .i64 0,.slice none 0 0,.slice none 0 0] 42):=⟨_,rfl⟩;have h6:=heap_alloc_new w (.cells #[.int .i64 0,.int .i64 0,.slice none 0 0,.slice none 0 0] 42);have h4:=Ga w (.cells #[.int .i64 0,.int .i64 0,.slice none 0 0,.slice none 0 0] 42) none;have H1:=zL w (.cells #[.int .i64 0,.int .i64 0,.slice none 0 0,.slice none 0 0] 42);rw[<-H0]at h6 h4 H1;rw[<-hP]at h6 H1 H9;have H6:=Kh (hT.kept h4 (by simp));have H7:=Kh h6;have a2:=Kh h4;have a1:=Kh H0;clear h6 h4 H0 hT;go_enter Try.func17,Try.ntmps17;go_upto_region 1 with fail;rw[<-a1.out,<-h8.out];clear hP;go_wp2_with fail;refine(wW B tb _ _ (by omega) H6.out).mono ?_;rintro e w1 ⟨r,rfl,a6,H2,H5,h5⟩;replace H2:=H2 (by omega);have a4:=Kh (zB H7.out h5 (by simp;omega));have a3:=Kh (zD (zA (zH w (some tb)) a2.out (by simp)) h5);have h3:=Kh H5;have a5:=h5.size;clear H5 h5 H6 H7
 have fin:∀(R:DfaV->Nat->Prop) (mo:Nat) (e:Ending) (w2:World),(∀m n,R m n->AnyD m n)->mo<=500->jT R B tb w1 letters mo e w2->∃(v:Value) (y0 y1:Int) (y2 y3:Option Addr) (n2 n3 c2 c3:Nat),e=.returned v/\v=.agg #[.int .i64 y0,.int .i64 y1,.slice y2 n2 c2,.slice y3 n3 c3]/\w2.cell? ⟨P,0,none⟩=some (.int .i64 0)/\w2.cell? ⟨P,1,none⟩=some (.int .i64 0)/\w2.cell? ⟨P,2,none⟩=some (.slice none 0 0)/\w2.cell? ⟨P,3,none⟩=some (.slice none 0 0)/\(∀k,w2.frozen? ⟨P,k,none⟩=false)/\jT AnyD B tb w letters 500 (.returned v) ((((w2.setCell ⟨P,0,none⟩ (.int .i64 y0)).setCell ⟨P,1,none⟩ (.int .i64 y1)).setCell ⟨P,2,none⟩ (.slice y2 n2 c2)).setCell ⟨P,3,none⟩ (.slice y3 n3 c3)):=by
  intro R mo e w2 hR a8 h;obtain⟨v,m,n,rfl,⟨o,hs,sf,cf,sn,cn,rfl,ho,hH⟩,H8,a7,hr,a0,H4⟩:=h;have h7:=zB a4.out H4 (by simp;omega);obtain⟨d0,d1,d2,d3⟩:=zF h7;obtain⟨hsR,h9⟩:=wF h7 (.int .i64 m.letters) (.int .i64 m.start) (.slice sf m.final.length cf) (.slice sn m.next.length cn);refine⟨_,_,_,_,_,_,_,_,_,rfl,rfl,d0,d1,d2,d3,fun k=>zE h7 k,_,m,n,rfl,⟨o,hs,sf,cf,sn,cn,rfl,by have:=h8.out;omega,(hH.base (by have:=h8.out;omega)).far h9 h7 (by omega)⟩,H8,by omega,hR m n hr,a0.kept h9 (fun k e=>by have e:P=k:=Oj e;omega),zA (zD a3.out H4) h9 (fun k e=>by have e:P=k:=Oj e;have:=h8.out;omega)⟩
 have h0:=Kh fin;clear fin;by_cases e1:r=1
 ·subst e1
  go_wp2_with fail;refine(mord_any B tb w1 letters most h1 (by omega) hm1 hm h3.out).mono ?_;intro e w2 h;obtain⟨v,y0,y1,y2,y3,n2,n3,q2,q3,rfl,rfl,c0,c1,c2,c3,fz,hD⟩:=h0.out OrdD most e w2 (fun _ _ h=>.inl h) hm h;have f0:=fz 0;have f1:=fz 1;have f2:=fz 2;have f3:=fz 3;have HD:=Kh hD;clear hD fz h;go_wp2;refine bodyPost_ret (v:=.agg #[.int .i64 y0,.int .i64 y1,.slice y2 n2 q2,.slice y3 n3 q3]) (by simp[results,Try.results17,go_sem,c0,c1,c2,c3]) rfl ?_;exact HD.out
 by_cases e2:r=2
 ·subst e2
  rcases Nat.lt_trichotomy most 4 with hm4|hm4|hm4
  ·have q1:(most:Int)<4:=by omega
   have q2:¬(4:Int)<most:=(by omega);have q3:(most:Int)<=4:=by omega
   have H3:min (most:Int) 4=(most:Int):=by omega
   have HC:=Kh (eJ B tb w1 letters most h1 (by omega) hm1 hm h3.out);go_wp2_with fail;refine HC.out.mono ?_;intro e w2 h;obtain⟨v,y0,y1,y2,y3,n2,n3,q2,q3,rfl,rfl,c0,c1,c2,c3,fz,hD⟩:=h0.out qDS most e w2 (fun _ _ h=>.inr (.inl h)) (by omega) h;have f0:=fz 0;have f1:=fz 1;have f2:=fz 2;have f3:=fz 3;have HD:=Kh hD;clear hD fz h;go_wp2;refine bodyPost_ret (v:=.agg #[.int .i64 y0,.int .i64 y1,.slice y2 n2 q2,.slice y3 n3 q3]) (by simp[results,Try.results17,go_sem,c0,c1,c2,c3]) rfl ?_;exact HD.out
  ·subst hm4
   have H3:min ((4:Nat):Int) 4=(4:Int):=by omega
   have HC:Hid (Calls Try.prog 48 #[.pointer (some ⟨tb,0,none⟩),.int .i64 (letters:Int),.int .i64 4] w1 (jT qDS B tb w1 letters 4)):=Kh (eJ B tb w1 letters 4 h1 (by omega) (by omega) (by omega) h3.out);go_wp2_with fail;refine HC.out.mono ?_;intro e w2 h;obtain⟨v,y0,y1,y2,y3,n2,n3,q2,q3,rfl,rfl,c0,c1,c2,c3,fz,hD⟩:=h0.out qDS 4 e w2 (fun _ _ h=>.inr (.inl h)) (by omega) h;have f0:=fz 0;have f1:=fz 1;have f2:=fz 2;have f3:=fz 3;have HD:=Kh hD;clear hD fz h;go_wp2;refine bodyPost_ret (v:=.agg #[.int .i64 y0,.int .i64 y1,.slice y2 n2 q2,.slice y3 n3 q3]) (by simp[results,Try.results17,go_sem,c0,c1,c2,c3]) rfl ?_;exact HD.out
  ·have q1:¬(most:Int)<4:=by omega
   have q3:(4:Int)<most:=(by omega);have q4:(4:Int)<=most:=by omega
   have q5:¬(most:Int)<=4:=by omega
   have H3:min (most:Int) 4=(4:Int):=by omega
   have HC:Hid (Calls Try.prog 48 #[.pointer (some ⟨tb,0,none⟩),.int .i64 (letters:Int),.int .i64 4] w1 (jT qDS B tb w1 letters 4)):=Kh (eJ B tb w1 letters 4 h1 (by omega) (by omega) (by omega) h3.out);go_wp2_with fail;refine HC.out.mono ?_;intro e w2 h;obtain⟨v,y0,y1,y2,y3,n2,n3,q2,q3,rfl,rfl,c0,c1,c2,c3,fz,hD⟩:=h0.out qDS 4 e w2 (fun _ _ h=>.inr (.inl h)) (by omega) h;have f0:=fz 0;have f1:=fz 1;have f2:=fz 2;have f3:=fz 3;have HD:=Kh hD;clear hD fz h;go_wp2;refine bodyPost_ret (v:=.agg #[.int .i64 y0,.int .i64 y1,.slice y2 n2 q2,.slice y3 n3 q3]) (by simp[results,Try.results17,go_sem,c0,c1,c2,c3]) rfl ?_;exact HD.out
 by_cases e3:r=3
 ·subst e3
  go_wp2_with fail;refine(mdef_any B tb w1 letters h1 h2 h3.out).mono ?_;intro e w2 h;obtain⟨v,y0,y1,y2,y3,n2,n3,q2,q3,rfl,rfl,c0,c1,c2,c3,fz,hD⟩:=h0.out DefD 7 e w2 (fun _ _ h=>.inr (.inr (.inl h))) (by omega) h;have f0:=fz 0;have f1:=fz 1;have f2:=fz 2;have f3:=fz 3;have HD:=Kh hD;clear hD fz h;go_wp2;refine bodyPost_ret (v:=.agg #[.int .i64 y0,.int .i64 y1,.slice y2 n2 q2,.slice y3 n3 q3]) (by simp[results,Try.results17,go_sem,c0,c1,c2,c3]) rfl ?_;exact HD.out
 ·go_wp2_with fail
  refine(qEY B tb w1 letters most h1 (by omega) hm1 hm h3.out).mono ?_;intro e w2 h;obtain⟨v,y0,y1,y2,y3,n2,n3,q2,q3,rfl,rfl,c0,c1,c2,c3,fz,hD⟩:=h0.out (fun _ _=>True) most e w2 (fun _ _ _=>.inr (.inr (.inr trivial))) hm h.r;have f0:=fz 0;have f1:=fz 1;have f2:=fz 2;have f3:=fz 3;have HD:=Kh hD;clear hD fz h;go_wp2;refine bodyPost_ret (v:=.agg #[.int .i64 y0,.int .i64 y1,.slice y2 n2 q2,.slice y3 n3 q3]) (by simp[results,Try.results17,go_sem,c0,c1,c2,c3]) rfl ?_;exact HD.out
open Go.Maps
theorem patW_ne {bs:List ByteArray}{k:Int}:patW bs k≠20:=by
 unfold patW
 split
 ·decide
 split
 ·decide
 split
 ·decide
 split
 ·decide
 split<;>decide
theorem qEO {k:Int}:∀ {ps:List (List ByteArray)},vI k ps≠20
 | []=>by rw[vI];decide
 | p::ps=>by
  rw[vI]
  split
  ·exact qEO
  ·exact patW_ne
theorem validD_ne {d:DfaV}:wI d≠20:=by
 unfold wI
 split
 ·decide
 split
 ·decide
 split
 ·decide
 split<;>decide
theorem ofE_ne {d:DfaV}{ps:List (List ByteArray)}:ofE d ps≠20:=by
 unfold ofE
 split
 ·split
  ·decide
  ·exact qEO
 ·exact validD_ne
def Refused (d:DfaV)(ps:List (List ByteArray))(u1 u2:ByteArray)(E:Int):Prop:=E=20/\ofE d ps=0/\∃u v:List Nat,u1=strOfNums (lets u)/\u2=strOfNums (lets v)/\yO d.letters.toNat u/\yO d.letters.toNat v/\u.length<=4000/\v.length<=4000 /\
 (∀i,i<ps.length->acc (xH (ps.getD i []) d.letters) (st0 (xH (ps.getD i []) d.letters)) u=acc (xH (ps.getD i []) d.letters) (st0 (xH (ps.getD i []) d.letters)) v)/\acc d (st0 d) u=true/\acc d (st0 d) v=false
theorem of_cases {w':World}{d:DfaV}{ps:List (List ByteArray)}{v:Value}{u1 u2:ByteArray}{E:Int}(h:OfOut w' d ps v u1 u2 E):(∃(ap:Option Addr) (n cp:Nat) (ac:Option Addr) (m cc:Nat) (r:Int),v=.agg #[.slice ap n cp,.slice ac m cc,.int .i64 r])/\(E≠20\/Refused d ps u1 u2 E):=by
 cases h with
 | bad h=>exact⟨⟨_,_,_,_,_,_,_,rfl⟩,.inl ofE_ne⟩
 | over h ho=>exact⟨⟨_,_,_,_,_,_,_,rfl⟩,.inl (by decide)⟩
 | conf h hu hc u v h1 h2 h3 h4 h5 h6 h7=>exact⟨⟨_,_,_,_,_,_,_,rfl⟩,.inr ⟨rfl,h,u,v,rfl,rfl,h1,h2,h3,h4,h5,h6,h7⟩⟩
 | ok v g l L h hL hl4 hn hg h1 h2 h3 h4 h5 hc h6 =>
  obtain⟨ap,cp,ac,cc,e⟩:=dJ hg;exact⟨⟨_,_,_,_,_,_,_,e⟩,.inl (by decide)⟩
theorem jB {w:World}{m e e':Nat}{cs:Array Value}{q:Nat×Nat}(h:w.heap[m]?=some (.cells cs e q))(hne:e≠e'):∀j,some m=some j->zX w e' j:=fun j ej=>by
 have ej:m=j:=Oj ej
 subst ej
 exact⟨_,_,_,h,hne⟩
theorem dW.growG {B:Nat}{w w':World}{v pv:Value}{L T:List (List Nat)}(h:dW B w v pv L T)(hg:w.grownBy w' none):dW B w' v pv L T:=by
 obtain⟨sS,sN,cS,cN,hs,hn,rfl,h1,h2,h3,h4⟩:=h;exact⟨sS,sN,cS,cN,hs,hn,rfl,zP h1 hg,zP h2 hg,(h3.kept hg (by simp)).mono hg.size,(h4.kept hg (by simp)).mono hg.size⟩
theorem dW.keptO {B m e:Nat}{w w':World}{v pv:Value}{L T:List (List Nat)}{cs:Array Value}{q:Nat×Nat}(h:dW B w v pv L T)(hb:w.heap[m]?=some (.cells cs e q))(h1:34≠e)(h2:e≠3)(hg:w.grownBy w' (some m)):dW B w' v pv L T:=by
 obtain⟨sS,sN,cS,cN,hs,hn,rfl,a1,a2,a3,a4⟩:=h;exact⟨sS,sN,cS,cN,hs,hn,rfl,a1.kept hg (.inr (zQ a1 hb h1)),a2.kept hg (.inr (zQ a2 hb h1)),(a3.kept hg (fun j e=>.inr (jB hb h2 j e))).mono hg.size,(a4.kept hg (fun j e=>.inr (jB hb h2 j e))).mono hg.size⟩
theorem DsUp.keptO {base m e:Nat}{w w':World}{v:Value}{l:List (DfaV×Value×Value)}{cs:Array Value}{q:Nat×Nat}(h:DsUp base w v l)(hb:w.heap[m]?=some (.cells cs e q))(h0:42≠e)(h1:e≠4)(h2:e≠34)(h3:e≠3)(hg:w.grownBy w' (some m)):DsUp base w' v l :=
 ⟨h.own.kept hg (.inr (zQ h.own hb h0)),fun x hx=>(h.ok x hx).kept hg (fun j e=>⟨jB hb h1 j e,jB hb h2 j e,jB hb h3 j e⟩)⟩
theorem gr_reg4 {Q':Exit->Act->World->Prop}{v0 v1 v3 v4 v5 v6 v7 v9 v10 v11 v12 v13 v14 v15 v16 v17 v18 v19 v20 v21 v22 v23 v24 v25 v26 v27 v28 v29 v30 v31 v32 v33 v34 v35 v36 v37 v38 v39 v40 v41 v42 v43 v44 v45 v46 v47 v48 v49 v50 v51 v52 v53 v54 v55 v56 v57 v58 v59 v60 v61 v62 v63 v64 v65 v66 v67 v68 v69 v70 v71 v72 v73 v74 v75 v76 v77 v78 v79 v80 v81 v82 v83 v84 v85 v86 v87 v88 v89 v90 v91 v92 v93 v94 v95 v96 v97 v98 v99 v100 v101 v102 v103 v104 v105 v106 v107 v108 v109 v110 v111 v112 v113 v114 v115 v116 v117 v118 v119 v120 v121 v122 v123 v124:Value}{dd:_}{w0 w:World}{Q base Bd n2 sc k fl fc nl nc:Nat}{sa fa na:Option Addr}{ds:Int}{d:DfaV}{ps:List (List ByteArray)}{lp:List (DfaV×Value×Value)}(hbq:w.heap[Q]?=some (.cells #[.int .i64 (k:Int),.int .i64 ds,.slice fa fl fc,.slice na nl nc] 42 (0,0)))(hgw:w0.grownBy w none)(hbase:base<=w.heap.size)(hb0:w0.heap.size<=base)(hQb:Q<base)(hup:DsUp base w (.slice sa n2 sc) lp)(hlp:lp.map (·.1)=autD ps (k:Int))(hll:lp.length=n2)(hn:n2=ps.length)(hn3:n2<=300)(hmin:∀W:World,w0.grownBy W none->Calls Try.prog 54 #[.agg #[.int .i64 (k:Int),.int .i64 ds,.slice fa fl fc,.slice na nl nc]] W (qDT W (minD d k)))(hokt:OkT (autD ps (k:Int)++[minD d k]) k)(hk1:1<=k)(hk6:k<=6)(hover:Over (autD ps (k:Int)++[minD d k]) k->∀(z30 z31 z32 z33 z34 z35 z36 z37 z38 z39 z40:Value) (R:Nat) (w':World),w0.grownBy w' none->Q' .normal ⟨(v0::v1::(Value.pointer (some ⟨Q,0,none⟩))::v3::v4::v5::v6::(Value.int .i64 3)::(Value.slice sa n2 sc)::(Value.pointer (some ⟨R,0,none⟩))::v10::v11::v12::v13::v14::v15::v16::v17::v18::v19::v20::v21::v22::v23::v24::v25::v26::v27::v28::v29::z30::z31::z32::z33::z34::z35::z36::z37::z38::z39::z40::v41::v42::v43::v44::v45::v46::v47::v48::v49::v50::v51::v52::v53::v54::v55::v56::v57::v58::v59::v60::v61::v62::v63::v64::v65::v66::v67::v68::v69::v70::v71::v72::v73::v74::v75::v76::v77::v78::v79::v80::v81::v82::v83::v84::v85::v86::v87::v88::v89::v90::v91::v92::v93::v94::v95::v96::v97::v98::v99::v100::v101::v102::v103::v104::v105::v106::v107::v108::v109::v110::v111::v112::v113::v114::v115::v116::v117::v118::v119::v120::v121::v122::v123::v124::[]).toArray,dd⟩ w')(hok:∀(z30 z31 z32 z33 z34 z35 z36 z37 z38 z39 z40:Value) (R:Nat) (w':World) (B8:Nat) (sN sS sT:Option Addr) (cN cS cT LL TL:Nat) (L T:List (List Nat)) (l:List (DfaV×Value×Value)),LL=L.length->TL=T.length->l.map (·.1)=autD ps (k:Int)++[minD d k]->w'.heap[R]?=some (.cells #[.slice sN (n2+1) cN,.slice sS LL cS,.slice sT TL cT] 88 (0,0))->dW B8 w' (.agg #[.slice sN (n2+1) cN,.slice sS LL cS,.slice sT TL cT]) (.slice sN (n2+1) cN) L T->DsUp base w' (.slice sN (n2+1) cN) l->BfsD (nxtT (autD ps (k:Int)++[minD d k])) k (st0T (autD ps (k:Int)++[minD d k])) L->L.length<=4000->TOk (autD ps (k:Int)++[minD d k]) k L T L.length->w0.grownBy w' none->Q' .normal ⟨(v0::v1::(Value.pointer (some ⟨Q,0,none⟩))::v3::v4::v5::v6::(Value.int .i64 0)::(Value.slice sa n2 sc)::(Value.pointer (some ⟨R,0,none⟩))::v10::v11::v12::v13::v14::v15::v16::v17::v18::v19::v20::v21::v22::v23::v24::v25::v26::v27::v28::v29::z30::z31::z32::z33::z34::z35::z36::z37::z38::z39::z40::v41::v42::v43::v44::v45::v46::v47::v48::v49::v50::v51::v52::v53::v54::v55::v56::v57::v58::v59::v60::v61::v62::v63::v64::v65::v66::v67::v68::v69::v70::v71::v72::v73::v74::v75::v76::v77::v78::v79::v80::v81::v82::v83::v84::v85::v86::v87::v88::v89::v90::v91::v92::v93::v94::v95::v96::v97::v98::v99::v100::v101::v102::v103::v104::v105::v106::v107::v108::v109::v110::v111::v112::v113::v114::v115::v116::v117::v118::v119::v120::v121::v122::v123::v124::[]).toArray,dd⟩ w'):Code.wp Try.prog (reg Try.f62 4) Q' ⟨(v0::v1::(Value.pointer (some ⟨Q,0,none⟩))::v3::v4::v5::v6::v7::(Value.slice sa n2 sc)::v9::v10::v11::v12::v13::v14::v15::v16::v17::v18::v19::v20::v21::v22::v23::v24::v25::v26::v27::v28::v29::v30::v31::v32::v33::v34::v35::v36::v37::v38::v39::v40::v41::v42::v43::v44::v45::v46::v47::v48::v49::v50::v51::v52::v53::v54::v55::v56::v57::v58::v59::v60::v61::v62::v63::v64::v65::v66::v67::v68::v69::v70::v71::v72::v73::v74::v75::v76::v77::v78::v79::v80::v81::v82::v83::v84::v85::v86::v87::v88::v89::v90::v91::v92::v93::v94::v95::v96::v97::v98::v99::v100::v101::v102::v103::v104::v105::v106::v107::v108::v109::v110::v111::v112::v113::v114::v115::v116::v117::v118::v119::v120::v121::v122::v123::v124::[]).toArray,dd⟩ w:=by
 conv=>arg 2;whnf
 obtain⟨wq,a3⟩:∃wq,wq=w.drew:=⟨_,rfl⟩;have H6:w.grownBy wq none:=by rw[a3];exact zO w none
 have c6:=Kh a3;have h2:=Kh (zA hgw H6 (by simp));have h0:=Kh (zB hbq H6 (by simp));have h3:=Kh (hup.grow H6);have h4:Hid (base<=wq.heap.size):=Kh (Nat.le_trans hbase H6.size);have b3:=Kh hlp;have b5:=Kh hll;have c2:=Kh hn;have b2:=Kh hmin;have H9:=Kh hokt;have C:=Kh (zF h0.out);clear a3 H6 hbq hgw hbase hup hlp hll hn hmin hokt;refine wp_region_noPanic ?_;refine yY (G:=uI 100 (fun W=>W.cell? ⟨Q,0,none⟩=some (.int .i64 (k:Int))/\W.cell? ⟨Q,1,none⟩=some (.int .i64 ds)/\W.cell? ⟨Q,2,none⟩=some (.slice fa fl fc)/\W.cell? ⟨Q,3,none⟩=some (.slice na nl nc)) (fun _=>True)) (by kernel_rfl) ?_;rw[<-c6.out];refine zV 0 ⟨C.out,fun _=>trivial⟩ ?_;refine zV 1 ⟨C.out,fun _=>trivial⟩ ?_;refine zV 5 ⟨C.out,fun _=>trivial⟩ ?_;refine zV 6 ⟨C.out,fun _=>trivial⟩ ?_;refine twoG (i:=2) (j:=11) (by kernel_rfl) rfl rfl (fun K hK=>?_) (fun K hK=>?_);rotate_left;go_simp;obtain⟨R,hR⟩:∃R,R=wq.heap.size:=⟨_,rfl⟩;have H1:Hid (w0.heap.size<=R):=Kh (by rw[hR];exact h2.out.size);have hg:=Ga wq (.cells #[.slice none 0 0,.slice none 0 0,.slice none 0 0] 88) none;have hb:=heap_alloc_new wq (.cells #[.slice none 0 0,.slice none 0 0,.slice none 0 0] 88);obtain⟨wq,hq⟩:∃w',w'=wq.alloc (.cells #[.slice none 0 0,.slice none 0 0,.slice none 0 0] 88):=⟨_,rfl⟩;rw[<-hq]at hg hb⊢;rw[<-hR]at hb⊢;have h2:=Kh (zA h2.out hg (by simp));have h0:=Kh (zB h0.out hg (by simp));have h3:=Kh (h3.out.grow hg);have h4:Hid (base<=wq.heap.size):=Kh (Nat.le_trans h4.out (hg).size);have C:=Kh (zF h0.out);have h5:=Kh hb;refine hK.out _ _ ⟨C.out,fun _=>trivial⟩ ?_;clear hK K hg hb hq hR
 try simp only[Act.put,sPa,sPb,sPc]
 refine oneG (i:=2) (by kernel_rfl) rfl (fun K hK=>?_)
 all_goals
  go_simp
  go_at_call 54
  refine(b2.out wq h2.out).mono ?_;rintro e wq ⟨v6,rfl,H5,hg⟩;obtain⟨f6,x6,rfl,a4⟩:=H5.t;obtain⟨fa6,fl6,fc6,na6,nl6,nc6,rfl,rfl⟩:=a4.shapes;have H0:=Kh a4;have h2:=Kh (zA h2.out hg (by simp));have h0:=Kh (zB h0.out hg (by simp));have h3:=Kh (h3.out.grow hg);have h4:Hid (base<=wq.heap.size):=Kh (Nat.le_trans h4.out (hg).size);have C:=Kh (zF h0.out)
  try have h5:=Kh (zB h5.out hg (by simp))
  obtain⟨ml,a6⟩:∃x,x=(minD d k).letters:=⟨_,rfl⟩;obtain⟨ms,a5⟩:∃x,x=(minD d k).start:=⟨_,rfl⟩;rw[<-a6,<-a5];have d0:=Kh a6;have c9:=Kh a5;refine hK.out _ _ ⟨C.out,fun _=>trivial⟩ ?_;clear hK K H5 hg a4 a6 a5
  try simp only[Act.put,sPa,sPb,sPc]
 refine oneG (i:=3) (by kernel_rfl) rfl (fun K hK=>?_);rotate_left;refine twoG (i:=3) (j:=11) (by kernel_rfl) rfl rfl (fun K hK=>?_) (fun K hK=>?_);rotate_left;go_simp;obtain⟨R,hR⟩:∃R,R=wq.heap.size:=⟨_,rfl⟩;have H1:Hid (w0.heap.size<=R):=Kh (by rw[hR];exact h2.out.size);have hg:=Ga wq (.cells #[.slice none 0 0,.slice none 0 0,.slice none 0 0] 88) none;have hb:=heap_alloc_new wq (.cells #[.slice none 0 0,.slice none 0 0,.slice none 0 0] 88);obtain⟨wq,hq⟩:∃w',w'=wq.alloc (.cells #[.slice none 0 0,.slice none 0 0,.slice none 0 0] 88):=⟨_,rfl⟩;rw[<-hq]at hg hb⊢;rw[<-hR]at hb⊢;have h2:=Kh (zA h2.out hg (by simp));have h0:=Kh (zB h0.out hg (by simp));have h3:=Kh (h3.out.grow hg);have h4:Hid (base<=wq.heap.size):=Kh (Nat.le_trans h4.out (hg).size);have C:=Kh (zF h0.out);have H0:=Kh (H0.out.grow hg);have h5:=Kh hb;refine hK.out _ _ ⟨C.out,fun _=>trivial⟩ ?_;clear hK K hg hb hq hR
 try simp only[Act.put,sPa,sPb,sPc]
 refine oneG (i:=3) (by kernel_rfl) rfl (fun K hK=>?_)
 all_goals
  go_simp;have h7:=heap_alloc_new wq (.cells #[.int .i64 ml,.int .i64 ms,.slice fa6 fl6 fc6,.slice na6 nl6 nc6] 42);have hg:=Ga wq (.cells #[.int .i64 ml,.int .i64 ms,.slice fa6 fl6 fc6,.slice na6 nl6 nc6] 42) none;obtain⟨R7,b8⟩:∃R,R=wq.heap.size:=⟨_,rfl⟩;obtain⟨wq,hq⟩:∃w',w'=wq.alloc (.cells #[.int .i64 ml,.int .i64 ms,.slice fa6 fl6 fc6,.slice na6 nl6 nc6] 42):=⟨_,rfl⟩;rw[<-hq]at h7 hg⊢;rw[<-b8]at h7⊢;have H0:=Kh (H0.out.grow hg);have a1:=Kh h7;have h2:=Kh (zA h2.out hg (by simp));have h0:=Kh (zB h0.out hg (by simp));have h3:=Kh (h3.out.grow hg);have h4:Hid (base<=wq.heap.size):=Kh (Nat.le_trans h4.out (hg).size);have C:=Kh (zF h0.out)
  try have h5:=Kh (zB h5.out hg (by simp))
  refine hK.out _ _ ⟨C.out,fun _=>trivial⟩ ?_;clear hK K hq b8 hg h7
  try simp only[Act.put,sPa,sPb,sPc]
 all_goals
  have h9:=h3.out.own;rw[b5.out]at h9;have a2:=h4.out;have h7:=a1.out
 refine oneG (i:=4) (by kernel_rfl) rfl (fun K hK=>?_);rotate_left;refine oneG (i:=4) (by kernel_rfl) rfl (fun K hK=>?_);rotate_left;refine twoG (i:=4) (j:=11) (by kernel_rfl) rfl rfl (fun K hK=>?_) (fun K hK=>?_);rotate_left;go_simp;obtain⟨R,hR⟩:∃R,R=wq.heap.size:=⟨_,rfl⟩;have H1:Hid (w0.heap.size<=R):=Kh (by rw[hR];exact h2.out.size);have hg:=Ga wq (.cells #[.slice none 0 0,.slice none 0 0,.slice none 0 0] 88) none;have hb:=heap_alloc_new wq (.cells #[.slice none 0 0,.slice none 0 0,.slice none 0 0] 88);obtain⟨wq,hq⟩:∃w',w'=wq.alloc (.cells #[.slice none 0 0,.slice none 0 0,.slice none 0 0] 88):=⟨_,rfl⟩;rw[<-hq]at hg hb⊢;rw[<-hR]at hb⊢;have h2:=Kh (zA h2.out hg (by simp));have h0:=Kh (zB h0.out hg (by simp));have h3:=Kh (h3.out.grow hg);have h4:Hid (base<=wq.heap.size):=Kh (Nat.le_trans h4.out (hg).size);have C:=Kh (zF h0.out);have H0:=Kh (H0.out.grow hg);have a1:=Kh (zB a1.out hg (by simp));have h5:=Kh hb;refine hK.out _ _ ⟨C.out,fun _=>trivial⟩ ?_;clear hK K hg hb hq hR
 try simp only[Act.put,sPa,sPb,sPc]
 have h9:=h3.out.own;rw[b5.out]at h9;have a2:=h4.out;have h7:=a1.out;refine oneG (i:=4) (by kernel_rfl) rfl (fun K hK=>?_)
 all_goals
  refine tY rfl (.tmp 31) (.tmp 34) 84 rfl jK base (.slice sa n2 sc) n2 (kI lp) rfl h9 [.int .i64 ml,.int .i64 ms,.slice fa6 fl6 fc6,.slice na6 nl6 nc6] R7 rfl (0,0) rfl h7 ?z1 ?z2 ?z3 a2 ?_
  case z1=>intro v hv;simp only[List.mem_cons,List.not_mem_nil,or_false]at hv;rcases hv with rfl|rfl|rfl|rfl<;>rfl
  case z2=>unfold maxLen;omega
  case z3=>show (n2+1)*64<=140737488355328;omega
  have c1:Hid (∀j,(Value.slice sa n2 sc).ownBlock=some j->base<=j/\j<wq.heap.size):=Kh (fun j e=>h9.lt j e);intro sN cN wq H4 H2 c4;have h3:=Kh (h3.out.push (v':=.slice sN (n2+1) cN) (x:=(minD d k,.slice fa6 fl6 fc6,.slice na6 nl6 nc6)) H0.out (by rw[b5.out];unfold dval;rw[<-d0.out,<-c9.out];exact H4) H2);have h0:=Kh (zB h0.out H2 (fun e=>by have:=(c1.out Q e).1;omega));have h2:=Kh (zA h2.out H2 (fun j e=>by have:=(c1.out j e).1;omega));have h4:Hid (base<=wq.heap.size):=Kh (Nat.le_trans h4.out H2.size);have C:=Kh (zF h0.out)
  try have h5:=Kh (zB h5.out H2 (fun e=>zQ h9 h5.out (by decide) e))
  refine hK.out _ _ ⟨C.out,fun _=>trivial⟩ ?_;clear hK K H4 H2 c4 h9 a2 h7
  try simp only[Act.put,sPa,sPb,sPc]
 all_goals
  have h8:Hid (Calls Try.prog 52 #[.slice sN (n2+1) cN,.int .i64 (k:Int)] wq (qJL wq (.slice sN (n2+1) cN) (autD ps k++[minD d k]) k)):=Kh (nV wq.heap.size wq _ (autD ps k++[minD d k]) k (Nat.le_refl _) (by
   have:=h3.out.in_;rw[List.map_append,b3.out]at this
   exact this) H9.out hk1 hk6 (by rw[List.length_append,xG,<-c2.out];show n2+1<=400;omega))
 refine oneG (i:=7) (by kernel_rfl) rfl (fun K hK=>?_);rotate_left;refine oneG (i:=7) (by kernel_rfl) rfl (fun K hK=>?_);rotate_left;refine oneG (i:=7) (by kernel_rfl) rfl (fun K hK=>?_);rotate_left;refine twoG (i:=7) (j:=11) (by kernel_rfl) rfl rfl (fun K hK=>?_) (fun K hK=>?_);rotate_left;go_simp;obtain⟨R,hR⟩:∃R,R=wq.heap.size:=⟨_,rfl⟩;have H1:Hid (w0.heap.size<=R):=Kh (by rw[hR];exact h2.out.size);have hg:=Ga wq (.cells #[.slice none 0 0,.slice none 0 0,.slice none 0 0] 88) none;have hb:=heap_alloc_new wq (.cells #[.slice none 0 0,.slice none 0 0,.slice none 0 0] 88);obtain⟨wq,hq⟩:∃w',w'=wq.alloc (.cells #[.slice none 0 0,.slice none 0 0,.slice none 0 0] 88):=⟨_,rfl⟩;rw[<-hq]at hg hb⊢;rw[<-hR]at hb⊢;have h2:=Kh (zA h2.out hg (by simp));have h0:=Kh (zB h0.out hg (by simp));have h3:=Kh (h3.out.grow hg);have h4:Hid (base<=wq.heap.size):=Kh (Nat.le_trans h4.out (hg).size);have C:=Kh (zF h0.out);have h5:=Kh hb;refine hK.out _ _ ⟨C.out,fun _=>trivial⟩ ?_;clear hK K hg hb hq hR
 try simp only[Act.put,sPa,sPb,sPc]
 have h8:Hid (Calls Try.prog 52 #[.slice sN (n2+1) cN,.int .i64 (k:Int)] wq (qJL wq (.slice sN (n2+1) cN) (autD ps k++[minD d k]) k)):=Kh (nV wq.heap.size wq _ (autD ps k++[minD d k]) k (Nat.le_refl _) (by
  have:=h3.out.in_;rw[List.map_append,b3.out]at this
  exact this) H9.out hk1 hk6 (by rw[List.length_append,xG,<-c2.out];show n2+1<=400;omega))
 refine oneG (i:=7) (by kernel_rfl) rfl (fun K hK=>?_)
 all_goals
  go_simp
  go_at_call 52
  refine h8.out.mono ?_;rintro e wq (⟨b7,rfl,hg⟩|⟨B8,v8,L,T,rfl,c0,a0,H7,b9,b6,hg⟩)
  ·have c8:=Kh b7
   have h2:=Kh (zA h2.out hg (by simp));have h0:=Kh (zB h0.out hg (by simp));have h3:=Kh (h3.out.grow hg);have h4:Hid (base<=wq.heap.size):=Kh (Nat.le_trans h4.out (hg).size);have C:=Kh (zF h0.out)
   try have h5:=Kh (zB h5.out hg (by simp))
   refine hK.out _ _ ⟨C.out,fun _=>trivial⟩ ?_;clear hK K b7 hg
   try simp only[Act.put,sPa,sPb,sPc]
   refine zV 8 ⟨C.out,fun _=>trivial⟩ ?_;refine zV 9 ⟨C.out,fun _=>trivial⟩ ?_;refine zV 10 ⟨C.out,fun _=>trivial⟩ ?_
   first
   | have h6:=h5.out
   |
    refine oneG (i:=11) (by kernel_rfl) rfl (fun K hK=>?_);go_simp;obtain⟨R,hR⟩:∃R,R=wq.heap.size:=⟨_,rfl⟩;have H1:Hid (w0.heap.size<=R):=Kh (by rw[hR];exact h2.out.size);have hg:=Ga wq (.cells #[.slice none 0 0,.slice none 0 0,.slice none 0 0] 88) none;have hb:=heap_alloc_new wq (.cells #[.slice none 0 0,.slice none 0 0,.slice none 0 0] 88);obtain⟨wq,hq⟩:∃w',w'=wq.alloc (.cells #[.slice none 0 0,.slice none 0 0,.slice none 0 0] 88):=⟨_,rfl⟩;rw[<-hq]at hg hb⊢;rw[<-hR]at hb⊢;have h2:=Kh (zA h2.out hg (by simp));have h0:=Kh (zB h0.out hg (by simp));have h3:=Kh (h3.out.grow hg);have h4:Hid (base<=wq.heap.size):=Kh (Nat.le_trans h4.out (hg).size);have C:=Kh (zF h0.out);have h5:=Kh hb;refine hK.out _ _ ⟨C.out,fun _=>trivial⟩ ?_;clear hK K hg hb hq hR
    try simp only[Act.put,sPa,sPb,sPc]
   have h6:=h5.out;obtain⟨f40,f41,f42,a7,v0',v1',v2'⟩:=tJ h6;refine oneG (i:=12) (by kernel_rfl) rfl (fun K hK=>?_);go_simp;obtain⟨w9,H3,g1,z1,_,_,_⟩:=rU h6 (.slice none 0 0) (.slice none 0 0) (.slice none 0 0);rw[<-H3];have c5:w0.heap.size<=R:=H1.out;have h2:=Kh (zA h2.out g1 (fun j e=>by have e:R=j:=Oj e;omega));have a9:Q≠R:=fun e=>by have h1:=h0.out;rw[e,h6]at h1;simp at h1
   have h0:=Kh (zB h0.out g1 (fun e=>a9 (Oj e).symm));have C:=Kh (zF h0.out);subst H3;refine hK.out _ _ ⟨C.out,fun _=>trivial⟩ ?_;clear hK K v0' v1' v2' f40 f41 f42
   try simp only[Act.put,sPa,sPb,sPc]
   refine oneG (i:=13) (by kernel_rfl) rfl (fun K hK=>?_);go_simp;refine hK.out _ _ ⟨C.out,fun _=>trivial⟩ ?_;clear hK K
   try simp only[Act.put,sPa,sPb,sPc]
   refine rP (by kernel_rfl) ?_ _;refine NoPanic.normal ?_;exact hover c8.out _ _ _ _ _ _ _ _ _ _ _ R _ h2.out
  ·have d2:=Kh H7;have d1:=Kh b9;have c7:=Kh b6
   have d6:Hid (w0.heap.size<=B8):=Kh (Nat.le_trans h2.out.size c0);obtain⟨sS,sT,cS,cT,d3,d4,rfl,c3⟩:=id a0;obtain⟨LL,b0⟩:∃n,n=L.length:=⟨_,rfl⟩;obtain⟨TL,a8⟩:∃n,n=T.length:=⟨_,rfl⟩;rw[<-b0,<-a8]at a0⊢;have H8:=Kh a0;have b4:=Kh b0;have b1:=Kh a8;have h2:=Kh (zA h2.out hg (by simp));have h0:=Kh (zB h0.out hg (by simp));have h3:=Kh (h3.out.grow hg);have h4:Hid (base<=wq.heap.size):=Kh (Nat.le_trans h4.out (hg).size);have C:=Kh (zF h0.out)
   try have h5:=Kh (zB h5.out hg (by simp))
   refine hK.out _ _ ⟨C.out,fun _=>trivial⟩ ?_;clear hK K H7 b9 b6 hg c3 a0 b0 a8 c0
   try simp only[Act.put,sPa,sPb,sPc]
   refine zV 8 ⟨C.out,fun _=>trivial⟩ ?_;refine zV 9 ⟨C.out,fun _=>trivial⟩ ?_;refine zV 10 ⟨C.out,fun _=>trivial⟩ ?_
   first
   | have h6:=h5.out
   |
    refine oneG (i:=11) (by kernel_rfl) rfl (fun K hK=>?_);go_simp;obtain⟨R,hR⟩:∃R,R=wq.heap.size:=⟨_,rfl⟩;have H1:Hid (w0.heap.size<=R):=Kh (by rw[hR];exact h2.out.size);have hg:=Ga wq (.cells #[.slice none 0 0,.slice none 0 0,.slice none 0 0] 88) none;have hb:=heap_alloc_new wq (.cells #[.slice none 0 0,.slice none 0 0,.slice none 0 0] 88);obtain⟨wq,hq⟩:∃w',w'=wq.alloc (.cells #[.slice none 0 0,.slice none 0 0,.slice none 0 0] 88):=⟨_,rfl⟩;rw[<-hq]at hg hb⊢;rw[<-hR]at hb⊢;have h2:=Kh (zA h2.out hg (by simp));have h0:=Kh (zB h0.out hg (by simp));have h3:=Kh (h3.out.grow hg);have h4:Hid (base<=wq.heap.size):=Kh (Nat.le_trans h4.out (hg).size);have C:=Kh (zF h0.out);have H8:=Kh (H8.out.growG hg);have h5:=Kh hb;refine hK.out _ _ ⟨C.out,fun _=>trivial⟩ ?_;clear hK K hg hb hq hR
    try simp only[Act.put,sPa,sPb,sPc]
   have h6:=h5.out;obtain⟨f40,f41,f42,a7,v0',v1',v2'⟩:=tJ h6;refine oneG (i:=12) (by kernel_rfl) rfl (fun K hK=>?_);go_simp;obtain⟨w9,H3,g1,z1,_,_,_⟩:=rU h6 (.slice sN (n2+1) cN) (.slice sS LL cS) (.slice sT TL cT);rw[<-H3];have c5:w0.heap.size<=R:=H1.out;have h2:=Kh (zA h2.out g1 (fun j e=>by have e:R=j:=Oj e;omega));have a9:Q≠R:=fun e=>by have h1:=h0.out;rw[e,h6]at h1;simp at h1
   have h0:=Kh (zB h0.out g1 (fun e=>a9 (Oj e).symm));have C:=Kh (zF h0.out);have h3:=Kh (h3.out.keptO (m:=R) h6 (by decide) (by decide) (by decide) (by decide) g1);have H8:=Kh (H8.out.keptO (m:=R) h6 (by decide) (by decide) g1);have d5:=Kh z1;subst H3;refine hK.out _ _ ⟨C.out,fun _=>trivial⟩ ?_;clear hK K v0' v1' v2' f40 f41 f42
   try simp only[Act.put,sPa,sPb,sPc]
   refine oneG (i:=13) (by kernel_rfl) rfl (fun K hK=>?_);go_simp;refine hK.out _ _ ⟨C.out,fun _=>trivial⟩ ?_;clear hK K
   try simp only[Act.put,sPa,sPb,sPc]
   refine rP (by kernel_rfl) ?_ _;refine NoPanic.normal ?_;exact hok _ _ _ _ _ _ _ _ _ _ _ R _ _ _ _ _ _ _ _ _ _ L T (lp++[(minD d k,.slice fa6 fl6 fc6,.slice na6 nl6 nc6)]) b4.out b1.out (by rw[List.map_append,b3.out];rfl) z1 H8.out h3.out d2.out d1.out c7.out h2.out
def gN (m:List Bool):List Nat:=m.map fun b=>if b=true then 49 else 48
def gT (m:List Bool):ByteArray:=txtT (gN m)
theorem gN_length (m:List Bool):(gN m).length=m.length:=by simp[gN]
theorem qJR (m:List Bool):∀x∈gN m,x<256:=by
 intro x hx;simp only[gN,List.mem_map]at hx;obtain⟨b,_,rfl⟩:=hx
 split<;>omega
theorem qIY:∀ {m n:List Bool},gN m=gN n->m=n
 | [],[],_=>rfl
 | [],y::n,h=>by simp[gN]at h
 | x::m,[],h=>by simp[gN]at h
 | x::m,y::n,h=>by
  simp only[gN,List.map_cons,List.cons.injEq]at h
  have h2:m=n:=qIY (by simpa [gN] using h.2)
  have h1:=h.1
  cases x<;>cases y<;>simp_all
theorem qHG (m:List Bool):(gT m).size=m.length:=by rw[gT,pR,gN_length]
theorem gT_snoc (m:List Bool)(b:Bool):gT (m++[b])=gT m++txtT [if b=true then 49 else 48]:=by
 rw[gT,gN,List.map_append,fE];rfl
theorem key_gT {n:Nat}(h:n<=400):KeyK 129 9 (fun m:List Bool=>m.length=n) (fun m=>.string (gT m)) where
 key:=lA
 und:=pA
 of:=fun a ha=>by rw[Go.WideMaps.keyOf_string_mk nP (by rw[qHG,ha];unfold maxLen;omega)];rfl
 inj:=fun a b ha hb e=>qIY (qDU (qJR a) (qJR b) (by simpa [gT] using e))
def numS (l:List (List Bool))(m:List Bool):Option Nat:=if m∈l then some (l.idxOf m) else none
theorem numS_of_mem {l:List (List Bool)}{m:List Bool}(h:m∈l):numS l m=some (l.idxOf m):=if_pos h
theorem numS_not {l:List (List Bool)}{m:List Bool}(h:m ∉ l):numS l m=none:=if_neg h
theorem numS_snoc {l:List (List Bool)}{c:List Bool}(h:c ∉ l):(fun q=>if q=c then some l.length else numS l q)=numS (l++[c]):=by
 funext q;unfold numS;by_cases e:q=c
 ·subst e
  rw[if_pos rfl,if_pos (by simp),List.idxOf_append,if_neg h];simp
 ·rw[if_neg e]
  by_cases hq:q∈l
  ·rw[if_pos hq,if_pos (List.mem_append_left _ hq),List.idxOf_append,if_pos hq]
  ·rw[if_neg hq,if_neg (fun h=>by
    rcases List.mem_append.1 h with h|h
    ·exact hq h
    ·simp at h;exact e h)]
theorem EMem.put {X:Nat->Prop}{w:World}{rs:List RowS}(h:EMem X w rs){j g n cap b e i:Nat}{xs:List Value}(hr:rs[j]?=some ⟨b,e,.slice (some ⟨g,0,none⟩) n cap,n,xs,1⟩)(hi:i<n)(u:Value):EMem X (w.setCell ⟨g,i,none⟩ u) (rs.set j ⟨b,e,.slice (some ⟨g,0,none⟩) n cap,n,xs.set i u,1⟩):=by
 have h1:=List.mem_of_getElem? hr;have ho:=h.own _ h1;simp only at ho;have hg:=zC w ⟨g,i,none⟩ u;obtain⟨h4,h2⟩:=List.getElem?_eq_some_iff.1 hr;have h3:=List.pairwise_iff_getElem.1 h.apart;refine⟨fun r hr'=>?_,?_,fun r hr' k hk=>?_,fun k hk=>Nat.lt_of_lt_of_le (h.lt k hk) hg.size⟩
 ·obtain⟨q,hq,rfl⟩:=List.getElem_of_mem hr'
  rw[List.getElem_set];have h0:q<rs.length:=by simpa using hq
  split
  ·exact qBR ho hi u
  ·rename_i hne
   refine(h.own _ (List.getElem_mem h0)).kept hg (.inr (fun e1=>?_));rcases Nat.lt_or_gt_of_ne hne with hlt|hlt
   ·exact h3 j q h4 h0 hlt g (by rw[h2];rfl) e1
   ·exact h3 q j h0 h4 hlt g e1 (by rw[h2];rfl)
 ·rw[List.pairwise_iff_getElem]
  intro p q hp hq h5;have h6:p<rs.length:=by simpa using hp
  have h0:q<rs.length:=by simpa using hq
  have:=h3 p q h6 h0 h5;rw[List.getElem_set,List.getElem_set]
  split<;>split
  ·omega
  ·rename_i e1 e2;subst e1;rw[h2]at this;exact this
  ·rename_i e1 e2;subst e2;rw[h2]at this;exact this
  ·exact this
 ·rcases List.mem_or_eq_of_mem_set hr' with hr'|rfl
  ·exact h.offX r hr' k hk
  ·exact h.offX _ h1 k hk
structure GrS (w0:World)(mb np:Nat)(M:Nat->List Bool)(A:Nat->Bool)(s t:Nat)(sa ya na:Option Addr)(sc yc nc m:Nat)(svs:List Value)(sets:List (List Bool))(ys ns:List Bool)(w:World):Prop where
 mem:EMem (fun _=>False) w (⟨w0.heap.size,39,.slice sa m sc,m,svs,1⟩::⟨w0.heap.size,4,.slice ya m yc,m,bls ys,1⟩::⟨w0.heap.size,4,.slice na m nc,m,bls ns,1⟩::[])
 map:∃u c,u<=t/\MapK 9 (fun m:List Bool=>m.length=np) (fun m=>.string (gT m)) w mb u c (numS sets)
 grp:GrpI M A s t sets ys ns
 len:m=sets.length
 gr:w0.grownBy w none
 mlo:w0.heap.size<=mb
section
variable {w0 w w':World} {mb np s t:Nat} {M:Nat->List Bool} {A:Nat->Bool} {sa ya na:Option Addr} {sc yc nc m:Nat} {svs:List Value} {sets:List (List Bool)} {ys ns:List Bool}
theorem GrS.grow (h:GrS w0 mb np M A s t sa ya na sc yc nc m svs sets ys ns w)(hg:w.grownBy w' none):GrS w0 mb np M A s t sa ya na sc yc nc m svs sets ys ns w':=by
 obtain⟨u,c,hu,hm⟩:=h.map;exact⟨h.mem.grow hg,⟨u,c,hu,hm.kept hg (by simp)⟩,h.grp,h.len,zA h.gr hg (by simp),h.mlo⟩
theorem GrS.yes (h:GrS w0 mb np M A s t sa ya na sc yc nc m svs sets ys ns w):w.ownsRow w0.heap.size 4 1 (.slice ya m yc) m (bls ys):=h.mem.own ⟨w0.heap.size,4,.slice ya m yc,m,bls ys,1⟩ (by simp)
theorem GrS.no (h:GrS w0 mb np M A s t sa ya na sc yc nc m svs sets ys ns w):w.ownsRow w0.heap.size 4 1 (.slice na m nc) m (bls ns):=h.mem.own ⟨w0.heap.size,4,.slice na m nc,m,bls ns,1⟩ (by simp)
theorem GrS.rows (h:GrS w0 mb np M A s t sa ya na sc yc nc m svs sets ys ns w):w.ownsRow w0.heap.size 39 1 (.slice sa m sc) m svs:=h.mem.own ⟨w0.heap.size,39,.slice sa m sc,m,svs,1⟩ (by simp)
theorem GrS.put {yb nb q:Nat}(h:GrS w0 mb np M A s (s+1) sa (some ⟨yb,0,none⟩) (some ⟨nb,0,none⟩) sc yc nc m svs sets ys ns w)(hq:q<m)(hm:sets.getD q []=M s){W:World}(hW:W=(w.setCell ⟨yb,q,none⟩ (.bool (ys.getD q false || A s))).setCell ⟨nb,q,none⟩ (.bool (ns.getD q false || !A s))):GrS w0 mb np M A (s+1) (s+1) sa (some ⟨yb,0,none⟩) (some ⟨nb,0,none⟩) sc yc nc m svs sets (ys.set q (ys.getD q false || A s)) (ns.set q (ns.getD q false || !A s)) W:=by
 subst hW;obtain⟨u,c,hu,h0⟩:=h.map;have hy:=h.yes;have hn:=h.no;have h1:=h.mem.put (j:=1) rfl hq (.bool (ys.getD q false || A s));have h2:=h1.put (j:=2) rfl hq (.bool (ns.getD q false || !A s));have g1:=zC w ⟨yb,q,none⟩ (.bool (ys.getD q false || A s));have g2:=zC (w.setCell ⟨yb,q,none⟩ (.bool (ys.getD q false || A s))) ⟨nb,q,none⟩ (.bool (ns.getD q false || !A s));have h3:=(hy.lt yb rfl).1;have h4:=(hn.lt nb rfl).1;have ey:yb≠mb:=fun e=>yL (es:=#[]) (clock:=0) hy h0.obj (by rw[<-e];rfl);have en:nb≠mb:=fun e=>yL (es:=#[]) (clock:=0) hn h0.obj (by rw[<-e];rfl);refine⟨?_,⟨u,c,hu,(h0.kept g1 (fun e=>ey (Oj e))).kept g2 (fun e=>en (Oj e))⟩,h.grp.put (by rw[<-h.len];exact hq) hm,h.len,zA (zA h.gr g1 (fun k e=>by have e:yb=k:=Oj e;omega)) g2 (fun k e=>by have e:nb=k:=Oj e;omega),h.mlo⟩;have e1:(bls ys).set q (.bool (ys.getD q false || A s))=bls (ys.set q (ys.getD q false || A s)):=by simp[bls]
 have e2:(bls ns).set q (.bool (ns.getD q false || !A s))=bls (ns.set q (ns.getD q false || !A s)):=by simp[bls]
 rw[<-e1,<-e2];exact h2
end
theorem cell_other2 {w:World}{b c q:Nat}{u x:Value}(h:b≠c)(hc:w.cell? ⟨c,q,none⟩=some x):(w.setCell ⟨b,q,none⟩ u).cell? ⟨c,q,none⟩=some x:=by
 have hg:=zC w ⟨b,q,none⟩ u;exact hg.cell hc (fun e=>h (Oj e).symm)
theorem frozen_other2 {w:World}{b c q:Nat}{u:Value}(h:b≠c)(hc:w.frozen? ⟨c,q,none⟩=false):(w.setCell ⟨b,q,none⟩ u).frozen? ⟨c,q,none⟩=false:=by
 go_simp
theorem oJ {ops:Array Oper}{o:Oper}{a:Act}{w:World}{K:Act->World->Prop}{Q:Exit->Act->World->Prop}{R:Prop}(hgd:o.guard=none)(x y:Operand)(hop:o.op=.store 4 x y)(b i:Nat)(z:Bool)(u0:Value)(hx:a.eval x=.pointer (some ⟨b,i,none⟩))(hy:a.eval y=.bool z)(hc:w.cell? ⟨b,i,none⟩=some u0)(hf:w.frozen? ⟨b,i,none⟩=false)(hK:K (a.put o.dst undef) (w.setCell ⟨b,i,none⟩ (.bool z))):if Region.wanted o (yielded ops a.tmps)=true then Oper.wp Try.prog o a w K Q else R:=by
 have hw:Region.wanted o (yielded ops a.tmps)=true:=by simp[Region.wanted,hgd]
 rw[if_pos hw];unfold Oper.wp execOp;simp only[hop,hx,hy];go_simp;exact hK
theorem qFE {Q':Exit->Act->World->Prop}{v0 v1 v2 v3 v4 v7 v8 v9 v10 v11 v12 v13 v15 v16 v17 v19 v20 v21 v22 v23 v24 v25 v26 v27 v28 v29 v30 v31 v32 v33 v34 v35 v36 v37 v38 v39 v40 v41 v42 v43 v44 v45 v46 v47 v48 v49 v50 v51 v52 v53 v54 v55 v56 v57 v58 v59 v60 v61 v62 v63 v64 v65 v66 v67 v68 v69 v70 v71 v72 v73 v74 v75 v76 v77 v78 v79 v80 v81 v82 v83 v84 v85 v86 v87 v88 v89 v90 v91 v92 v93 v94 v95 v96 v97 v98 v99 v100 v101 v102 v103 v104 v105 v106 v107 v108 v109 v110 v111 v112 v113 v114 v115 v116 v117 v118 v119 v120 v121 v122 v123 v124:Value}{dd:_}{w:World}{yb nb yc nc n q:Nat}{y z a:Bool}(cy:w.cell? ⟨yb,q,none⟩=some (.bool y))(cn:w.cell? ⟨nb,q,none⟩=some (.bool z))(fy:w.frozen? ⟨yb,q,none⟩=false)(fn:w.frozen? ⟨nb,q,none⟩=false)(hne:yb≠nb)(hq:q<n)(hn:n<=4000)(hexit:∀z100 z101 z102 z103 z104 z105 z106 z107 z108 z109 z110 z111 z112 z113 z114 z115 z116 z117 z118 z119 z120:Value,Q' .normal ⟨(v0::v1::v2::v3::v4::(Value.slice (some ⟨yb,0,none⟩) n yc)::(Value.slice (some ⟨nb,0,none⟩) n nc)::v7::v8::v9::v10::v11::v12::v13::(Value.bool a)::v15::v16::v17::(Value.int .i64 (q:Int))::v19::v20::v21::v22::v23::v24::v25::v26::v27::v28::v29::v30::v31::v32::v33::v34::v35::v36::v37::v38::v39::v40::v41::v42::v43::v44::v45::v46::v47::v48::v49::v50::v51::v52::v53::v54::v55::v56::v57::v58::v59::v60::v61::v62::v63::v64::v65::v66::v67::v68::v69::v70::v71::v72::v73::v74::v75::v76::v77::v78::v79::v80::v81::v82::v83::v84::v85::v86::v87::v88::v89::v90::v91::v92::v93::v94::v95::v96::v97::v98::v99::z100::z101::z102::z103::z104::z105::z106::z107::z108::z109::z110::z111::z112::z113::z114::z115::z116::z117::z118::z119::z120::v121::v122::v123::v124::[]).toArray,dd⟩ ((w.drew.setCell ⟨yb,q,none⟩ (.bool (y || a))).setCell ⟨nb,q,none⟩ (.bool (z || !a)))):Code.wp Try.prog (reg Try.f62 26) Q' ⟨(v0::v1::v2::v3::v4::(Value.slice (some ⟨yb,0,none⟩) n yc)::(Value.slice (some ⟨nb,0,none⟩) n nc)::v7::v8::v9::v10::v11::v12::v13::(Value.bool a)::v15::v16::v17::(Value.int .i64 (q:Int))::v19::v20::v21::v22::v23::v24::v25::v26::v27::v28::v29::v30::v31::v32::v33::v34::v35::v36::v37::v38::v39::v40::v41::v42::v43::v44::v45::v46::v47::v48::v49::v50::v51::v52::v53::v54::v55::v56::v57::v58::v59::v60::v61::v62::v63::v64::v65::v66::v67::v68::v69::v70::v71::v72::v73::v74::v75::v76::v77::v78::v79::v80::v81::v82::v83::v84::v85::v86::v87::v88::v89::v90::v91::v92::v93::v94::v95::v96::v97::v98::v99::v100::v101::v102::v103::v104::v105::v106::v107::v108::v109::v110::v111::v112::v113::v114::v115::v116::v117::v118::v119::v120::v121::v122::v123::v124::[]).toArray,dd⟩ w:=by
 conv=>arg 2;whnf
 have h3:(q:Int)<n:=by omega
 obtain⟨W0,h0⟩:∃W0,W0=w.drew:=⟨_,rfl⟩;have HE:=Kh hexit;rw[<-h0]at HE;have C:Hid (W0.cell? ⟨yb,q,none⟩=some (.bool y)/\W0.cell? ⟨nb,q,none⟩=some (.bool z)):=Kh (by rw[h0];exact⟨cy,cn⟩);have F0:Hid (W0.frozen? ⟨yb,q,none⟩=false/\W0.frozen? ⟨nb,q,none⟩=false):=Kh (by rw[h0];exact⟨fy,fn⟩);have h1:=Kh hne;have h2:=Kh h0;clear hexit cy cn fy fn h0 hne;refine wp_region_noPanic ?_;refine yY (G:=uI 20 (fun _=>True) (fun W=>W.cell? ⟨yb,q,none⟩=some (.bool y)/\W.cell? ⟨nb,q,none⟩=some (.bool z))) (by kernel_rfl) ?_;cases y<;>cases z<;>cases a
 all_goals
  rw[<-h2.out];refine zV 0 ⟨trivial,fun _=>C.out⟩ ?_;refine zV 1 ⟨trivial,fun _=>C.out⟩ ?_;refine zV 2 ⟨trivial,fun _=>C.out⟩ ?_;refine zV 3 ⟨trivial,fun _=>C.out⟩ ?_;refine zV 4 ⟨trivial,fun _=>C.out⟩ ?_;refine zV 5 ⟨trivial,fun _=>C.out⟩ ?_;refine zV 6 ⟨trivial,fun _=>C.out⟩ ?_;refine zV 11 ⟨trivial,fun _=>C.out⟩ ?_;refine zV 12 ⟨trivial,fun _=>C.out⟩ ?_;refine zV 13 ⟨trivial,fun _=>C.out⟩ ?_;refine uA 7 ⟨trivial,fun _=>C.out⟩ ?_;refine uA 14 ⟨trivial,fun _=>C.out⟩ ?_;refine zV 8 ⟨trivial,fun _=>C.out⟩ ?_
  first
  | (refine qDC (i:=9) (v:=undef) rfl rfl (by kernel_rfl) (by kernel_rfl) (by kernel_rfl) (fun _ _ _ h=>h) (Or.inr ⟨?_,rfl⟩) ⟨trivial,fun _=>C.out⟩ ?_;· (simp[Region.wanted,yielded];done))
  | (refine qDC (i:=9) (v:=?_) rfl rfl (by kernel_rfl) (by kernel_rfl) (by kernel_rfl) (fun _ _ _ h=>h) (Or.inl ⟨by first|(simp[Region.wanted,yielded];done)|kernel_rfl,?_⟩) ⟨trivial,fun _=>C.out⟩ ?_;rotate_left;· (rintro wz hz;(try dsimp only at hz);go_simp;(try with_reducible rfl)))
  try simp only[Act.put,sPd,sPe,sPf,sPa,sPb,sPc]
  refine zV 10 ⟨trivial,fun _=>C.out⟩ ?_;refine zV 15 ⟨trivial,fun _=>C.out⟩ ?_
  first
  | (refine qDC (i:=16) (v:=undef) rfl rfl (by kernel_rfl) (by kernel_rfl) (by kernel_rfl) (fun _ _ _ h=>h) (Or.inr ⟨?_,rfl⟩) ⟨trivial,fun _=>C.out⟩ ?_;· (simp[Region.wanted,yielded];done))
  | (refine qDC (i:=16) (v:=?_) rfl rfl (by kernel_rfl) (by kernel_rfl) (by kernel_rfl) (fun _ _ _ h=>h) (Or.inl ⟨by first|(simp[Region.wanted,yielded];done)|kernel_rfl,?_⟩) ⟨trivial,fun _=>C.out⟩ ?_;rotate_left;· (rintro wz hz;(try dsimp only at hz);go_simp;(try with_reducible rfl)))
  try simp only[Act.put,sPd,sPe,sPf,sPa,sPb,sPc]
  first
  | (refine qDC (i:=17) (v:=undef) rfl rfl (by kernel_rfl) (by kernel_rfl) (by kernel_rfl) (fun _ _ _ h=>h) (Or.inr ⟨?_,rfl⟩) ⟨trivial,fun _=>C.out⟩ ?_;· (simp[Region.wanted,yielded];done))
  | (refine qDC (i:=17) (v:=?_) rfl rfl (by kernel_rfl) (by kernel_rfl) (by kernel_rfl) (fun _ _ _ h=>h) (Or.inl ⟨by first|(simp[Region.wanted,yielded];done)|kernel_rfl,?_⟩) ⟨trivial,fun _=>C.out⟩ ?_;rotate_left;· (rintro wz hz;(try dsimp only at hz);go_simp;(try with_reducible rfl)))
  try simp only[Act.put,sPd,sPe,sPf,sPa,sPb,sPc]
  refine zV 18 ⟨trivial,fun _=>C.out⟩ ?_;refine zV 19 ⟨trivial,fun _=>C.out⟩ ?_;have c1:=C.out.1;have f1:=F0.out.1;refine oneG (i:=20) (by kernel_rfl) rfl (fun K hK=>?_)
  first|refine oJ rfl (.tmp 119) (.tmp 110) rfl yb q true _ rfl rfl c1 f1 ?_|refine oJ rfl (.tmp 119) (.tmp 110) rfl yb q false _ rfl rfl c1 f1 ?_
  refine hK.out _ _ ⟨trivial,fun h=>by cases h⟩ ?_;clear hK K c1 f1
  try simp only[Act.put,sPd,sPe,sPf,sPa,sPb,sPc]
  refine zV 21 ⟨trivial,fun h=>by cases h⟩ ?_;have c1:=fun u=>cell_other2 (u:=u) h1.out C.out.2;have f1:=fun u=>frozen_other2 (u:=u) h1.out F0.out.2;refine oneG (i:=22) (by kernel_rfl) rfl (fun K hK=>?_)
  first|refine oJ rfl (.tmp 120) (.tmp 118) rfl nb q true _ rfl rfl (c1 _) (f1 _) ?_|refine oJ rfl (.tmp 120) (.tmp 118) rfl nb q false _ rfl rfl (c1 _) (f1 _) ?_
  refine hK.out _ _ ⟨trivial,fun h=>by cases h⟩ ?_;clear hK K c1 f1
  try simp only[Act.put,sPd,sPe,sPf,sPa,sPb,sPc]
  refine rP (by kernel_rfl) ?_ _;exact HE.out _ _ _ _ _ _ _ _ _ _ _ _ _ _ _ _ _ _ _ _ _
theorem GrpI.len_le {M:Nat->List Bool}{A:Nat->Bool}{s t:Nat}{sets:List (List Bool)}{ys ns:List Bool}(h:GrpI M A s t sets ys ns):sets.length<=t:=by
 have h1:=List.Nodup.length_le_of_subset (l₂:=(List.range t).map M) h.nd (fun x hx=>by
  obtain⟨i,hi,e⟩:=h.met x hx
  exact List.mem_map.2 ⟨i,List.mem_range.2 hi,e⟩)
 simpa using h1
theorem elem_rowB:ElemN Try.prog 102 39 1 (.slice none 0 0) 24:=⟨by kernel_rfl,by kernel_rfl,by rfl,by decide⟩
theorem row_frontB {w:World}{lb gc k:Nat}{e:TypeId}{L:List Bool}(hA:Arr w lb e (bls L))(hk:k<=L.length)(hc:L.length<=gc)(hm:gc<=maxLen):Row w.heap.size w (.slice (some ⟨lb,0,none⟩) k gc) (bls (L.take k)):=by
 have hl:(bls (L.take k)).length=k:=by rw[xC,List.length_take];omega
 refine .inr ⟨lb,0,gc,by rw[hl],hA.lt,by rw[hl];omega,hm,?_⟩;have:=hA.row.take k
 rwa [show bls (L.take k)=(bls L).take k by simp[bls,List.map_take]]
def qIF (w:World)(d:DfaV)(ps:List (List ByteArray))(e:Ending)(w':World):Prop :=
 w.grownBy w' none/\((∃a,e=.returned (.tuple #[.slice none 0 0,.slice none 0 0,.slice none 0 0,.int .i64 a])/\a≠0/\(a=autE d.letters ps\/(autE d.letters ps=0/\a=3/\Over (ofT d ps) d.letters.toNat))) \/
  (autE d.letters ps=0/\∃(B:Nat) (L:List (List Nat)) (sets:List (List Bool)) (ys ns:List Bool) (m sc yc nc:Nat) (sa ya na:Option Addr),e=.returned (.tuple #[.slice sa m sc,.slice ya m yc,.slice na m nc,.int .i64 0])/\w.heap.size<=B/\m=sets.length/\BfsD (nxtT (ofT d ps)) d.letters.toNat (st0T (ofT d ps)) L/\L.length<=4000/\GrpI (MT (ofT d ps) ps.length L) (AT (ofT d ps) ps.length L) L.length L.length sets ys ns/\w'.ownsRow B 4 1 (.slice ya m yc) m (bls ys)/\w'.ownsRow B 4 1 (.slice na m nc) m (bls ns)))
theorem rgroups_any (Bd:Nat)(w:World)(dv pv:Value)(d:DfaV)(ps:List (List ByteArray))(hBd:Bd<=w.heap.size)(hd:tE Bd w dv d)(hp:vS Bd w pv ps)(hp4:ps.length<=4096)(hv:wI d=0)(h14:∀p∈ps,patW p d.letters=0->sQ p<=14):Calls Try.prog 62 #[dv,pv] w (qIF w d ps):=by
 have f7:=aG hv;obtain⟨k,hk⟩:∃k,k=d.letters.toNat:=⟨_,rfl⟩;have t0:=f7.hk;have e3:d.letters=(k:Int):=by omega
 have r0:Hid (autE d.letters ps=0->ofE d ps=0/\OkT (ofT d ps) k):=Kh (fun h=>by
  have h0:ofE d ps=0:=by unfold ofE;rw[if_pos hv];exact h
  exact⟨h0,by rw[hk];exact qES h0⟩)
 have j2:=Kh f7;have HK:=Kh hk;have b9:=Kh e3;have e9:=hd;obtain⟨fv,nv,rfl,hf,hn⟩:=hd;obtain⟨fa,fc,rfl⟩:=hf.shape;rw[xC]at e9 hf⊢;obtain⟨na,nc,rfl⟩:=hn.shape;obtain⟨pa,pc,rfl⟩:=hp.shape;obtain⟨np,g0⟩:∃n,n=ps.length:=⟨_,rfl⟩;obtain⟨fl,i3⟩:∃n,n=d.final.length:=⟨_,rfl⟩;obtain⟨nl,g5⟩:∃n,n=d.next.length:=⟨_,rfl⟩;obtain⟨ds,b8⟩:∃n,n=d.start:=⟨_,rfl⟩;have n3:=Kh g0;have HP:=Kh hp;have s5:=Kh h14;rw[<-g0]at hp4 HP⊢;rw[<-i3,<-g5,e3,<-b8]at e9;rw[<-i3,<-g5,e3,<-b8];have HD:=Kh e9;obtain⟨wA,f0⟩:∃wA,wA=w.alloc (.cells #[.int .i64 (k:Int),.int .i64 ds,.slice fa fl fc,.slice na nl nc] 42):=⟨_,rfl⟩;have a4:=Ga w (.cells #[.int .i64 (k:Int),.int .i64 ds,.slice fa fl fc,.slice na nl nc] 42) none;have d3:=heap_alloc_new w (.cells #[.int .i64 (k:Int),.int .i64 ds,.slice fa fl fc,.slice na nl nc] 42);obtain⟨Q,hQ⟩:∃Q,Q=w.heap.size:=⟨_,rfl⟩;have l2:wA.heap.size=Q+1:=by rw[f0,zL,hQ]
 rw[<-f0]at a4 d3;rw[<-hQ]at d3;obtain⟨c0,c1,c2,c3⟩:=zF d3;have d5:=Kh hQ;have c4:=Kh a4;have s4:=Kh d3;have q8:=Kh f0;have j1:=Kh l2;have k8:Hid (Calls Try.prog 51 #[.slice pa np pc,.int .i64 (k:Int)] wA (qDA wA (autE (k:Int) ps) (autD ps (k:Int)))):=Kh (dQ Bd wA _ ps (k:Int) (by have:=a4.size;omega) (HP.out.kept a4 (by simp)) (by rw[<-n3.out];exact hp4) (by rw[<-b9.out];exact s5.out));obtain⟨E,hE⟩:∃E,E=autE (k:Int) ps:=⟨_,rfl⟩;rw[<-hE]at k8;have HE:=Kh hE;clear d3 a4 f0 l2 hQ hf hn e9 hp g0 i3 g5 b8 hE h14 hk e3 f7 hv c1 c2 c3;go_enter Try.func62,Try.ntmps62;go_upto_region 1 with fail;rw[<-q8.out,<-d5.out];go_wp2_with fail;refine k8.out.mono ?_;rintro e w1 ⟨sa,n2,sc,rfl,b5,a7⟩;have d9:=Kh b5;have n8:=Kh (zA c4.out b5 (by simp));have s3:=Kh (zB s4.out b5 (by simp));have q7:Hid (Q+1<=w1.heap.size):=Kh (by rw[<-j1.out];exact b5.size);clear b5 k8 c0;by_cases hE0:E=0
 case neg =>
  have e1:(E != 0)=true:=by rw[bne_iff_ne];exact hE0
  have r4:=Kh hE0;clear hE0 a7;go_wp2;refine bodyPost_ret (v:=.tuple #[.slice none 0 0,.slice none 0 0,.slice none 0 0,.int .i64 E]) (by simp[results,Try.results62,go_sem]) rfl ?_;exact⟨n8.out,.inl ⟨E,rfl,r4.out,.inl (by rw[HE.out,b9.out])⟩⟩
 case pos =>
  subst hE0
  have h2:n2=(autD ps (k:Int)).length/\∃l,l.map (·.1)=autD ps (k:Int)/\DsUp wA.heap.size w1 (.slice sa n2 sc) l:=by
   rcases a7 with h|h
   ·exact absurd rfl h
   ·exact h.2
  obtain⟨e2,lp,g8,f8⟩:=h2;clear a7;rw[j1.out]at f8;have j0:autE d.letters ps=0:=by rw[b9.out,<-HE.out]
  obtain⟨i9,H5⟩:=r0.out j0
  have H5:OkT (autD ps (k:Int)++[minD d k]) k:=by
   rw[ofT,b9.out,Int.toNat_natCast]at H5;exact H5
  have d0:n2<=300:=by have:=(qX i9).2.1;rw[e2,xG];exact this
  have d1:n2=ps.length:=by rw[e2,xG]
  have m0:lp.length=n2:=by rw[e2,<-g8,List.length_map]
  have m2:=j2.out.k1;have m1:=j2.out.k6;rw[<-HK.out]at m2 m1;have j8:Hid (∀W:World,wA.grownBy W none->Calls Try.prog 54 #[.agg #[.int .i64 (k:Int),.int .i64 ds,.slice fa fl fc,.slice na nl nc]] W (qDT W (minD d k))):=Kh (fun W hW=>kB Bd W _ d d.final.length k (by have:=c4.out.size;have:=hW.size;omega) (HD.out.kept (zA c4.out hW (by simp)) (by simp)) (by have:=j2.out;rw[<-HK.out]at this;exact this));have H7:=Kh H5;have q9:=Kh f8;have r6:=Kh g8;have r7:=Kh m0;have f1:=Kh d1;have t6:=Kh i9;have n9:=Kh j0;have b5:=n8.out;have k2:Hid (wA.grownBy w1 none):=Kh (by exact d9.out);clear H5 f8 g8 m0 e2 d1 i9 j0 b5;go_upto_region 4 with fail;refine gr_reg4 (Bd:=Bd) (w0:=wA) (base:=Q+1) s3.out k2.out q7.out (by rw[j1.out];exact Nat.le_refl _) (Nat.lt_succ_self _) q9.out r6.out r7.out f1.out d0 j8.out H7.out m2 m1 ?_ ?_
  ·intro o4 z30 z31 z32 z33 z34 z35 z36 z37 z38 z39 z40 R w2 d2
   go_wp2;refine bodyPost_ret (v:=.tuple #[.slice none 0 0,.slice none 0 0,.slice none 0 0,.int .i64 3]) (by simp[results,Try.results62,go_sem]) rfl ?_;exact⟨zA c4.out d2 (by simp),.inl ⟨3,rfl,by decide,.inr ⟨n9.out,rfl,by rw[ofT,<-HK.out,b9.out];exact o4⟩⟩⟩
  ·have o8:n2=np:=by rw[n3.out,f1.out]
   subst o8;intro z30 z31 z32 z33 z34 z35 z36 z37 z38 z39 z40 R w2 B8 sN sS sT cN cS cT LL TL L T l i8 q4 g9 i5 l4 b8 H6 i1 c5 d2;obtain⟨dl,e8⟩:∃x,x=autD ps (k:Int)++[minD d k]:=⟨_,rfl⟩;have m7:dl.length=n2+1:=by rw[e8,List.length_append,xG,f1.out];rfl
   rw[<-e8]at g9 H6 c5 H7;have n0:0<L.length:=(by have:=H6.hd;rcases Nat.eq_zero_or_pos L.length with h|h;(rw[List.eq_nil_of_length_eq_zero h]at this;cases this);exact h);obtain⟨sb8,sc8,nv8,c7⟩:=l4.view n0;obtain⟨M,hM⟩:∃M:Nat->List Bool,M=MT dl n2 L:=⟨_,rfl⟩;obtain⟨A,hA⟩:∃A:Nat->Bool,A=AT dl n2 L:=⟨_,rfl⟩;have H1:Hid (∀i,(M i).length=n2):=Kh (fun i=>by rw[hM];exact qG _ _ _);have r9:Hid (∀i,mtsT dl (n2+1) (L.getD i [])=M i++[A i]):=Kh (fun i=>by rw[hM,hA];show mtsT dl (n2+1) _=mtsT dl n2 _++[accT dl _ n2];unfold mtsT;rw[List.range_succ,List.map_append];rfl)
   have k4:Hid (∀(W:World) (i:Nat),w2.grownBy W none->i<LL->Calls Try.prog 53 #[.agg #[.slice sN (n2+1) cN,.slice sS LL cS,.slice sT TL cT],.int .i64 (i:Int)] W fun e w'=>∃sa sc,e=.returned (.slice sa (n2+1) sc)/\w'.ownsRow W.heap.size 4 1 (.slice sa (n2+1) sc) (n2+1) (bls (M i++[A i]))/\W.grownBy w' none):=Kh (fun W i hW hi=>by
    have:=fP w2.heap.size W k _ _ nv8 dl L T sb8 sc8 i hW.size (c7.grow hW) (by have:=b8.in_;rw[g9]at this;exact this.kept hW (by simp)) H7.out (by rw[<-i8];exact hi) (by
     have m3:i<L.length:=(by omega);obtain⟨u,hu,eu⟩:=H6.re _ (List.getElem_mem m3);rw[zG m3,<-eu]
     exact H7.out.walk u H7.out.in0 hu) (by omega) (by omega) i1
    rw[m7,r9.out]at this
    exact this)
   have r8:Hid (GrpI M A 0 0 [] [] []):=Kh (GrpI.nil M A)
   have j7:Hid (∀e w',(w.grownBy w' none/\∃(sets:List (List Bool)) (ys ns:List Bool) (m sc yc nc:Nat) (sa ya na:Option Addr),e=.returned (.tuple #[.slice sa m sc,.slice ya m yc,.slice na m nc,.int .i64 0])/\m=sets.length/\GrpI M A LL LL sets ys ns/\w'.ownsRow w2.heap.size 4 1 (.slice ya m yc) m (bls ys)/\w'.ownsRow w2.heap.size 4 1 (.slice na m nc) m (bls ns))->qIF w d ps e w'):=Kh (fun e w' h=>by
    obtain⟨hg,sets,ys,ns,m,sc,yc,nc,sa,ya,na,h1,h2,h3,h4,h5⟩:=h;have e1:ofT d ps=dl:=by rw[ofT,b9.out,Int.toNat_natCast,e8]
    rw[hM,hA,i8,f1.out]at h3
    exact⟨hg,.inr ⟨n9.out,w2.heap.size,L,sets,ys,ns,m,sc,yc,nc,sa,ya,na,h1,(zA c4.out d2 (by simp)).size,h2,by rw[e1,<-HK.out];exact H6,i1,by rw[e1];exact h3,h4,h5⟩⟩)
   have j9:Hid (w.grownBy w2 none):=Kh (zA c4.out d2 (by simp));have s2:=Kh i5;obtain⟨b0,b1,b2⟩:=zN i5;have q5:LL<=4000:=by omega
   have n4:=Kh (key_gT (n:=n2) (by omega));clear e8 hM hA i8 q4 g9 l4 b8 H6 c5 d2 c7 i5 n0 i1 m7;have p6:=@run_makeMap Try.prog;go_upto_region 8 with fail;obtain⟨mb,l5⟩:∃b,b=w2.heap.size:=⟨_,rfl⟩;obtain⟨w3,l3⟩:∃w3,w3=w2.alloc (.map #[] 0):=⟨_,rfl⟩;have H0:=MapK.made 9 (fun m:List Bool=>m.length=n2) (fun m=>.string (gT m)) w2;have e7:=Ga w2 (.map #[] 0) none;rw[<-l3]at H0 e7⊢;rw[<-l5]at H0⊢;have n1:Hid (GrS w2 mb n2 M A 0 0 none none none 0 0 0 0 [] [] [] [] w3):=Kh ⟨⟨fun r hr=>by(simp only[List.mem_cons,List.not_mem_nil,or_false]at hr;rcases hr with rfl|rfl|rfl<;>exact World.ownsRow_nil _ _ _ _),by simp[Value.ownBlock],fun r hr j hj=>by(simp only[List.mem_cons,List.not_mem_nil,or_false]at hr;rcases hr with rfl|rfl|rfl<;>cases hj),fun j hj=>hj.elim⟩,⟨0,0,Nat.le_refl _,H0⟩,r8.out,rfl,e7,by omega⟩;have b1:=xK b1 e7;clear H0 l3 e7 p6 b0 b2 l5;go_wp2
   go_loopg [4,5,6,11,12,13,14,15,17,18,19,48] LL (fun gh v4 v5 v6 v11 v12 v13 v14 v15 v17 v18 v19 v48 wr=>∃(s m sc yc nc:Nat) (sa ya na:Option Addr) (svs:List Value) (sets:List (List Bool)) (ys ns:List Bool),gh+s=LL/\v48=.int .i64 s/\v4=.slice sa m sc/\v5=.slice ya m yc/\v6=.slice na m nc/\GrS w2 mb n2 M A s s sa ya na sc yc nc m svs sets ys ns wr)
   case atStart=>exact⟨0,0,0,0,0,none,none,none,[],[],[],[],rfl,rfl,rfl,rfl,rfl,n1.out⟩
   case round =>
    clear n1;obtain⟨s,m,sc,yc,nc,sa,ya,na,svs,sets,ys,ns,m4,rfl,rfl,rfl,rfl,e0⟩:=hrel;have d7:=Kh m4;have b6:=Kh e0;clear m4;by_cases hs:s<LL
    case neg =>
     have o2:s=LL:=by have:=d7.out;omega
     have o3:¬(s:Int)<LL:=(by omega);subst o2;go_wp2;refine bodyPost_ret (v:=.tuple #[.slice sa m sc,.slice ya m yc,.slice na m nc,.int .i64 0]) (by simp[results,Try.results62,go_sem]) rfl ?_;exact j7.out _ _ ⟨zA j9.out b6.out.gr (by simp),sets,ys,ns,m,sc,yc,nc,sa,ya,na,rfl,b6.out.len,b6.out.grp,b6.out.yes,b6.out.no⟩
    case pos =>
     have o3:(s:Int)<LL:=(by omega);obtain⟨b0,b1',b2⟩:=zN (zB s2.out e0.gr (by simp));have a5:=Kh (k4.out wr s e0.gr hs);clear e0 b1;go_wp2_with fail;refine a5.out.mono ?_;rintro e w4 ⟨ga,gc,rfl,a8,m6⟩;obtain⟨fb,rfl,m8,i4,a0⟩:=yG a8 (by omega);have t5:gc<=9223372036854775807:=by unfold maxLen at i4;omega
     have o9:n2<=gc:=by omega
     have p9:fb<w4.heap.size:=(a8.lt fb rfl).2
     have c1:w4.cell? ⟨fb,n2,none⟩=some (.bool (A s)):=by
      have h8:=a0.bool n2 (by rw[List.length_append,H1.out];simp);rw[qB (H1.out s).symm]at h8;exact h8
     have j4:=Kh (b6.out.grow m6)
     have k9:Hid (∀W:World,w4.grownBy W none->∀j,j<n2->W.cell? ⟨fb,j,none⟩=some (.bool ((M s).getD j false))):=Kh (fun W hW j hj=>by
      have h8:=(a0.kept hW (by simp)).bool j (by rw[List.length_append,H1.out];omega);rw[pX (by rw[H1.out];exact hj)]at h8
      exact h8)
     have l0:=Kh a0;have n6:Hid (n2+1<=gc/\gc<=maxLen):=Kh ⟨m8,i4⟩;have p0:(n2:Int)<(n2+1:Nat):=(by omega);clear a8 m6 a0 b0 b1' b2 a5 b6 m8 i4;go_upto_region 12 with fail
     go_quiet (fail)
     clear c1;obtain⟨ab,i6⟩:∃b,b=A s:=⟨_,rfl⟩;rw[<-i6];have o0:=Kh i6;clear i6;go_wp2
     go_loopg [15,17,65] n2 (fun gh v15 v17 v65 wr=>∃j:Nat,gh+j=n2/\v65=.int .i64 j/\v15=.string (gT ((M s).take j))/\w4.grownBy wr none)
     case atStart=>exact⟨0,rfl,rfl,rfl,by first|exact zM _ _ _|exact zO _ _|exact zH _ _⟩
     case round =>
      obtain⟨j,m5,rfl,rfl,b7⟩:=hrel;have k0:=Kh m5;clear m5;by_cases hj:j<n2
      ·have p8:(j:Int)<n2:=by omega
       have c2:=k9.out _ b7 j hj;have hU:(gT ((M s).take j)).size=j:=by rw[qHG,List.length_take,H1.out];omega
       have j5:Hid (gT ((M s).take (j+1))=gT ((M s).take j)++txtT [if (M s).getD j false=true then 49 else 48]):=Kh (by
        rw[<-gT_snoc,zG (by rw[H1.out];exact hj),List.take_add_one,List.getElem?_eq_getElem (by rw[H1.out];exact hj)];rfl)
       obtain⟨U,i7⟩:∃U,U=gT ((M s).take j):=⟨_,rfl⟩;rw[<-i7]at hU j5;rw[<-i7];obtain⟨bj,m9⟩:∃b,b=(M s).getD j false:=⟨_,rfl⟩;rw[<-m9]at c2 j5;have s8:(⟨#[49]⟩:ByteArray).size=1:=rfl;have s7:(⟨#[48]⟩:ByteArray).size=1:=rfl;have k3:=Kh b7;clear i7 m9 b7;have p7:¬9223372036854775807<U.size+1:=(by omega);cases bj
       all_goals
        go_wp2;go_roundg (n2-(j+1))
        case measure=>have:=k0.out;omega
        case rel=>exact⟨j+1,by have:=k0.out;omega,by go_num,by rw[j5.out];rfl,k3.out⟩
      ·have t4:j=n2:=by have:=k0.out;omega
       have p8:¬(j:Int)<n2:=(by omega);have etk:(M s).take j=M s:=List.take_of_length_le (by rw[H1.out];omega);rw[etk];have H4:=j4.out.grow b7;have k3:=Kh b7;obtain⟨u,c,hu,b4⟩:=H4.map;have H2:=b4.lookup n4.out (x:=M s) (H1.out s);obtain⟨U,hU⟩:∃U,U=gT (M s):=⟨_,rfl⟩;rw[<-hU];have HU:=Kh hU;have j3:=Kh hu;have h7:=Kh b4;have h6:=Kh H4;have s9:m<=s:=by rw[H4.len];exact H4.grp.len_le
       clear hU hu b4 H4 etk b7;by_cases hmem:M s∈sets
       ·obtain⟨q,hq⟩:∃q,q=sets.idxOf (M s):=⟨_,rfl⟩
        have H9:q<sets.length:=(by rw[hq];exact List.idxOf_lt_length_of_mem hmem);have f9:q<m:=by rw[h6.out.len];exact H9
        have c6:sets.getD q []=M s:=by
         rw[zG H9];have h1:=List.getElem_idxOf (x:=M s) (xs:=sets) (by rw[<-hq];exact H9);simp only[<-hq]at h1;exact h1
        have i0:Sem.run Try.prog (Instr.lookup 129 (.map (some mb)) (.string U) true) wr=.ok (.tuple #[.int .i64 (q:Int),.bool true]) wr:=by
         rw[numS_of_mem hmem,<-hq]at H2;rw[HU.out];exact H2
        have H3:Hid (GrS w2 mb n2 M A s (s+1) sa ya na sc yc nc m svs sets ys ns wr):=Kh ⟨h6.out.mem,⟨u,c,Nat.le_succ_of_le j3.out,h7.out⟩,h6.out.grp.old hmem,h6.out.len,h6.out.gr,h6.out.mlo⟩;obtain⟨yb,rfl,f6,f5,a6⟩:=yG H3.out.yes (by omega);obtain⟨nb,rfl,g7,b3,a9⟩:=yG H3.out.no (by omega);have cy:=a6.bool q (by rw[H3.out.grp.leny];exact H9);have cn:=a9.bool q (by rw[H3.out.grp.lenn];exact H9);have fy:=a6.frozen q;have fn:=a9.frozen q;have c9:yb≠nb:=fun e=>(List.pairwise_cons.1 (List.pairwise_cons.1 H3.out.mem.apart).2).1 _ (List.mem_cons_self ..) yb rfl (by rw[e];rfl);have d4:=Kh f9;have d5:=Kh c6;have HC:=Kh (And.intro cy (And.intro cn (And.intro fy (And.intro fn c9))));clear H2 hq H9 c6 hmem f6 f5 a6 g7 b3 a9 cy cn fy fn c9 h6 h7;go_upto_region 26 with fail;clear i0;refine qFE HC.out.1 HC.out.2.1 HC.out.2.2.1 HC.out.2.2.2.1 HC.out.2.2.2.2 d4.out (by omega) ?_;intro z100 z101 z102 z103 z104 z105 z106 z107 z108 z109 z110 z111 z112 z113 z114 z115 z116 z117 z118 z119 z120;go_wp2;go_roundg (LL-(s+1))
        case measure=>have:=d7.out;omega
        case rel =>
         have hW:=(H3.out.grow (zO wr none)).put d4.out d5.out rfl;rw[<-o0.out]at hW;exact⟨s+1,m,sc,yc,nc,sa,_,_,svs,sets,_,_,by have:=d7.out;omega,by go_num,rfl,rfl,rfl,hW⟩
       ·have i0:Sem.run Try.prog (Instr.lookup 129 (.map (some mb)) (.string U) true) wr=.ok (.tuple #[.int .i64 0,.bool false]) wr:=by
         rw[numS_not hmem]at H2;rw[HU.out];exact H2
        have d6:=Kh hmem;clear H2 hmem;go_upto_region 25 with (first|(at_mapUpdate;refine pS n4.out rfl _ _ _ rfl mb u c (numS sets) (M s) m rfl ?k1 rfl h7.out (by have:=j3.out;unfold maxLen;omega) (H1.out s) (by omega) ?_;(case k1=>(show _=Value.string (gT (M s));rw[<-HU.out];rfl));intro w8 l9 e6)|fail)
        have HN:Hid ((Value.slice sa m sc).ownBlock≠some mb/\(Value.slice ya m yc).ownBlock≠some mb/\(Value.slice na m nc).ownBlock≠some mb):=Kh ⟨yL (es:=#[]) (clock:=0) h6.out.rows h7.out.obj,yL (es:=#[]) (clock:=0) h6.out.yes h7.out.obj,yL (es:=#[]) (clock:=0) h6.out.no h7.out.obj⟩
        have s1:=Kh (h6.out.mem.far e6 (fun r hr=>by
         simp only[List.mem_cons,List.not_mem_nil,or_false]at hr;rcases hr with rfl|rfl|rfl
         ·exact HN.out.1
         ·exact HN.out.2.1
         ·exact HN.out.2.2))
        have f2:Hid (w2.grownBy w8 none):=Kh (zA h6.out.gr e6 (fun k e=>by have e:mb=k:=Oj e;have:=h6.out.mlo;omega));have r5:=Kh l9
        have j6:Hid (Row (w8.alloc (.cells #[] 4)).heap.size (w8.alloc (.cells #[] 4)) (.slice (some ⟨fb,0,none⟩) n2 gc) (bls (M s))):=Kh (by
         have h8:=l0.out.kept k3.out (by simp);have g6:mb≠fb:=fun e=>by obtain⟨es,cl,hb⟩:=h7.out.obj;obtain⟨cs,r,q0,_⟩:=id h8;rw[e,q0]at hb;simp at hb
         have h9:=(h8.kept e6 (fun e=>g6 (Oj e))).kept (Ga w8 (.cells #[] 4) none) (by simp);have q6:=row_frontB (k:=n2) h9 (by rw[List.length_append,H1.out];omega) (gc:=gc) (by rw[List.length_append,H1.out];exact n6.out.1) n6.out.2
         rwa [List.take_left' (H1.out s)]at q6)
        have s6:=f2.out.size;clear l9 e6 i0;go_upto_region 26 with (first|(at_builtin;refine appR rfl (.tmp 89) (.tmp 90) _ rfl xJ w8.heap.size _ 0 [] rfl (qE (heap_alloc_new w8 _) (Nat.le_refl _)) _ (bls (M s)) rfl ⟨_,j6.out⟩ ?p1 n2 ?p2 ?p3 ?p4 ?p5 ?_;(case p1=>(intro v hv;obtain⟨b,_,rfl⟩:=List.mem_map.1 hv;rfl));(case p2=>(rw[xC,H1.out];omega));(case p3=>(unfold maxLen;omega));(case p4=>omega);(case p5=>(rw[zL];omega));intro sA cA wA c8 a4;have H8:=Kh (zA (Ga w8 (.cells #[] 4) none) a4 (fun k e=>by have e:w8.heap.size=k:=Oj e;omega));have f3:=Kh (s1.out.grow H8.out);have f4:=(zA f2.out H8.out (by simp)).size;clear c8 a4)|(at_builtin;refine vV rfl (.tmp 88) (.tmp 92) _ rfl elem_rowB w2.heap.size (.slice sa m sc) m svs rfl (f3.out.own ⟨w2.heap.size,39,.slice sa m sc,m,svs,1⟩ (by simp)) [.slice sA n2 cA] rfl rfl ?q1 ?q2 ?q3 f4 ?_;(case q1=>(intro v hv;simp only[List.mem_cons,List.not_mem_nil,or_false]at hv;subst hv;rfl));(case q2=>(unfold maxLen;omega));(case q3=>omega);intro sB cB wB a3 e5 l8;have n7:=Kh e5;have k7:=Kh (f3.out.appAt (j:=0) rfl a3 e5 l8);have l1:=(zA (zA f2.out H8.out (by simp)) e5 (fun k e=>((f3.out.own ⟨w2.heap.size,39,.slice sa m sc,m,svs,1⟩ (by simp)).lt k e).1)).size;clear a3 e5 l8)|(at_builtin;refine vV rfl (.tmp 94) (.tmp 95) _ rfl xJ.toN w2.heap.size (.slice ya m yc) m (bls ys) rfl (k7.out.own ⟨w2.heap.size,4,.slice ya m yc,m,bls ys,1⟩ (by simp)) [.bool false] rfl rfl ?r1 ?r2 ?r3 l1 ?_;(case r1=>(intro v hv;simp only[List.mem_cons,List.not_mem_nil,or_false]at hv;subst hv;rfl));(case r2=>(unfold maxLen;omega));(case r3=>omega);intro sC cC wC a2 e4 l7;have d8:=Kh e4;have k5:=Kh (k7.out.appAt (j:=1) rfl a2 e4 l7);have o1:=Nat.le_trans l1 e4.size;clear a2 e4 l7)|(at_builtin;refine vV rfl (.tmp 97) (.tmp 98) _ rfl xJ.toN w2.heap.size (.slice na m nc) m (bls ns) rfl (k5.out.own ⟨w2.heap.size,4,.slice na m nc,m,bls ns,1⟩ (by simp)) [.bool false] rfl rfl ?t1 ?t2 ?t3 o1 ?_;(case t1=>(intro v hv;simp only[List.mem_cons,List.not_mem_nil,or_false]at hv;subst hv;rfl));(case t2=>(unfold maxLen;omega));(case t3=>omega);intro sD cD wD a1 i2 l6;have n5:=Kh i2;have s0:=Kh (k5.out.appAt (j:=2) rfl a1 i2 l6);clear a1 i2 l6)|fail)
        have H3:Hid (GrS w2 mb n2 M A s (s+1) sB sC sD cB cC cD (m+1) (svs++[.slice sA n2 cA]) (sets++[M s]) (ys++[false]) (ns++[false]) wD):=Kh (by
         have o7:=f3.out.own ⟨w2.heap.size,39,.slice sa m sc,m,svs,1⟩ (by simp);have o6:=k7.out.own ⟨w2.heap.size,4,.slice ya m yc,m,bls ys,1⟩ (by simp);have o5:=k5.out.own ⟨w2.heap.size,4,.slice na m nc,m,bls ns,1⟩ (by simp);have g1:=zA f2.out H8.out (by simp);have g2:=zA g1 n7.out (fun k e=>(o7.lt k e).1);have g3:=zA g2 d8.out (fun k e=>(o6.lt k e).1);have g4:=zA g3 n5.out (fun k e=>(o5.lt k e).1);refine⟨?_,⟨u+1,if (numS sets (M s)).isSome=true then c else c+1,by have:=j3.out;omega,?_⟩,h6.out.grp.new d6.out,by rw[List.length_append,h6.out.len];rfl,g4,h6.out.mlo⟩
         ·rw[show bls (ys++[false])=bls ys++[.bool false] by simp[bls],show bls (ns++[false])=bls ns++[.bool false] by simp[bls]]
          exact s0.out
         ·rw[<-numS_snoc d6.out,<-h6.out.len]
          exact(((r5.out.kept H8.out (by simp)).kept n7.out HN.out.1).kept d8.out HN.out.2.1).kept n5.out HN.out.2.2)
        obtain⟨q,hq⟩:∃q,q=m:=⟨_,rfl⟩;have H9:q<(sets++[M s]).length:=(by rw[List.length_append,<-h6.out.len,hq];simp);have f9:q<m+1:=(by omega);have c6:(sets++[M s]).getD q []=M s:=qB (by rw[hq];exact h6.out.len);rw[show (Value.int .i64 (m:Int))=.int .i64 (q:Int) by rw[hq]];obtain⟨yb,rfl,f6,f5,a6⟩:=yG H3.out.yes (by omega);obtain⟨nb,rfl,g7,b3,a9⟩:=yG H3.out.no (by omega);have cy:=a6.bool q (by rw[H3.out.grp.leny];exact H9);have cn:=a9.bool q (by rw[H3.out.grp.lenn];exact H9);have fy:=a6.frozen q;have fn:=a9.frozen q;have c9:yb≠nb:=fun e=>(List.pairwise_cons.1 (List.pairwise_cons.1 H3.out.mem.apart).2).1 _ (List.mem_cons_self ..) yb rfl (by rw[e];rfl);have d4:=Kh f9;have d5:=Kh c6;have HC:=Kh (And.intro cy (And.intro cn (And.intro fy (And.intro fn c9))));clear hq H9 c6 f6 f5 a6 g7 b3 a9 cy cn fy fn c9;refine qFE HC.out.1 HC.out.2.1 HC.out.2.2.1 HC.out.2.2.2.1 HC.out.2.2.2.2 d4.out (by omega) ?_;intro z100 z101 z102 z103 z104 z105 z106 z107 z108 z109 z110 z111 z112 z113 z114 z115 z116 z117 z118 z119 z120;go_wp2;go_roundg (LL-(s+1))
        case measure=>have:=d7.out;omega
        case rel =>
         have hW:=(H3.out.grow (zO wD none)).put d4.out d5.out rfl;rw[<-o0.out]at hW;exact⟨s+1,m+1,cB,cC,cD,sB,_,_,_,_,_,_,by have:=d7.out;omega,by go_num,rfl,rfl,rfl,hW⟩
end Go.Proofs.Ytjfdomfendbhfaa
namespace Go.Proofs.Ytjfdomfendbhfaa
open Go.RowKit
theorem validate7_any (B:Nat)(w:World)(v:Value)(d:DfaV)(hB:B<=w.heap.size)(h:tE B w v d):Calls Try.prog 32 #[v] w fun e w'=>e=.returned (.int .i64 (wI d))/\w.grownBy w' none:=by
 obtain⟨fv,nv,rfl,hf,hn⟩:=h;have a2:=hf.len_le;rw[xC]at a2;unfold maxLen at a2;have a5:=hn.len_le;unfold maxLen at a5;obtain⟨fa,fc,rfl⟩:=hf.shape;rw[xC]at hf⊢;obtain⟨na,nc,rfl⟩:=hn.shape;have HN:=Kh hn;obtain⟨n,a0⟩:∃n,n=d.final.length:=⟨_,rfl⟩;obtain⟨m,a1⟩:∃m,m=d.next.length:=⟨_,rfl⟩;obtain⟨L,hL⟩:∃L,L=d.letters:=⟨_,rfl⟩;obtain⟨S,hS⟩:∃S,S=d.start:=⟨_,rfl⟩;rw[<-a0]at a2⊢;rw[<-a1]at a5 HN⊢;rw[<-hL,<-hS];have H0:=Kh a0;have H1:=Kh a1;have H8:=Kh hL;have b0:=Kh hS;clear hf hn a0 a1 hL hS;obtain⟨wA,H6⟩:∃wA,wA=w.alloc (.cells #[.int .i64 L,.int .i64 S,.slice fa n fc,.slice na m nc] 42):=⟨_,rfl⟩;have h3:wA.heap[w.heap.size]?=some (.cells #[.int .i64 L,.int .i64 S,.slice fa n fc,.slice na m nc] 42 (0,0)):=by rw[H6];exact heap_alloc_new w _
 have a7:w.grownBy wA none:=by rw[H6];exact Ga w _ none
 have c0:=zI h3 0 (by simp);have c1:=zI h3 1 (by simp);have c2:=zI h3 2 (by simp);have c3:=zI h3 3 (by simp);simp only[List.getElem_toArray,List.getElem_cons_zero,List.getElem_cons_succ]at c0 c1 c2 c3;have h4:=Kh a7;have h9:=Kh H6;clear h3 a7 H6;by_cases hl:L<1\/6<L
 ·have HE:=Kh (lK (d:=d) (by rw[<-H8.out];exact hl))
  have h8:decide (1<=L/\L<=6)=false:=decide_eq_false (by omega);go_enter Try.func32,Try.ntmps32;go_wp2_with fail;rw[<-h9.out];refine(yK wA L).mono ?_;rintro e w1 ⟨rfl,rfl⟩;rw[h8];go_wp2;go_ret;exact⟨yB HE.out.symm,h4.out⟩
 ·have c7:1<=L:=by omega
  have c6:L<=6:=by omega
  have H2:Hid (¬(d.letters<1\/6<d.letters)):=Kh (by rw[<-H8.out];exact hl);have h8:decide (1<=L/\L<=6)=true:=decide_eq_true (by omega);clear hl;by_cases h5:512<n
  ·have HE:=Kh (cL H2.out (by rw[<-H0.out];exact h5))
   go_enter Try.func32,Try.ntmps32;go_wp2_with fail;rw[<-h9.out];refine(yK wA L).mono ?_;rintro e w1 ⟨rfl,rfl⟩;rw[h8];go_wp2;go_ret;exact⟨yB HE.out.symm,h4.out⟩
  ·have H5:Hid (¬512<d.final.length):=Kh (by rw[<-H0.out];exact h5)
   by_cases hsh:n=0\/m≠n\/S<0\/n<=S
   ·have HE:=Kh (iR H2.out H5.out (by rw[<-H0.out,<-H1.out,<-b0.out];exact hsh))
    by_cases h0:n=0
    ·have e0:((n:Int) == 0)=true:=by rw[beq_iff_eq];omega
     clear hsh h0;go_enter Try.func32,Try.ntmps32;go_wp2_with fail;rw[<-h9.out];refine(yK wA L).mono ?_;rintro e w1 ⟨rfl,rfl⟩;rw[h8];go_wp2;go_ret;exact⟨yB HE.out.symm,h4.out⟩
    ·have e0:((n:Int) == 0)=false:=by rw[beq_eq_false_iff_ne];omega
     by_cases h7:m=n
     ·have e1:((m:Int) != n)=false:=by rw[h7];simp
      have b7:=Kh h7;by_cases hs:S<0
      ·clear hsh h7
       go_enter Try.func32,Try.ntmps32;go_wp2_with fail;rw[<-h9.out];refine(yK wA L).mono ?_;rintro e w1 ⟨rfl,rfl⟩;rw[h8];go_wp2;go_ret;exact⟨yB HE.out.symm,h4.out⟩
      ·have b1:(n:Int)<=S:=by omega
       clear hsh h7;go_enter Try.func32,Try.ntmps32;go_wp2_with fail;rw[<-h9.out];refine(yK wA L).mono ?_;rintro e w1 ⟨rfl,rfl⟩;rw[h8];go_wp2;go_ret;exact⟨yB HE.out.symm,h4.out⟩
     ·have e1:((m:Int) != n)=true:=by rw[bne_iff_ne];omega
      clear hsh;go_enter Try.func32,Try.ntmps32;go_wp2_with fail;rw[<-h9.out];refine(yK wA L).mono ?_;rintro e w1 ⟨rfl,rfl⟩;rw[h8];go_wp2;go_ret;exact⟨yB HE.out.symm,h4.out⟩
   ·have H7:Hid (¬(d.final.length=0\/d.next.length≠d.final.length\/d.start<0\/d.final.length<=d.start)):=Kh (by rw[<-H0.out,<-H1.out,<-b0.out];exact hsh)
    have h0:0<n:=(by omega);have e0:((n:Int) == 0)=false:=by rw[beq_eq_false_iff_ne];omega
    have h7:m=n:=by omega
    have e1:((m:Int) != n)=false:=by rw[h7];simp
    have c4:0<=S:=by omega
    have b1:S<n:=(by omega);have b2:0<m:=(by omega);have a9:Mat B wA (.slice na m nc) d.next:=HN.out.kept h4.out (by simp);obtain⟨b,off,cap,A,C,e,b6,b5,a6⟩:=a9.some_ (by rw[<-H1.out];exact b2);simp only[Value.slice.injEq]at e;obtain⟨rfl,-,rfl⟩:=e;rw[<-H1.out]at b6;have c5:nc<=9223372036854775807:=by unfold maxLen at b5;omega
    have HM:=Kh a6;have b7:=Kh h7;clear hsh h7 a9 a6;go_enter Try.func32,Try.ntmps32;go_wp2_with fail;rw[<-h9.out];refine(yK wA L).mono ?_;rintro e w1 ⟨rfl,rfl⟩;rw[h8];go_wp2
    go_loopg [40] m (fun g i wr=>∃k:Nat,g+k=m/\i=.int .i64 k/\qJV d k/\wA=wr)
    case atStart=>exact⟨0,rfl,rfl,fun x hx=>absurd hx (by omega),rfl⟩
    case round =>
     obtain⟨k,hg,rfl,H3,rfl⟩:=hrel;have OK:=Kh H3;have HG:=Kh hg;clear H3 hg;by_cases hk:k<m
     ·have H4:k<d.next.length:=by rw[<-H1.out];exact hk
      have a8:=HM.out.hd k H4;have h6:=HM.out.row k H4;have H9:=h6.len_le;rw[yE]at H9;unfold maxLen at H9;obtain⟨r,hr⟩:∃r,r=d.next.getD k []:=⟨_,rfl⟩;rw[<-hr]at a8 h6 H9;have HR:=Kh hr;have a3:=Kh H4;clear hr H4;by_cases hlr:(r.length:Int)=L
      ·have b8:=Kh hlr
       have b3:((r.length:Int) != L)=false:=by rw[hlr];simp
       obtain⟨rb,ro,rc,e,hb,h1,h2,a4⟩:=h6.some_ (by rw[yE];omega);simp only[Value.slice.injEq]at e;obtain⟨eA,-,rfl⟩:=e;rw[eA]at a8;rw[yE]at h1;have HA:=Kh eA;have RA:=Kh a4;clear eA a4 hlr h6;go_wp2
       go_loopg [51] r.length (fun g j wr'=>∃y:Nat,g+y=r.length/\j=.int .i64 y/\qJH n r y/\wA=wr')
       case atStart=>exact⟨0,rfl,rfl,fun x hx=>absurd hx (by omega),rfl⟩
       case round =>
        obtain⟨y,hg,rfl,H3,rfl⟩:=hrel;have OKY:=Kh H3;have b9:=Kh hg;clear H3 hg;by_cases hy:y<r.length
        ·have b4:=RA.out.int y hy
         obtain⟨z,hz⟩:∃z,z=r.getD y 0:=⟨_,rfl⟩;rw[<-hz]at b4;have HZ:=Kh hz;clear hz;by_cases hb1:z<0
         ·have HE:=Kh (rW H2.out H5.out H7.out a3.out (by rw[<-HR.out];exact gO (y:=y) hy (by rw[<-HZ.out];exact .inl hb1)))
          go_wp2;go_ret;exact⟨yB HE.out.symm,h4.out⟩
         ·by_cases hb2:(n:Int)<=z
          ·have HE:=Kh (rW H2.out H5.out H7.out a3.out (by rw[<-HR.out];exact gO (y:=y) hy (by rw[<-HZ.out,<-H0.out];exact .inr hb2)))
           go_wp2;go_ret;exact⟨yB HE.out.symm,h4.out⟩
          ·go_wp2
           go_roundg (r.length-(y+1))
           case measure=>have:=b9.out;omega
           case rel =>
            refine⟨y+1,by omega,by go_num,fun x hx=>?_,rfl⟩;rcases Nat.lt_succ_iff_lt_or_eq.1 hx with hx|rfl
            ·exact OKY.out x hx
            ·rw[<-HZ.out];omega
        ·go_wp2
         go_roundg (m-(k+1))
         case measure=>have:=HG.out;omega
         case rel =>
          refine⟨k+1,by omega,by go_num,fun x hx=>?_,rfl⟩;rcases Nat.lt_succ_iff_lt_or_eq.1 hx with hx|rfl
          ·exact OK.out x hx
          ·rw[<-HR.out,oM,<-H0.out,<-H8.out]
           exact⟨b8.out,fun z hz=>OKY.out z (by omega)⟩
      ·have b3:((r.length:Int) != L)=true:=by rw[bne_iff_ne];exact hlr
       have HE:=Kh (rW H2.out H5.out H7.out a3.out (by rw[<-HR.out];exact qEH (by rw[<-H8.out];exact hlr)));clear hlr;go_wp2;go_ret;exact⟨yB HE.out.symm,h4.out⟩
     ·have HE:=Kh (qAZ H2.out H5.out H7.out (fun q hq=>OK.out q (by have:=H1.out;omega)))
      go_wp2;go_ret;exact⟨yB HE.out.symm,h4.out⟩
open Go.Maps
def qGB (d : DfaV)(ps : List (List ByteArray))(n E : Int): Prop :=
 (ofE d ps ≠ 0 ∧ n = 0 ∧ E = ofE d ps) ∨ (ofE d ps = 0 ∧ n = 0 ∧ E = 3 ∧ Over (ofT d ps) d.letters.toNat) ∨
  (ofE d ps = 0 ∧ ∃ (L : List (List Nat)) (sets : List (List Bool)) (ys ns : List Bool), BfsD (nxtT (ofT d ps)) d.letters.toNat (st0T (ofT d ps)) L ∧ L.length ≤ 4000 ∧ GrpI (MT (ofT d ps) ps.length L) (AT (ofT d ps) ps.length L) L.length L.length sets ys ns ∧ n = (sets.length : Int) ∧
   ((E = 20 ∧ ∃ i, i < sets.length ∧ ys.getD i false = true ∧ ns.getD i false = true) ∨ (E = 0 ∧ ∀ i, i < sets.length → ¬ (ys.getD i false = true ∧ ns.getD i false = true))))
def qJK (w:World)(d:DfaV)(ps:List (List ByteArray))(e:Ending)(w':World):Prop:=∃n E,e=.returned (.tuple #[.int .i64 n,.int .i64 E])/\w.grownBy w' none/\qGB d ps n E
theorem rcan_any (Bd:Nat)(w:World)(dv pv:Value)(d:DfaV)(ps:List (List ByteArray))(hBd:Bd<=w.heap.size)(hd:tE Bd w dv d)(hp:vS Bd w pv ps)(hp4:ps.length<=4096)(h14:∀p∈ps,patW p d.letters=0->sQ p<=14):Calls Try.prog 20 #[dv,pv] w (qJK w d ps):=by
 have H0:=hd;obtain⟨fv,nv,rfl,hf,hn⟩:=hd;obtain⟨fa,fc,rfl⟩:=hf.shape;rw[xC]at H0 hf⊢;obtain⟨na,nc,rfl⟩:=hn.shape;obtain⟨pa,pc,rfl⟩:=hp.shape;obtain⟨np,H3⟩:∃n,n=ps.length:=⟨_,rfl⟩;obtain⟨fl,a9⟩:∃n,n=d.final.length:=⟨_,rfl⟩;obtain⟨nl,a5⟩:∃n,n=d.next.length:=⟨_,rfl⟩;obtain⟨dl,b1⟩:∃n,n=d.letters:=⟨_,rfl⟩;obtain⟨ds,b0⟩:∃n,n=d.start:=⟨_,rfl⟩;rw[<-H3]at hp;rw[<-H3];rw[<-a9,<-a5,<-b1,<-b0]at H0⊢;have HD:=Kh H0;have HP:=Kh hp;obtain⟨wA,H5⟩:∃wA,wA=w.alloc (.cells #[.int .i64 dl,.int .i64 ds,.slice fa fl fc,.slice na nl nc] 42):=⟨_,rfl⟩;have h5:=Ga w (.cells #[.int .i64 dl,.int .i64 ds,.slice fa fl fc,.slice na nl nc] 42) none;have h7:=heap_alloc_new w (.cells #[.int .i64 dl,.int .i64 ds,.slice fa fl fc,.slice na nl nc] 42);obtain⟨Q,hQ⟩:∃Q,Q=w.heap.size:=⟨_,rfl⟩;rw[<-H5]at h5 h7;rw[<-hQ]at h7;obtain⟨c0,c1,c2,c3⟩:=zF h7;have b8:=Kh hQ;have b4:=Kh h5;have c7:=Kh h7;have b7:=Kh H5;have H7:=Kh (validate7_any Bd wA _ d (by have:=h5.size;omega) (HD.out.kept h5 (by simp)));have H8:Hid (∀W:World,wA.grownBy W none->wI d=0->Calls Try.prog 62 #[.agg #[.int .i64 dl,.int .i64 ds,.slice fa fl fc,.slice na nl nc],.slice pa np pc] W (qIF W d ps)):=Kh (fun W hW h0=>rgroups_any Bd W _ _ d ps (by have:=h5.size;have:=hW.size;omega) (HD.out.kept (zA h5 hW (by simp)) (by simp)) (HP.out.kept (zA h5 hW (by simp)) (by simp)) hp4 h0 h14);obtain⟨E,hE⟩:∃E,E=wI d:=⟨_,rfl⟩;rw[<-hE]at H7 H8;have HE:=Kh hE;clear h7 h5 H5 hQ hf hn H0 hp H3 a9 a5 b1 b0 hE h14;go_enter Try.func20,Try.ntmps20;go_upto_region 1 with fail;rw[<-b7.out,<-b8.out];go_wp2_with fail;refine H7.out.mono ?_;rintro e w1 ⟨rfl,H4⟩;have a1:=Kh H4;have c6:=Kh (zB c7.out H4 (by simp));clear H4 c0 c1 c2 c3;by_cases hE0:E=0
 case neg =>
  have e1:(E != 0)=true:=by rw[bne_iff_ne];exact hE0
  have h9:Hid (ofE d ps=E):=Kh (by rw[qGX (by rw[<-HE.out];exact hE0),HE.out]);have c5:=Kh hE0;clear hE0;go_wp2;refine bodyPost_ret (v:=.tuple #[.int .i64 0,.int .i64 E]) (by simp[results,Try.results20,go_sem]) rfl ?_;exact⟨0,E,rfl,zA b4.out a1.out (by simp),.inl ⟨by rw[h9.out];exact c5.out,rfl,h9.out.symm⟩⟩
 case pos =>
  subst hE0;obtain⟨c0,c1,c2,c3⟩:=zF c6.out;have h6:=Kh (H8.out w1 a1.out rfl);go_wp2_with fail;refine h6.out.mono ?_;have H1:Hid (ofE d ps=autE d.letters ps):=Kh (by unfold ofE;rw[if_pos HE.out.symm];rfl);clear c0 c1 c2 c3 h6 H8 H7;rintro e w2 ⟨a8,H2⟩;have a0:=Kh (zA (zA b4.out a1.out (by simp)) a8 (by simp));clear a8;rcases H2 with ⟨a,rfl,ha0,hwhy⟩|⟨haE,B,L,sets,ys,ns,m,sc,yc,nc',sa,ya,na',rfl,hB,hm,hbfs,hl4,h4,hoy,hon⟩
  ·have e1:(a != 0)=true:=by rw[bne_iff_ne];exact ha0
   have c8:=Kh ha0;have H6:=Kh hwhy;clear ha0 hwhy;go_wp2;refine bodyPost_ret (v:=.tuple #[.int .i64 0,.int .i64 a]) (by simp[results,Try.results20,go_sem]) rfl ?_;refine⟨0,a,rfl,a0.out,?_⟩;rcases H6.out with h|⟨h1,h2,h3⟩
   ·exact .inl ⟨by rw[H1.out,<-h];exact c8.out,rfl,by rw[H1.out,<-h]⟩
   ·exact .inr (.inl ⟨by rw[H1.out,h1],rfl,h2,h3⟩)
  ·have h8:Hid (∀E:Int,((E=20/\∃i,i<sets.length/\ys.getD i false=true/\ns.getD i false=true)\/(E=0/\∀i,i<sets.length->¬(ys.getD i false=true/\ns.getD i false=true)))->qGB d ps (m:Int) E):=Kh (fun E h=>.inr (.inr ⟨by rw[H1.out,haE],L,sets,ys,ns,hbfs,hl4,h4,by rw[hm],h⟩))
   have HM:=Kh hm;have b9:=Kh hoy;have c4:=Kh hon;have b3:Hid (ys.length=m/\ns.length=m):=Kh ⟨by rw[h4.leny,hm],by rw[h4.lenn,hm]⟩;have d1:m<=4000:=by have:=h4.len_le;omega
   clear haE hB hm hbfs hl4 h4 hoy hon;obtain⟨w5,rfl⟩:∃w5:World,w5=w2:=⟨_,rfl⟩;go_wp2
   go_loopg [11,30] m (fun gh v11 v30 wr=>∃i:Nat,gh+i=m/\v30=.int .i64 i/\w5.grownBy wr none/\∀x,x<i->¬(ys.getD x false=true/\ns.getD x false=true))
   case atStart=>exact⟨0,rfl,rfl,zH _ _,fun x hx=>by omega⟩
   case round =>
    obtain⟨i,h4,rfl,hg,a4⟩:=hrel;have H9:=Kh h4;have b2:=Kh a4;have HG:=Kh hg;clear h4 a4;by_cases hi:i<m
    ·have b6:(i:Int)<m:=by omega
     obtain⟨yb,rfl,c9,a3,a2⟩:=yG (zP b9.out hg) (by omega);obtain⟨nb,rfl,d0,a7,a6⟩:=yG (zP c4.out hg) (by omega);have cy:=a2.bool i (by rw[b3.out.1];exact hi);have cn:=a6.bool i (by rw[b3.out.2];exact hi);obtain⟨y,hy⟩:∃y,y=ys.getD i false:=⟨_,rfl⟩;obtain⟨z,hz⟩:∃z,z=ns.getD i false:=⟨_,rfl⟩;rw[<-hy]at cy;rw[<-hz]at cn;have HY:=Kh hy;have HZ:=Kh hz;have ky:yc<=9223372036854775807:=by unfold maxLen at a3;omega
     have kn:nc'<=9223372036854775807:=by unfold maxLen at a7;omega
     clear hy hz a2 a6 hg a3 a7;cases y<;>cases z
     case true.true =>
      go_wp2;refine bodyPost_ret (v:=.tuple #[.int .i64 (m:Int),.int .i64 20]) (by simp[results,Try.results20,go_sem]) rfl ?_;exact⟨m,20,rfl,zA a0.out HG.out (by simp),h8.out 20 (.inl ⟨rfl,i,by rw[<-HM.out];exact hi,HY.out.symm,HZ.out.symm⟩)⟩
     all_goals
      go_wp2;go_roundg (m-(i+1))
      case measure=>have:=H9.out;omega
      case rel =>
       refine⟨i+1,by have:=H9.out;omega,by go_num,HG.out,fun x hx=>?_⟩;rcases Nat.lt_succ_iff_lt_or_eq.1 hx with hx|rfl
       ·exact b2.out x hx
       ·rw[<-HY.out,<-HZ.out];simp
    ·have b5:i=m:=by have:=H9.out;omega
     have b6:¬(i:Int)<m:=(by omega);subst b5;go_wp2;refine bodyPost_ret (v:=.tuple #[.int .i64 (i:Int),.int .i64 0]) (by simp[results,Try.results20,go_sem]) rfl ?_;exact⟨i,0,rfl,zA a0.out HG.out (by simp),h8.out 0 (.inr ⟨rfl,by rw[<-HM.out];exact b2.out⟩)⟩
end Go.Proofs.Ytjfdomfendbhfaa
namespace Go.Proofs.Ytjfdomfendbhfaa
theorem qHU {nxt:List Nat->Nat->List Nat}{k:Nat}{s0:List Nat}{L:List (List Nat)}(h:BfsD nxt k s0 L):∀(u:List Nat) (x:List Nat),yO k u->x∈L->sM nxt x u∈L
 | [],x,_,hx=>hx
 | a::u,x,hu,hx=>qHU h u (nxt x a) (fun b hb=>hu b (List.mem_cons_of_mem _ hb)) (h.cl x hx a (hu a (List.mem_cons_self ..)))
theorem bfs_sub {nxt:List Nat->Nat->List Nat}{k:Nat}{s0:List Nat}{L L':List (List Nat)}(h:BfsD nxt k s0 L)(h':BfsD nxt k s0 L'){x:List Nat}(hx:x∈L):x∈L':=by
 obtain⟨u,hu,rfl⟩:=h.re x hx;exact qHU h' u s0 hu (List.mem_of_getElem? h'.hd)
theorem qJC {nxt:List Nat->Nat->List Nat}{k:Nat}{s0:List Nat}{L L':List (List Nat)}(h:BfsD nxt k s0 L)(h':BfsD nxt k s0 L'){i:Nat}(hi:i<L.length):∃j,j<L'.length/\L'.getD j []=L.getD i []:=by
 obtain⟨j,hj,e⟩:=List.getElem_of_mem (bfs_sub h h' (List.getElem_mem hi));exact⟨j,hj,by rw[zG hj,zG hi,e]⟩
theorem grp_conf {ds:List DfaV}{np k:Nat}{L:List (List Nat)}{sets:List (List Bool)}{ys ns:List Bool}(hn:np<ds.length)(hL:BfsD (nxtT ds) k (st0T ds) L)(h:GrpI (MT ds np L) (AT ds np L) L.length L.length sets ys ns):(∃i,i<sets.length/\ys.getD i false=true/\ns.getD i false=true)↔Conf ds np k:=by
 constructor
 ·rintro ⟨i,hi,hy,hz⟩
  obtain⟨a,ha,e1,e2⟩:=(h.yes i hi).1 hy;obtain⟨b,hb,e3,e4⟩:=(h.no i hi).1 hz;exact(lE hn hL).2 ⟨L.getD a [],L.getD b [],by rw[zG ha];exact List.getElem_mem ha,by rw[zG hb];exact List.getElem_mem hb,e1.trans e3.symm,e2,e4⟩
 ·intro hc
  obtain⟨x,y,hx,hy,h1,h2,h3⟩:=(lE hn hL).1 hc;obtain⟨i,hi,rfl⟩:=List.getElem_of_mem hx;obtain⟨j,hj,rfl⟩:=List.getElem_of_mem hy;rw[<-zG (d:=[]) hi]at h1 h2;rw[<-zG (d:=[]) hj]at h1 h3;obtain⟨q,hq,e⟩:=List.getElem_of_mem (h.all i hi);rw[<-zG (d:=[]) hq]at e;exact⟨q,hq,(h.yes q hq).2 ⟨i,hi,e.symm,h2⟩,(h.no q hq).2 ⟨j,hj,h1.symm.trans e.symm,h3⟩⟩
theorem of_can {w':World}{d:DfaV}{ps:List (List ByteArray)}{v:Value}{u1 u2:ByteArray}{E n F:Int}(h:OfOut w' d ps v u1 u2 E)(h':qGB d ps n F):E=F:=by
 have h0:ps.length<(ofT d ps).length:=by rw[uO];omega
 rcases h' with ⟨a1,_,a3⟩|⟨a1,_,a3,a4⟩|⟨a1,L',sets,ys,ns,hL',hl',hg,hn',hF⟩
 ·cases h with
  | bad _=>exact a3.symm
  | over h _=>exact absurd h a1
  | conf h=>exact absurd h a1
  | ok _ _ _ _ h=>exact absurd h a1
 ·cases h with
  | bad h=>exact absurd a1 h
  | over _ _=>exact a3.symm
  | conf _ hu=>exact(rX hu a4).elim
  | ok _ _ _ L _ hL hl4=>exact(rX ⟨L,hL,hl4⟩ a4).elim
 ·have hc:=grp_conf h0 hL' hg
  cases h with
  | bad h=>exact absurd a1 h
  | over _ ho=>exact(rX ⟨L',hL',hl'⟩ ho).elim
  | conf _ _ hcf =>
   rcases hF with ⟨e,_⟩|⟨_,e2⟩
   ·exact e.symm
   ·obtain⟨i,hi,h1⟩:=hc.2 hcf
    exact(e2 i hi h1).elim
  | ok _ _ _ _ _ _ _ hno =>
   rcases hF with ⟨_,e2⟩|⟨e,_⟩
   ·exact absurd (hc.1 e2) hno
   ·exact e.symm
theorem cls_can {d:DfaV}{ps:List (List ByteArray)}{n F:Int}{l:List ClaV}{L:List (List Nat)}(hL:BfsD (nxtT (ofT d ps)) d.letters.toNat (st0T (ofT d ps)) L)(hl4:L.length<=4000)(hc:ClsI (MT (ofT d ps) ps.length L) (AT (ofT d ps) ps.length L) L.length L.length l)(h0:ofE d ps=0)(h':qGB d ps n F):n=(l.length:Int):=by
 rcases h' with ⟨a1,_⟩|⟨_,_,_,a4⟩|⟨_,L',sets,ys,ns,hL',_,hg,hn',_⟩
 ·exact absurd h0 a1
 ·exact(rX ⟨L,hL,hl4⟩ a4).elim
 ·rw[hn',cls_grp hc hg (fun i hi=>by obtain⟨j,hj,e⟩:=qJC hL hL' hi;exact⟨j,hj,by simp only[MT,e]⟩) (fun i hi=>by obtain⟨j,hj,e⟩:=qJC hL' hL hi;exact⟨j,hj,by simp only[MT,e]⟩)]
end Go.Proofs.Ytjfdomfendbhfaa
