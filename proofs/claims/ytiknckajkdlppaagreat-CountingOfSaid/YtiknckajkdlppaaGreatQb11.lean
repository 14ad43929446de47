/- Part 11 of the proof. -/
import Derived.Test.YtiknckajkdlppaaGreatQb8
set_option linter.unusedVariables false
set_option linter.unusedSimpArgs false
set_option maxRecDepth 100000
set_option maxHeartbeats 16000000
namespace Go.Proofs.YtiknckajkdlppaaGreat
open Go.RowKit
theorem bY (w:World)(P0:Nat)(X:Nat->Prop)(gs a5:List (List Nat))(pre a8:List Int)(n m u:Nat)(us a4:List Value)(gA:Option Addr)(gN gC:Nat)(sE:Option Addr)(cE:Nat)(sP:Option Addr)(cP:Nat)(sL:Option Addr)(cL:Nat)(sU:Option Addr)(cU:Nat)(bd:Nat)(hM:EMem X w [⟨P0,22,.slice sE m cE,m,a4,1⟩,⟨P0,3,.slice sP m cP,m,ints pre,1⟩,⟨P0,3,.slice sL m cL,m,ints a8,1⟩,⟨P0,111,.slice sU u cU,u,us,2⟩])(hE:xX X 3 nats w a4 a5)(hG:TX X w (.slice gA gN gC) gs)(b9:∀v∈a4,v.oneCell'=true)(a1:∀v∈us,v.oneCell'=true)(hl:a5.length=m)(a7:pre.length=m)(a6:a8.length=m)(a9:∀f∈a5,IsT n f)(b8:∀g∈gs,IsT n g)(a3:gN=gs.length)(b7:n<=32)(a2:qA pre a8 m gs.length)(b6:gs.length<=6)(hm:m<=7)(hu:u<=7)(b5:bd<=2001):Calls Tryz.prog 62 #[.agg #[.int .i64 n,.bool true,.slice gA gN gC,.slice sE m cE,.slice sP m cP,.slice sL m cL,.slice none 0 0,.slice sU u cU,.int .i64 0],.int .i64 bd] w (qQD gs a5 pre a8 n bd (.slice gA gN gC) w):=by
 obtain⟨wA,A6⟩:=Nm ((w.alloc (.cells #[.int .i64 n,.bool true,.slice gA gN gC,.slice sE m cE,.slice sP m cP,.slice sL m cL,.slice none 0 0,.slice sU u cU,.int .i64 0] 75)).alloc (.cells #[.int .i64 0,.bool false,.slice none 0 0,.slice none 0 0,.slice none 0 0,.slice none 0 0,.slice none 0 0,.slice none 0 0,.int .i64 0] 75));obtain⟨x1,x0,z7,E6⟩:=rK w #[.int .i64 n,.bool true,.slice gA gN gC,.slice sE m cE,.slice sP m cP,.slice sL m cL,.slice none 0 0,.slice sU u cU,.int .i64 0] #[.int .i64 0,.bool false,.slice none 0 0,.slice none 0 0,.slice none 0 0,.slice none 0 0,.slice none 0 0,.slice none 0 0,.int .i64 0] 75;rw[<-A6]at x1 x0 z7 E6;obtain⟨P,hP⟩:=Nm w.heap.size;have e2:=Kh hP;rw[<-hP]at x1 x0 E6;obtain⟨w5,y3⟩:=Nm wA.drew;have o2:wA.grownBy w5 none:=by rw[y3];exact zY wA none
 have L0:=Kh y3;have g1:=zE z7 o2;have D7:=Kh (zD x1 o2);have M5:=Kh (zD x0 o2);obtain⟨L8,K9,HM,HE,U1,S9⟩:=Kf g1 A6 hM hE hG b9;have S8:=Kh a1;have O1:=o2.size
 have HS:Hid ((∀W:World,GrownBut w5 W (fun _=>False)->tM W 1 (.slice sE m cE) m a4)/\(∀W:World,GrownBut w5 W (fun _=>False)->tM W 1 (.slice sP m cP) m (ints pre))/\(∀W:World,GrownBut w5 W (fun _=>False)->tM W 1 (.slice sL m cL) m (ints a8))/\(∀W:World,GrownBut w5 W (fun _=>False)->tM W 1 (.slice none 0 0) 0 [])/\(∀W:World,GrownBut w5 W (fun _=>False)->tM W 2 (.slice sU u cU) u us)):=Kh (by
  refine⟨fun W hW=>fD (oO (hM.own ⟨P0,22,.slice sE m cE,m,a4,1⟩ yq)) (zE g1 (lQ hW)),fun W hW=>fD (oO (hM.own ⟨P0,3,.slice sP m cP,m,ints pre,1⟩ yq)) (zE g1 (lQ hW)),fun W hW=>fD (oO (hM.own ⟨P0,3,.slice sL m cL,m,ints a8,1⟩ yq)) (zE g1 (lQ hW)),fun W _=>.inl ⟨none,0,rfl,rfl,rfl⟩,fun W hW=>fD (oO (hM.own ⟨P0,111,.slice sU u cU,u,us,2⟩ yq)) (zE g1 (lQ hW))⟩)
 clear x1 x0 z7 A6 y3 o2 g1 hM hE hG b9 a1;obtain⟨T5,T7,T4⟩:=Kc a9 b8 hl;clear a9 b8 hl;have k9:=Kh a3;clear a3;obtain⟨L2,L5,L4⟩:=Kc a7 a6 a2;clear a7 a6 a2;have Y4:=@run_makeMap Tryz.prog;go_enter Tryz.func62,Tryz.ntmps62;go_upto_region 1 with fail;rw[<-K9.out,<-e2.out];clear hP
 have C:Hid (w5.cell? ⟨P,0,none⟩=some (.int .i64 n)/\w5.cell? ⟨P,1,none⟩=some (.bool true)/\w5.cell? ⟨P,2,none⟩=some (.slice gA gN gC)/\w5.cell? ⟨P,3,none⟩=some (.slice sE m cE)/\w5.cell? ⟨P,4,none⟩=some (.slice sP m cP)/\w5.cell? ⟨P,5,none⟩=some (.slice sL m cL)/\w5.cell? ⟨P,6,none⟩=some (.slice none 0 0)/\w5.cell? ⟨P,7,none⟩=some (.slice sU u cU)/\w5.cell? ⟨P,8,none⟩=some (.int .i64 0)):=Kh (by
  obtain⟨q0,q1,q2,q3,q4,q5,q6,q7,q8⟩:=yD D7.out
  exact⟨q0,q1,q2,q3,q4,q5,q6,q7,q8⟩)
 refine wp_region_noPanic ?_;refine yI (G:=xM 99 (fun W=>W.cell? ⟨P,0,none⟩=some (.int .i64 n)/\W.cell? ⟨P,1,none⟩=some (.bool true)/\W.cell? ⟨P,2,none⟩=some (.slice gA gN gC)/\W.cell? ⟨P,3,none⟩=some (.slice sE m cE)/\W.cell? ⟨P,4,none⟩=some (.slice sP m cP)/\W.cell? ⟨P,5,none⟩=some (.slice sL m cL)/\W.cell? ⟨P,6,none⟩=some (.slice none 0 0)/\W.cell? ⟨P,7,none⟩=some (.slice sU u cU)/\W.cell? ⟨P,8,none⟩=some (.int .i64 0)) (fun _=>True)) yk ?_;rw[<-L0.out];refine zP 0 ?_;refine zP 1 ?_;refine zP 2 ?_;refine zP 3 ?_;refine zP 4 ?_;refine zP 5 ?_;refine zP 7 ?_;refine zP 8 ?_;refine zP 11 ?_;refine zP 12 ?_;refine zP 15 ?_;refine zP 16 ?_;refine zP 19 ?_;refine zP 20 ?_;refine zP 23 ?_;refine zP 24 ?_;refine zP 26 ?_;refine zP 27 ?_;refine uM (fun Wp hWp a0 ha0=>?_);subst hWp
 try simp only[Act.put,sPd,sPe,sPf,sPa,sPb,sPc]at ha0
 have D9:=Kh ha0;refine uL (I:=proc1I n P P m u pre a8 us a4 sE cE sP cP sL cL sU cU gA gN gC w5 a0) (fun l a w h=>qQV D7.out h) (qDG ha0 yo yo yo HS.out.1 HS.out.2.1 HS.out.2.2.1 HS.out.2.2.2.1 HS.out.2.2.2.2 S9.out (fun v hv=>by obtain⟨y,_,rfl⟩:=List.mem_map.1 hv;rfl) (fun v hv=>by obtain⟨y,_,rfl⟩:=List.mem_map.1 hv;rfl) (fun v hv=>by simp at hv) S8.out) yk ?hend (by decide +kernel) ?hinit
 case hinit =>
  clear ha0;refine⟨a0.tmps.getD 24 undef,a0.tmps.getD 27 undef,a0.tmps.getD 28 undef,a0.tmps.getD 31 undef,a0.tmps.getD 32 undef,a0.tmps.getD 35 undef,a0.tmps.getD 36 undef,a0.tmps.getD 39 undef,a0.tmps.getD 40 undef,a0.tmps.getD 43 undef,a0.tmps.getD 46 undef,a0.tmps.getD 6 undef,.slice none 0 0,0,[],.slice none 0 0,0,[],.slice none 0 0,0,[],.slice none 0 0,0,[],.slice none 0 0,0,[],0,(uF yq).symm,by decide +kernel,Kh (fun _=>⟨rfl,rfl,rfl⟩),hs7C,hs7C,Kh (fun _=>⟨rfl,rfl,rfl⟩),hs7C,hs7C,Kh (fun _=>⟨rfl,rfl,rfl⟩),hs7C,hs7C,Kh (fun _=>⟨rfl,rfl,rfl⟩),hs7C,hs7C,Kh (fun _=>⟨rfl,rfl,rfl⟩),hs7C,hs7C,hs7C,hs7C,hs7C,hs7C,?hMM⟩;refine Many.start (fun r hr=>?_) (fun r hr k hk=>?_) ?_
  ·simp only[List.mem_cons,List.not_mem_nil,or_false]at hr
   rcases hr with rfl|rfl|rfl|rfl|rfl<;>exact World.ownsRow_nil _ _ _ _
  ·simp only[List.mem_cons,List.not_mem_nil,or_false]at hr
   rcases hr with rfl|rfl|rfl|rfl|rfl<;>simp[Value.ownBlock]at hk
  simp[Value.ownBlock]
 clear ha0;intro l a w6 h h7;obtain⟨x24,x27,x28,x31,x32,x35,x36,x39,x40,x43,x46,x6,vE,nE,yE,vP,nP,yP,vL,nL,yL,vR,nR,yR,vU,nU,yU,o,ha,HR,V4,H6,H9,m5,y0,N3,E4,E5,N1,E1,E2,N0,E0,V6,M9,M8,M7,B1,B2,x7⟩:=h;obtain⟨_,sE',cE',rfl,rfl,P1,N8⟩:=H9.out (h7 9 jd);obtain⟨_,sP',cP',rfl,rfl,O8,N6⟩:=N3.out (h7 13 jd);obtain⟨_,sL',cL',rfl,rfl,O9,N7⟩:=N1.out (h7 17 jd);obtain⟨_,sR',cR',rfl,rfl,O7,N5⟩:=N0.out (h7 21 jd);obtain⟨_,sU',cU',rfl,rfl,O6,N4⟩:=M9.out (h7 25 jd);obtain⟨rfl,Y3⟩:=M7.out (h7 29 jd);obtain⟨_,_,_,_,_,_,_,_,_,_,_,_,A4⟩:=B2.out (h7 30 jd);obtain⟨_,_,_,_,_,_,_,_,_,_,rfl⟩:=M8.out (h7 28 jd);clear V4 H6 H9 m5 y0 N3 E4 E5 N1 E1 E2 N0 E0 V6 M9 M8 M7 B1 B2 HR;subst P1;subst O8;subst O9;subst O7;subst O6;subst N8;subst N6;subst N7;subst N5;subst N4;subst ha;rw[D9.out];simp only[yK,List.foldl_cons,List.foldl_nil,Act.put,sPa,sPb,sPc];refine NoPanic.normal ?_;have K1:EMem X w6 _:=(HM.out.grow L8.out).after x7 (fun j hj=>hj.elim);have z9:=zE L8.out (lQ x7.but);have kX:wG X w w6:=HM.out.keep z9;have r7:=zD M5.out (lQ x7.but);obtain⟨x9,L9,L6,M4,t3⟩:=Ke K1 z9 kX A4 r7;have F9:P+1<o:=yo
 have Y5:=zS A4;clear K1 z9 kX A4 r7 x7 C HS D7 M5 K9 L0;have j2:=Ga w6 (.map #[] 0) none;have B6:=zD M4.out j2;obtain⟨q0,q1,q2,q3,q4,q5,q6,q7,q8⟩:=yD B6;have H7:=tK.made w6;clear q0 q1 q2 q4 q5 q6 q7 q8;go_wp2
 have J4:WordsS X w P o w6.heap.size [⟨P,22,.slice sE' m cE',m,a4,1⟩,⟨P,3,.slice sP' m cP',m,ints pre,1⟩,⟨P,3,.slice sL' m cL',m,ints a8,1⟩,⟨P,22,.slice sR' 0 cR',0,[],1⟩,⟨P,111,.slice sU' u cU',u,us,2⟩] #[.int .i64 n,.bool true,.slice gA gN gC,.slice sE' m cE',.slice sP' m cP',.slice sL' m cL',.slice sR' 0 cR',.slice sU' u cU',.int .i64 0] m 0 none 0 (w6.alloc (.map #[] 0)) :=
   .mk [] rfl (fun i=>by simp[ByteArray.size]) ((x9.out.grow j2).add (zX _ none) (r:=⟨P,9,.slice none 0 0,0,[],1⟩) (World.ownsRow_nil _ _ _ _) (fun j e=>by simp[Value.ownBlock]at e)) H7 B6 (zD t3.out j2) (L6.out.trans (x9.out.keep j2)) (zE L9.out j2)
 have x4:=Kh J4;clear J4 B6 H7 j2 q3;obtain⟨rows5,H2⟩:=Nm ([⟨P,22,.slice sE' m cE',m,a4,1⟩,⟨P,3,.slice sP' m cP',m,ints pre,1⟩,⟨P,3,.slice sL' m cL',m,ints a8,1⟩,⟨P,22,.slice sR' 0 cR',0,[],1⟩,⟨P,111,.slice sU' u cU',u,us,2⟩]:List RowS);rw[<-H2]at x4;have F4:(⟨P,3,.slice sP' m cP',m,ints pre,1⟩:RowS)∈rows5:=by rw[H2];simp
 have c7:(⟨P,3,.slice sL' m cL',m,ints a8,1⟩:RowS)∈rows5:=by rw[H2];simp
 have n1:∀r∈rows5,r.base=P/\r.e≠75/\r.e≠9:=by
  intro r hr;rw[H2]at hr;simp only[List.mem_cons,List.not_mem_nil,or_false]at hr;rcases hr with rfl|rfl|rfl|rfl|rfl<;>simp
 obtain⟨S3,S4,Z3,S6⟩:=Kd F4 c7 n1 H2;obtain⟨mb,y8⟩:=Nm w6.heap.size;rw[<-y8]at x4⊢;have P2:o<mb:=yo
 clear F4 c7 n1 H2;have Z4:=Kh y8;clear y8
 go_loopg [8,9,51] m (fun gh v8 v9 i wr=>∃(q:Nat) (sW:Option Addr) (cW:Nat),gh+q=m/\i=.int .i64 q/\v8=.slice sW q cW/\WordsS X w P o mb rows5 #[.int .i64 n,.bool true,.slice gA gN gC,.slice sE' m cE',.slice sP' m cP',.slice sL' m cL',.slice sR' 0 cR',.slice sU' u cU',.int .i64 0] m q sW cW wr)
 case atStart=>exact⟨0,none,0,yo,rfl,rfl,x4.out⟩
 obtain⟨q,sW,cW,n9,rfl,rfl,hS⟩:=hrel;have m3:=Kh n9;have HS:=Kh hS;obtain⟨ws,b0,b4,l8,h5,r6,j3,o8,g1⟩:=hS;clear n9 x4;by_cases hq:q<m
 ·have Y2:(q:Int)<m:=yo
  obtain⟨m8,g4,D5,j7,K4,L7⟩:=Kf l8 h5 r6 j3 o8 g1;have k7:=Kh b0;have R7:=Kh b4;have E8:=mZ wr.heap.size wr.heap.size wr (.int .i64 n) (.bool true) (.slice gA gN gC) (.slice sE' m cE') (.slice sP' m cP') (.slice sL' m cL') (.slice sR' 0 cR') (.slice sU' u cU') (.int .i64 0) pre a8 m gs.length q (Nat.le_refl _) (Nat.le_refl _) (Row.of_owns (l8.own _ (List.mem_append_left _ S3.out))) (Row.of_owns (l8.own _ (List.mem_append_left _ S4.out))) L2.out L5.out L4.out b6 yo hq;have K8:=Kh E8;have N9:=(oM L4.out q hq).2;obtain⟨q0,q1,q2,q3,q4,q5,q6,q7,q8⟩:=yD r6;clear l8 h5 r6 j3 o8 g1 b0 b4 E8;go_wp2_with fail;refine K8.out.mono ?_;rintro e w7 ⟨rfl,c8⟩;have e6:=Kh c8;obtain⟨sw,y5⟩:=Nm (strOfNums (lets (vZ pre a8 q)));have y4:sw.size<=q:=by rw[y5,strOfNums_size];simp only[lets,List.length_map];exact N9
  rw[<-y5];have J7:=m8.out.grow c8;have b1:=J7.own ⟨P,9,.slice sW q cW,q,xG ws,1⟩ yq;simp only at b1;have m7:=Kh b1;have X0:=zS (zD j7.out c8);have Y0:=c8.size;clear y5 c8 q0 q1 q2 q3 q4 q5 q6 q7 q8 J7 b1;go_wp2_with (first|(at_builtin;refine iE rfl _ _ _ rfl rZ P _ q (xG ws) rfl m7.out _ rfl rfl ?c1 ?c2 ?c3 ?_)|fail)
  case c1=>unfold maxLen;omega
  case c2=>omega
  case c3=>omega
  intro sW' cW' w8 g9 b2 P4 n5;have q9:=(m8.out.grow e6.out).appLast (r':=⟨P,9,.slice sW' (q+1) cW',q+1,xG (ws++[sw]),1⟩) b2 (by simpa [xG] using g9) n5;have e9:=(g4.out.kept e6.out yq).kept b2 ((g4.out.kept e6.out yq).ne_own m7.out);have r8:=zD (zD D5.out e6.out) b2 (zR m7.out (zD D5.out e6.out) jd);have H5:=zD (zD j7.out e6.out) b2 (zR m7.out (zD j7.out e6.out) jd);have I7:=(K4.out.trans (fun j hj=>(m8.out.keep e6.out) j hj)).trans (wG.of_grown (m8.out.grow e6.out).lt b2 (fun j e hx=>(m8.out.grow e6.out).offX ⟨P,9,.slice sW q cW,q,xG ws,1⟩ yq j e hx));have o3:=zE (zE L7.out e6.out) b2 (fun j e=>by have:=(m7.out.lt j e).1;have:=e2.out;omega);obtain⟨lb,rfl,P7,z0,r0⟩:=yV g9 yo;have d4:=r0.cell q (by simp[xG,k7.out])
  have I3:(xG ws++[Value.string sw])[q]'(by simp[xG,k7.out])=.string sw:=by
   rw[List.getElem_append_right (by simp[xG,k7.out])];simp
  rw[I3]at d4;have Y1:(q:Int)<(q:Int)+1:=yo;have Q5:cW'<=9223372036854775807:=jl z0
  obtain⟨x5,d6,D6,m4,K6,l0⟩:=Kf q9 e9 r8 H5 I7 o3;clear q9 e9 r8 H5 I7 o3 g9 b2 n5 r0 I3 m8 g4 D5 j7 K4 L7 K8 m7 e6 HS;go_wp2_with (first|(at_mapUpdate;refine fL rfl _ _ _ rfl mb q sw q rfl rfl rfl d6.out ?d1 ?d2 ?d3 ?_)|fail)
  case d1=>unfold maxLen;omega
  case d2=>unfold maxLen;omega
  case d3=>unfold Mid;omega
  intro w9 k4 g7
  have o9:WordsS X w P o mb rows5 #[.int .i64 n,.bool true,.slice gA gN gC,.slice sE' m cE',.slice sP' m cP',.slice sL' m cL',.slice sR' 0 cR',.slice sU' u cU',.int .i64 0] m (q+1) (some ⟨lb,0,none⟩) cW' w9:=by
   refine .mk (ws++[sw]) (by simp[k7.out]) (fun i=>?_) (x5.out.far g7 (fun r hr=>d6.out.ne_own (x5.out.own r hr))) k4 (zD D6.out g7 (fun e=>d6.out.ne_cells D6.out (Oj e).symm)) (zD m4.out g7 (fun e=>d6.out.ne_cells m4.out (Oj e).symm)) (K6.out.trans (wG.of_grown x5.out.lt g7 (fun j e hx=>?_))) (yM l0.out g7 (by show _<=mb;have:=e2.out;omega))
   ·rcases Nat.lt_or_ge i q with h|h
    ·rw[List.getD_eq_getElem?_getD,List.getElem?_append_left (by rw[k7.out];exact h),<-List.getD_eq_getElem?_getD]
     exact R7.out i
    rcases Nat.eq_or_lt_of_le h with e|h
    ·subst e
     rw[List.getD_eq_getElem?_getD,List.getElem?_append_right (by rw[k7.out];exact Nat.le_refl _),k7.out];simpa using y4
    rw[List.getD_eq_getElem?_getD,List.getElem?_eq_none (by simp[k7.out];omega)];simp[ByteArray.size]
   have e:mb=j:=Oj e;have h1:=HM.out.lt j hx;have:=e2.out;omega
  have f9:=Kh o9;clear o9 k4 g7 x5 d6 D6 m4 K6 l0;go_wp2;go_roundg (m-(q+1))
  case measure=>have:=m3.out;omega
  exact⟨q+1,some ⟨lb,0,none⟩,cW',yo,by go_num,rfl,f9.out⟩
 have O4:q=m:=by have:=m3.out;omega
 subst O4
 have g8:ProcS w P o mb n gA gN gC gs a5 pre a8 [] q 0 u sW cW [] wr:=by
  have R1:xX X 3 nats wr [] []:=xX.nil;rw[S6.out]at l8;have A5:∀j,X j->j<P:=fun j hx=>by rw[e2.out];exact HM.out.lt j hx
  exact .mk X u us a4 [] ws sE' cE' sP' cP' sL' cL' sR' cR' sU' cU' T4.out L2.out L5.out rfl T5.out (Nat.le_refl _) b0 b4 l8 (HE.out.kept o8 g1.size) R1 (U1.out.kept o8 g1.size) ⟨fun h=>by have:=A5 o h;omega,fun h=>by have:=A5 _ h;omega,fun h=>by have:=A5 mb h;omega⟩ h5 r6 j3 g1
 have L3:=Kh g8;clear g8 b0 b4 l8 h5 r6 j3 o8 g1 HS;have T1:=x9;clear x9 T1 L9 L6 M4 t3;go_wp2
 go_loopg [1,8,10,11,12,13,14,15,16,17] bd (fun gh v1 v8 v10 v11 v12 v13 v14 v15 v16 v17 wr=>∃(d:Nat) (el:List (List Nat)) (pr la:List Int) (ri:List (List Nat)) (m:Nat) (sW:Option Addr) (cW:Nat),gh+d=bd/\v1=.int .i64 gh/\v8=.slice sW m cW/\m<=2000/\d<=m/\wO gs (a5,pre,a8) d=((el,pr,la),ri)/\ProcS w P o mb n gA gN gC gs el pr la ri m d (u+6*d) sW cW [] wr)
 case atStart=>exact⟨0,a5,pre,a8,[],q,sW,cW,yo,rfl,rfl,yo,yo,rfl,L3.out⟩
 obtain⟨d,el,pr,la,ri,m,sW,cW,n9,rfl,rfl,y9,I0,F8,hS⟩:=hrel;obtain⟨m3,s5,HS⟩:=Kc n9 F8 hS;obtain⟨X1,u1,us1,j0,i9,ws,sE,cE,sP,cP,sL,cL,sR,cR,sU,cU,hl,a7,a6,c7,a9,F1,b0,b4,H7,d5,e1,d8,e0,h5,c9,h0,d7⟩:=hS;obtain⟨q0,q1,q2,q3,q4,q5,q6,q7,q8⟩:=yD c9;clear n9 F8 L3;by_cases hb:0<gk
 ·have Q6:(0:Int)<(gk:Int):=yo
  have X6:wrap64 ((gk:Int)-1)=((bd-(d+1):Nat):Int):=by
   have:=m3.out;rw[IntWalk.wrap64_in _ yo];omega
  by_cases hd:d<m
  ·have Z1:(d:Int)<m:=yo
   have y7:=H7.own ⟨P,9,.slice sW m cW,m,xG ws,1⟩ yq;simp only at y7;obtain⟨lb,rfl,P7,z0,r0⟩:=yV y7 yo;have d4:=r0.cell d (by simp[xG,b0];exact hd)
   have I4:(xG ws)[d]'(by simp[xG,b0];exact hd)=.string (ws.getD d ⟨#[]⟩):=by
    simp[xG,List.getD_eq_getElem?_getD,b0,hd]
   rw[I4]at d4;obtain⟨U0,A7⟩:=Nm (ws.getD d ⟨#[]⟩);have Z2:U0.size<=d:=by rw[A7];exact b4 d
   rw[<-A7]at d4;have Q5:cW<=9223372036854775807:=jl z0
   have V0:Hid (d<el.length):=Kh (by rw[hl];exact hd);clear I4 A7 r0 y7 H7 d5 e1 d8 e0 h5 c9 h0 d7 b0 b4 a9 hl a7 a6 c7 q0 q1 q4 q5 q6 q7
   have J2:ProcS w P o mb n gA gN gC gs el pr la ri m d (u+6*d) (some ⟨lb,0,none⟩) cW [⟨P,3,.slice none 0 0,0,nats [],1⟩] wr:=by
    obtain⟨X2,u2,us2,d9,d0,ws2,sE2,cE2,sP2,cP2,sL2,cL2,sR2,cR2,sU2,cU2,hl,a7,a6,c7,a9,F1,b0,b4,H7,d5,e1,d8,e0,h5,c9,h0,d7⟩:=HS.out;have h:=H7.add (zX _ none) (r:=⟨P,3,.slice none 0 0,0,nats [],1⟩) (World.ownsRow_nil _ _ _ _) (fun j e=>by simp[Value.ownBlock]at e);rw[List.append_nil]at h;exact .mk X2 u2 us2 d9 d0 ws2 sE2 cE2 sP2 cP2 sL2 cL2 sR2 cR2 sU2 cU2 hl a7 a6 c7 a9 F1 b0 b4 h d5 e1 d8 e0 h5 c9 h0 d7
   have L1:=Kh J2;clear J2;go_upto_region 15 with fail;clear q2 q3 q8 d4 HS
   go_loopg [8,10,12,13,14,15,16,17,87] gN (fun gh v8 v10 v12 v13 v14 v15 v16 v17 i wx=>∃(x:Nat) (el:List (List Nat)) (pr la:List Int) (ro:List Nat) (m:Nat) (sW:Option Addr) (cW:Nat) (sr:Option Addr) (cr:Nat),gh+x=gN/\i=.int .i64 x/\v8=.slice sW m cW/\v10=.slice sr x cr/\m<=2000/\d<m/\ro.length=x/\rW gs d (wO gs (a5,pre,a8) d).1 x=(el,pr,la,ro)/\ProcS w P o mb n gA gN gC gs el pr la ri m d (u+6*d+x) sW cW [⟨P,3,.slice sr x cr,x,nats ro,1⟩] wx)
   case atStart=>exact⟨0,el,pr,la,[],m,some ⟨lb,0,none⟩,cW,none,0,yo,rfl,rfl,rfl,y9,hd,rfl,by rw[s5.out];rfl,L1.out⟩
   obtain⟨x,el2,pr2,la2,ro,m2,sW2,cW2,sr,cr,G3,rfl,rfl,rfl,P3,Z0,F5,n1,J3⟩:=hrel;obtain⟨i7,s2,i5,s0⟩:=Kd G3 F5 n1 J3;obtain⟨X2,u2,us2,d9,d0,ws2,sE2,cE2,sP2,cP2,sL2,cL2,sR2,cR2,sU2,cU2,hl,a7,a6,c7,a9,t7,b0,b4,H7,d5,e1,d8,e0,h5,c9,h0,d7⟩:=J3;clear G3 F5 n1 L1;by_cases hx:x<gN
   ·have X5:(x:Int)<gN:=yo
    have Y9:(d:Int)<m2:=yo;have B0:=H7.own ⟨P,22,.slice sE2 m2 cE2,m2,d9,1⟩ yq;simp only at B0;have J0:=qCT B0 d5;obtain⟨eb,eo,ec,ee,Q2,G9,_,_,o6⟩:=J0.head yo;rw[hl]at ee Q2;simp only[Value.slice.injEq]at ee;obtain⟨rfl,_,rfl⟩:=ee;obtain⟨fa,fc,c6,e8⟩:=o6 d yo;have m6:IsT n (el2.getD d []):=a9 _ (wT yo);have I9:=d8.tmat;obtain⟨gb,go,gc,ge,Q0,j2,_,_,n8⟩:=I9.head (by have:=k9.out;omega);rw[<-k9.out]at ge Q0;simp only[Value.slice.injEq]at ge;obtain⟨ge1,_,ge2⟩:=ge;obtain⟨ga,gac,c0,e7⟩:=n8 x (by have:=k9.out;omega);have o0:IsT n (gs.getD x []):=T7.out _ (wT (by have:=k9.out;omega));obtain⟨f0,A1⟩:=Nm (el2.getD d []);obtain⟨g0,A0⟩:=Nm (gs.getD x []);rw[<-A1]at c6 e8 m6;rw[<-A0]at c0 e7 o0;rw[m6.1]at c6 e8;rw[o0.1]at c0 e7;obtain⟨q0,q1,q2,q3,q4,q5,q6,q7,q8⟩:=yD c9;rw[ge1,ge2]at q2;have c8:=zY wr none;obtain⟨w7,y2⟩:=Nm wr.drew;rw[<-y2]at c8;have R8:=Kh y2;have e6:=Kh c8;have C:Hid (w7.cell? ⟨o,3,none⟩=some (.slice (some ⟨eb,eo,none⟩) m2 cE2)/\w7.cell? ⟨o,8,none⟩=some (.int .i64 d)/\w7.cell? ⟨eb,eo+d,none⟩=some (.slice fa n fc)/\w7.cell? ⟨o,2,none⟩=some (.slice (some ⟨gb,go,none⟩) gN gc)/\w7.cell? ⟨gb,go+x,none⟩=some (.slice ga n gac)):=Kh ⟨zN q3 c8,zN q8 c8,zN c6 c8,zN q2 c8,zN c0 c8⟩;have A2:=qDY wr.heap.size wr.heap.size w7 _ _ f0 g0 n c8.size c8.size (e8.row.kept c8 yq) (e7.row.kept c8 yq) m6 o0 yo;obtain⟨f1,t9⟩:=Nm (vH f0 g0);rw[<-t9]at A2;have j6:Hid (f1.length=n):=Kh (by rw[t9];simp[vH,m6.1]);have D3:=Kh t9;have V2:=Kh A2;clear A2 t9;have Q1:cE2<=9223372036854775807:=jl G9
    have P9:gc<=9223372036854775807:=jl j2
    obtain⟨M1,M0,D1,C7,m0⟩:=Ke A1 A0 m6 o0 hl;clear q0 q1 q2 q3 q4 q5 q6 q7 q8 y2 c8 A1 A0 c6 c0 e8 e7 m6 o0 n8 o6 J0 I9 B0 hl a7 a6 c7 a9 b0 b4 H7 d5 e1 d8 e0 h5 c9 h0 d7 ge1 ge2 G9 j2;go_upto_region 17 with fail;refine wp_region_noPanic ?_;refine yI (G:=xM 99 (fun W=>W.cell? ⟨o,3,none⟩=some (.slice (some ⟨eb,eo,none⟩) m2 cE2)/\W.cell? ⟨o,8,none⟩=some (.int .i64 d)/\W.cell? ⟨eb,eo+d,none⟩=some (.slice fa n fc)/\W.cell? ⟨o,2,none⟩=some (.slice (some ⟨gb,go,none⟩) gN gc)/\W.cell? ⟨gb,go+x,none⟩=some (.slice ga n gac)) (fun _=>True)) yk ?_;rw[<-R8.out];refine zP 0 ?_;refine zP 1 ?_;refine zP 2 ?_;refine zP 3 ?_;refine zP 4 ?_;refine zP 5 ?_;refine zP 6 ?_;refine zP 7 ?_;refine zP 8 ?_;refine zP 9 ?_;refine zP 10 ?_;refine jg 11 fun K hK=>?_;go_simp
    go_at_call 80
    refine V2.out.mono ?_;rintro e w8 ⟨gf,rfl,G4,K3,b2⟩;rw[j6.out];have l0:=Kh (zE e6.out b2);refine hK.out _ _ ⟨⟨zN C.out.1 b2,zN C.out.2.1 b2,zN C.out.2.2.1 b2,zN C.out.2.2.2.1 b2,zN C.out.2.2.2.2 b2⟩,fun _=>trivial⟩ ?_;have C8:Hid (w8.cell? ⟨o,3,none⟩=some (.slice (some ⟨eb,eo,none⟩) m2 cE2)/\w8.cell? ⟨o,8,none⟩=some (.int .i64 d)/\w8.cell? ⟨eb,eo+d,none⟩=some (.slice fa n fc)/\w8.cell? ⟨o,2,none⟩=some (.slice (some ⟨gb,go,none⟩) gN gc)/\w8.cell? ⟨gb,go+x,none⟩=some (.slice ga n gac)):=Kh ⟨zN C.out.1 b2,zN C.out.2.1 b2,zN C.out.2.2.1 b2,zN C.out.2.2.2.1 b2,zN C.out.2.2.2.2 b2⟩;have M6:=Kh K3;have U3:=Kh G4;clear hK K b2 C K3 G4
    try simp only[Act.put,sPa,sPb,sPc]
    refine jg 12 fun K hK=>?_;go_simp;refine hK.out _ _ ⟨C8.out,fun _=>trivial⟩ ?_;clear hK K C8
    try simp only[Act.put,sPa,sPb,sPc]
    refine uY yk ?_ _;refine NoPanic.normal ?_;obtain⟨X2,u2,us2,d9,d0,ws2,sE2',cE2',sP2,cP2,sL2,cL2,sR2,cR2,sU2,cU2,hl,a7,a6,c7,a9,t7,b0,b4,H7,d5,e1,d8,e0,h5,c9,h0,d7⟩:=s0.out;have q9:=H7.grow l0.out;have k8:=H7.keep l0.out;have K2:=d5.kept k8 l0.out.size;have r8:=zD c9 l0.out
    have J5:Row w8.heap.size w8 (.slice (some ⟨gf,0,none⟩) n n) (nats f1):=by
     have:=M6.out.rowT' (cap:=n) (by rw[zV,j6.out];exact Nat.le_refl _) jm;rw[zV,j6.out]at this;exact this.row
    have G7:=eJ w8.heap.size w8.heap.size w8 (.slice sE2' m2 cE2') (.slice (some ⟨gf,0,none⟩) n n) el2 f1 (qCT (q9.own ⟨P,22,.slice sE2' m2 cE2',m2,d9,1⟩ yq) K2) J5;have U6:=Kh G7;obtain⟨q0,q1,q2,q3,q4,q5,q6,q7,q8⟩:=yD r8;have y1:x<26:=(by have:=k9.out;omega);have T3:=fun W=>Kh (iO W x y1);clear hl a7 a6 c7 a9 t7 b0 b4 H7 d5 e1 d8 e0 h5 c9 h0 d7 q9 k8 K2 r8 J5 G7 q0 q1 q2 q4 q5 q6 q7 q8;go_wp2_with fail;refine U6.out.mono ?_;rintro e w9 ⟨rfl,md,rfl⟩;obtain⟨iz,z5⟩:=Nm (mM el2 f1);rw[<-z5];have x8:=Kh z5;clear z5;go_wp2_with fail;refine(T3 _).out.mono ?_;rintro e w10 ⟨rfl,l7⟩;obtain⟨Y,hY⟩:=Nm (strOfNums [97+(x:Int)]);have Q7:Y.size=1:=by rw[hY,strOfNums_size];rfl
    have Q4:∀W0:World,(Op.stringOp .add U0 Y).run Tryz.prog W0=.ok (.string (U0++Y)) W0:=fun W0=>run_string_add_sum W0 U0 Y yo;have g6:=Kh (zE (zE l0.out (zT w8 md none)) l7);have s9:=Kh (zE (zT w8 md none) l7);rw[<-hY];clear hY l7;by_cases hneg:iz<0
    ·by_cases hlim:m2=2000
     ·have n7:(m2:Int)=2000:=yo
      obtain⟨X3,u3,us3,l1,O3,ws3,sE3,cE3,sP3,cP3,sL3,cL3,sR3,cR3,sU3,cU3,hl,a7,a6,c7,a9,O0,b0,b4,H7,d5,e1,d8,e0,h5,c9,h0,d7⟩:=s0.out;have i4:=zD c9 g6.out;have h6:=zD h0 g6.out;have t4:=Kh h6;have U2:=Kh (zE d7 g6.out);obtain⟨q0,q1,q2,q3,q4,q5,q6,q7,q8⟩:=yD i4;obtain⟨p0,p1,p2,p3,p4,p5,p6,p7,p8⟩:=yD h6;have f0:=zB h6 0;have f1':=zB h6 1;have f2:=zB h6 2;have f3:=zB h6 3;have f4:=zB h6 4;have f5:=zB h6 5;have f6:=zB h6 6;have f7:=zB h6 7;have f8:=zB h6 8;have t0:Hid (nM gs (a5,pre,a8) n):=Kh ⟨d,x,by rw[s5.out];exact V0.out,by have:=k9.out;omega,by rw[i5.out];exact m0.out.trans hlim,by rw[i5.out];exact a9⟩;clear hl a7 a6 c7 a9 O0 b0 b4 H7 d5 e1 d8 e0 h5 c9 h0 d7 i4 h6 q0 q1 q2 q4 q5 q6 q7 q8 hlim;go_wp2;refine bodyPost_ret (v:=.tuple #[.agg #[.int .i64 0,.bool false,.slice none 0 0,.slice none 0 0,.slice none 0 0,.slice none 0 0,.slice none 0 0,.slice none 0 0,.int .i64 0],.int .i64 3]) (by simp[results,Tryz.results62,go_sem,p0,p1,p2,p3,p4,p5,p6,p7,p8]) rfl ?_;exact .inl ⟨rfl,t0.out,zE U2.out (qC t4.out (.int .i64 0) (.bool false) (.slice none 0 0) (.slice none 0 0) (.slice none 0 0) (.slice none 0 0) (.slice none 0 0) (.slice none 0 0) (.int .i64 0)).2 (fun j e=>by have e:P+1=j:=Oj e;have:=e2.out;omega)⟩
     have n7:¬(m2:Int)=2000:=yo
     have g8:w.heap.size<=P:=by have:=e2.out;omega
     have R2:w.heap.size<=mb:=by have:=e2.out;omega
     obtain⟨w4,j8⟩:=Nm w10.drew;have k1:w10.grownBy w4 none:=(by rw[j8];exact zY w10 none);have B9:=Kh j8
     have o5:IsT n f1:=by
      rw[D3.out];exact iB D1.out C7.out
     obtain⟨FF,u3,l1,rest,sE3,cE3,sP3,cP3,sL3,cL3,sR3,cR3,sU3,cU3,K0,I6,G0,j9,r9,J8,o4⟩:=s0.out.new24 (w4:=w4) (gf:=gf) (x:=x) (f:=f1) g8 F9 (zE g6.out k1) (by have:=e6.out.size;have:=U3.out;omega) ((M6.out.kept (zE s9.out k1) yq)) j6.out jm o5 (by intro r hr;rw[List.mem_singleton]at hr;subst hr;exact⟨rfl,yq⟩);have i4:w10.heap[o]?=some (.cells #[.int .i64 n,.bool true,.slice gA gN gC,.slice sE3 m2 cE3,.slice sP3 m2 cP3,.slice sL3 m2 cL3,.slice sR3 d cR3,.slice sU3 u3 cU3,.int .i64 d] 75 (0,0)):=by rw[j8]at r9;exact r9
     obtain⟨q0,q1,q2,q3,q4,q5,q6,q7,q8⟩:=yD i4;have r4:=yD r9;have C:Hid (w4.cell? ⟨o,3,none⟩=some (.slice sE3 m2 cE3)/\w4.cell? ⟨o,4,none⟩=some (.slice sP3 m2 cP3)/\w4.cell? ⟨o,5,none⟩=some (.slice sL3 m2 cL3)/\w4.cell? ⟨o,8,none⟩=some (.int .i64 d)):=Kh ⟨r4.2.2.2.1,r4.2.2.2.2.1,r4.2.2.2.2.2.1,r4.2.2.2.2.2.2.2.2⟩;obtain⟨U5,M3,S7,s3,V3,T2⟩:=Kf K0 I6 G0 j9 r9 J8;have D2:=Kh o4;clear j8 k1 o5 K0 I6 G0 j9 r9 J8 o4 i4 r4 q0 q1 q2 q4 q5 q6 q7 q8 hlim;go_upto_region 24 with fail;refine wp_region_noPanic ?_;refine yI (G:=xM 17 (fun _=>True) (fun W=>W.cell? ⟨o,3,none⟩=some (.slice sE3 m2 cE3)/\W.cell? ⟨o,4,none⟩=some (.slice sP3 m2 cP3)/\W.cell? ⟨o,5,none⟩=some (.slice sL3 m2 cL3)/\W.cell? ⟨o,8,none⟩=some (.int .i64 d))) yk ?_;rw[<-B9.out];refine zP 0 ?_;refine xD 1 ?_;refine zP 2 ?_;refine zP 5 ?_;refine xD 6 ?_;refine zP 7 ?_;refine xD 8 ?_;refine zP 11 ?_;refine xD 12 ?_;refine zP 13 ?_;refine uM (fun Wp hWp a0 ha0=>?_);subst hWp
     try simp only[Act.put,sPd,sPe,sPf,sPa,sPb,sPc]at ha0
     have D9:=Kh ha0;refine uL (I:=proc24I n P o m2 u3 d x gf pr2 la2 l1 rest sE3 cE3 sP3 cP3 sL3 cL3 sR3 cR3 sU3 cU3 gA gN gC w4 FF a0) (fun l a w h=>qNB h) (qAW ha0 yo M3.out U5.out S7.out s3.out) yk ?hend9 (by decide +kernel) ?hinit9
     case hinit9 =>
      clear ha0;refine⟨a0.tmps.getD 123 undef,a0.tmps.getD 124 undef,a0.tmps.getD 129 undef,a0.tmps.getD 130 undef,a0.tmps.getD 134 undef,a0.tmps.getD 135 undef,a0.tmps.getD 136 undef,a0.tmps.getD 137 undef,a0.tmps.getD 138 undef,.slice sE3 m2 cE3,m2,l1,.slice sP3 m2 cP3,m2,ints pr2,.slice sL3 m2 cL3,m2,ints la2,[],.slice sE3 m2 cE3,.slice sP3 m2 cP3,.slice sL3 m2 cL3,(uF yq).symm,by decide +kernel,hs7C,Kh (fun _=>⟨rfl,rfl,rfl⟩),hs7C,hs7C,Kh (fun _=>⟨rfl,rfl,rfl⟩),hs7C,hs7C,Kh (fun _=>⟨rfl,rfl,rfl⟩),hs7C,hs7C,hs7C,hs7C,Kh (fun _=>rfl),hs7C,Kh (fun _=>rfl),hs7C,Kh (fun _=>rfl),hs7C,V3.out,T2.out⟩
     clear ha0;intro l a w6 h h7;obtain⟨x123,x124,x129,x130,x134,x135,x136,x137,x138,vE,nE,xE,vP,nP,xP,vL,nL,xL,ls,c3,c4,c5,ha,HR,H3,V5,H4,H9,m5,y0,E5,E3,N2,V8,E2,V7,B3n,B3,B4n,B4,B5n,B5,HB,HM⟩:=h;obtain⟨s4,c4',rfl,rfl,rfl,rfl⟩:=H4.out (h7 4 jd);obtain⟨_,s10,c10,rfl,rfl,rfl,rfl⟩:=y0.out (h7 10 jd);obtain⟨_,s15,c15,rfl,rfl,rfl,rfl⟩:=N2.out (h7 15 jd);have e3:=(B3.out (h7 17 jd)).2.2;have e4:=(B4.out (h7 19 jd)).2.2;have e5:=(B5.out (h7 21 jd)).2.2;rw[e3,e4,e5]at HB;clear H3 V5 H4 H9 m5 y0 E5 E3 N2 V8 E2 V7 B3n B3 B4n B4 B5n B5 HR e3 e4 e5;subst ha;rw[D9.out];simp only[yK,List.foldl_cons,List.foldl_nil,Act.put,sPa,sPb,sPc];refine NoPanic.normal ?_;have p9:=D2.out w6 s4 c4' s10 c10 s15 c15 ls HM HB;obtain⟨ws4,n3,o7⟩:=p9.app g8;have C2:=Kh n3;have D8:=Kh o7;have X4:P<=w6.heap.size:=by have:=HM.but.size;have:=M3.out;omega
     clear p9 n3 o7 HM HB q3;go_wp2_with (first|(at_builtin;refine iE rfl _ _ _ rfl rZ P _ m2 (xG ws4) rfl C2.out _ rfl rfl ?c1 ?c2 ?c3 ?_)|fail)
     case c1=>unfold maxLen;omega
     case c2=>omega
     case c3=>omega
     intro sW5 cW5 w7' b1 o1 P5 n6;have k3:=D8.out (U0++Y) sW5 cW5 w7' (by rw[ByteArray.size_append];omega) b1 o1 n6;obtain⟨k5,n2⟩:=k3.put R2;have s6:=Kh k5;have C1:=Kh n2;clear k3 k5 n2 b1 o1 n6;go_wp2_with (first|(at_mapUpdate;refine fL rfl _ _ _ rfl mb m2 (U0++Y) m2 rfl rfl rfl s6.out ?d1 ?d2 ?d3 ?_)|fail)
     case d1=>unfold maxLen;omega
     case d2=>unfold maxLen;(try rw[ByteArray.size_append]);omega
     case d3=>unfold Mid;omega
     intro w8' e9 z8;have H8:=C1.out w8' e9 z8 yq yq;obtain⟨h4,h2⟩:=H8.row g8;have j5:=Kh h4;have j4:=Kh h2;have t6:P<=w8'.heap.size:=by obtain⟨_,_,_,_,_,_,_,_,_,_,_,_,_,_,_,_,_,_,_,_,_,_,_,_,_,_,_,_,_,_,_,H5,_⟩:=H8;have:=zS H5;omega
     clear H8 h4 h2;go_wp2_with (first|(at_builtin;refine iE rfl _ _ _ rfl yJ P _ x (nats ro) rfl j5.out _ rfl rfl ?r1 ?r2 ?r3 ?_)|fail)
     case r1=>unfold maxLen;omega
     case r2=>omega
     case r3=>omega
     intro sr' cr' w9' h3 H1 j1 H0;have f9:=Kh ((j4.out m2 sr' cr' w9' h3 H1 H0).more (show u+6*d+x<=u+6*d+(x+1) by omega));clear h3 H1 H0
     have b3:Hid (rW gs d (wO gs (a5,pre,a8) d).1 (x+1)=(el2++[f1],pr2++[(d:Int)],la2++[(x:Int)],ro++[m2])):=Kh (by
      have O5:f1 ∉ el2:=fun h=>by
       have:=x8.out;unfold mM at this;rw[if_pos h]at this;omega
      rw[rW,i5.out,eX];simp only
      rw[<-M1.out,<-M0.out,<-D3.out,if_neg O5,m0.out])
     go_wp2;go_roundg (gN-(x+1))
     case measure=>have:=i7.out;omega
     exact⟨x+1,el2++[f1],pr2++[(d:Int)],la2++[(x:Int)],ro++[m2],m2+1,sW5,cW5,sr',cr',by have:=i7.out;omega,by first|rfl|go_num,rfl,rfl,yo,yo,by simp[s2.out],b3.out,f9.out⟩
    have t8:f1∈el2:=by
     by_cases h:f1∈el2
     ·exact h
     exfalso;have:=x8.out;unfold mM at this;rw[if_neg h]at this;omega
    have T6:=Kh t8;have G2:iz=((el2.idxOf f1:Nat):Int):=by have:=x8.out;unfold mM at this;rw[if_pos t8]at this;exact this
    have l4:el2.idxOf f1<m2:=(by rw[<-m0.out];exact List.idxOf_lt_length_of_mem t8);obtain⟨i0,z6⟩:=Nm (el2.idxOf f1);rw[<-z6]at G2 l4;have T8:=Kh z6;subst G2;clear z6 t8 hneg x8;obtain⟨lb2,V,rfl,Y8,P6,I1,X7⟩:=s0.out.word (i:=i0) l4;have A3:=zN I1 g6.out;have Y7:cW2<=9223372036854775807:=jl P6
    have P8:(i0:Int)<m2:=yo;clear I1;have g8:w.heap.size<=P:=by have:=e2.out;omega
    have b3:Hid (rW gs d (wO gs (a5,pre,a8) d).1 (x+1)=(el2,pr2,la2,ro++[i0])):=Kh (by
     rw[rW,i5.out,eX];simp only
     rw[<-M1.out,<-M0.out,<-D3.out,if_pos T6.out,<-T8.out])
    have H8:=s0.out.grow g6.out;have l9:=Kh H8;clear H8;obtain⟨T,hT⟩:=Nm (U0++Y);have x2:T.size=U0.size+1:=by rw[hT,ByteArray.size_append,Q7]
    have S0:=Kh x2;rw[<-hT]at Q4;clear x2 hT;by_cases hU:U0.toList=[]
    ·have H8:=l9.out
     obtain⟨h4,h2⟩:=H8.row g8;have j5:=Kh h4;have j4:=Kh h2;have t6:P<=w10.heap.size:=by obtain⟨_,_,_,_,_,_,_,_,_,_,_,_,_,_,_,_,_,_,_,_,_,_,_,_,_,_,_,_,_,_,_,H5,_⟩:=H8;have:=zS H5;omega
     clear H8 h4 h2;go_wp2_with (first|(at_builtin;refine iE rfl _ _ _ rfl yJ P _ x (nats ro) rfl j5.out _ rfl rfl ?r1 ?r2 ?r3 ?_)|fail)
     case r1=>unfold maxLen;omega
     case r2=>omega
     case r3=>omega
     intro sr' cr' w9' h3 H1 j1 H0;have f9:=Kh ((j4.out i0 sr' cr' w9' h3 H1 H0).more (show u+6*d+x<=u+6*d+(x+1) by omega));clear h3 H1 H0;go_wp2;go_roundg (gN-(x+1))
     case measure=>have:=i7.out;omega
     exact⟨x+1,el2,pr2,la2,ro++[i0],m2,some ⟨lb2,0,none⟩,cW2,sr',cr',by have:=i7.out;omega,by first|rfl|go_num,rfl,rfl,yo,yo,by simp[s2.out],b3.out,f9.out⟩
    by_cases hV:V.toList=T.toList
    ·have H8:=l9.out
     obtain⟨h4,h2⟩:=H8.row g8;have j5:=Kh h4;have j4:=Kh h2;have t6:P<=w10.heap.size:=by obtain⟨_,_,_,_,_,_,_,_,_,_,_,_,_,_,_,_,_,_,_,_,_,_,_,_,_,_,_,_,_,_,_,H5,_⟩:=H8;have:=zS H5;omega
     clear H8 h4 h2;go_wp2_with (first|(at_builtin;refine iE rfl _ _ _ rfl yJ P _ x (nats ro) rfl j5.out _ rfl rfl ?r1 ?r2 ?r3 ?_)|fail)
     case r1=>unfold maxLen;omega
     case r2=>omega
     case r3=>omega
     intro sr' cr' w9' h3 H1 j1 H0;have f9:=Kh ((j4.out i0 sr' cr' w9' h3 H1 H0).more (show u+6*d+x<=u+6*d+(x+1) by omega));clear h3 H1 H0;go_wp2;go_roundg (gN-(x+1))
     case measure=>have:=i7.out;omega
     exact⟨x+1,el2,pr2,la2,ro++[i0],m2,some ⟨lb2,0,none⟩,cW2,sr',cr',by have:=i7.out;omega,by first|rfl|go_num,rfl,rfl,yo,yo,by simp[s2.out],b3.out,f9.out⟩
    have Q9:U0.toList.isEmpty=false:=by simpa using hU
    have Q8:(V.toList == T.toList)=false:=by simpa using hV
    go_upto_region 28 with fail;have x2:=S0.out;obtain⟨Sb,A8⟩:=Nm (T.extract 1 T.size)
    have X9:∀W:World,(Instr.slice 9 (.string T) (some (.int .i64 1)) none none).run Tryz.prog W=.ok (.string Sb) W:=fun W=>by
     rw[A8,run_slice_string_l W 9 T mA .i64 1 yo yo];rfl
    have J1:Sb.size<=maxLen:=by
     have:Sb.size<=T.size:=by rw[A8,ByteArray.size_extract];omega
     unfold maxLen;omega
    have i3:tK w10 mb m2:=by
     obtain⟨_,_,_,_,_,_,_,_,_,_,_,_,_,_,_,_,_,_,_,_,_,_,_,_,_,_,_,_,_,h5,_,_,_⟩:=l9.out;exact h5
    obtain⟨cc,ok,Y6⟩:=i3.lookup J1;clear x2 A8 J1 i3 hU hV Q9 Q8;cases ok with
    | false =>
     have H8:=l9.out;obtain⟨h4,h2⟩:=H8.row g8;have j5:=Kh h4;have j4:=Kh h2;have t6:P<=w10.heap.size:=by obtain⟨_,_,_,_,_,_,_,_,_,_,_,_,_,_,_,_,_,_,_,_,_,_,_,_,_,_,_,_,_,_,_,H5,_⟩:=H8;have:=zS H5;omega
     clear H8 h4 h2;go_wp2_with (first|(at_builtin;refine iE rfl _ _ _ rfl yJ P _ x (nats ro) rfl j5.out _ rfl rfl ?r1 ?r2 ?r3 ?_)|fail)
     case r1=>unfold maxLen;omega
     case r2=>omega
     case r3=>omega
     intro sr' cr' w9' h3 H1 j1 H0;have f9:=Kh ((j4.out i0 sr' cr' w9' h3 H1 H0).more (show u+6*d+x<=u+6*d+(x+1) by omega));clear h3 H1 H0;go_wp2;go_roundg (gN-(x+1))
     case measure=>have:=i7.out;omega
     exact⟨x+1,el2,pr2,la2,ro++[i0],m2,some ⟨lb2,0,none⟩,cW2,sr',cr',by have:=i7.out;omega,by first|rfl|go_num,rfl,rfl,yo,yo,by simp[s2.out],b3.out,f9.out⟩
    | true =>
     obtain⟨u8,us8,sU8,cU8,rs8,F7,X8,F6,n4⟩:=l9.out.new30 g8 F9 (by intro r hr;rw[List.mem_singleton]at hr;subst hr;exact⟨rfl,yq⟩);obtain⟨w4,j8⟩:=Nm w10.drew;have B9:=Kh j8;have k1:w10.grownBy w4 none:=(by rw[j8];exact zY w10 none);have C:Hid (w4.cell? ⟨o,7,none⟩=some (.slice sU8 u8 cU8)/\w4.cell? ⟨lb2,i0,none⟩=some (.string V)):=Kh ⟨zN F7 k1,zN A3 k1⟩;obtain⟨C4,S5,U4,V1⟩:=Kd n4 F6 k1 A3;clear n4 F6 k1 j8 F7 A3;go_upto_region 30 with fail;refine wp_region_noPanic ?_;refine yI (G:=xM 11 (fun _=>True) (fun W=>W.cell? ⟨o,7,none⟩=some (.slice sU8 u8 cU8)/\W.cell? ⟨lb2,i0,none⟩=some (.string V))) yk ?_;rw[<-B9.out];refine zP 0 ?_;refine xD 1 ?_;refine zP 2 ?_;refine zP 3 ?_;refine zP 4 ?_;refine zP 5 ?_;refine xD 6 ?_;refine zP 7 ?_;refine jg 8 fun K hK=>?_;go_simp;have a3:=heap_alloc_new w4 (.cells #[.string T,.string V] 111);have g7:=Ga w4 (.cells #[.string T,.string V] 111) none;have l5:=zE U4.out g7;obtain⟨gR,G6⟩:=Nm w4.heap.size;obtain⟨w9,F0⟩:=Nm (w4.alloc (.cells #[.string T,.string V] 111));rw[<-G6]at a3⊢;rw[<-F0]at a3 g7 l5⊢;have C9:Hid (w9.cell? ⟨o,7,none⟩=some (.slice sU8 u8 cU8)/\w9.cell? ⟨lb2,i0,none⟩=some (.string V)):=Kh ⟨zN C.out.1 g7,zN C.out.2 g7⟩;refine hK.out _ _ ⟨trivial,fun _=>C9.out⟩ ?_;clear hK K g7 C G6 F0
     try simp only[Act.put,sPa,sPb,sPc]
     obtain⟨J6,E7,k2⟩:=C4.out w9 l5;have t1:=Kh k2;have n0:tM w9 2 (.slice (some ⟨gR,0,none⟩) 1 1) 1 [.string T,.string V]:=qES a3;refine jg 9 fun K hK=>?_;refine oC rfl (.tmp 165) (.tmp 172) 73 rfl mP 4 _ rfl ⟨_,_,_,_,_,J6,⟨P,111,.slice sU8 u8 cU8,u8,us8,2⟩,1,u8+1,_,S5.out,rfl,rfl,rfl,n0,?z1,rfl,?z2,?z3,?z4,?_⟩
     case z1=>intro v hv;simp only[List.mem_cons,List.not_mem_nil,or_false]at hv;rcases hv with rfl|rfl<;>rfl
     case z2=>unfold maxLen;omega
     case z3=>show (u8+1)*32<=140737488355328;omega
     case z4=>exact E7
     intro sU' cU' wM hMM;obtain⟨I5,G8,I2,o9⟩:=t1.out wM sU' cU' [.string T,.string V] hMM;have CM:Hid (wM.cell? ⟨o,7,none⟩=some (.slice sU8 u8 cU8)/\wM.cell? ⟨lb2,i0,none⟩=some (.string V)):=Kh ⟨I5,I2 i0 _ l4 V1.out⟩;refine hK.out _ _ ⟨trivial,fun _=>CM.out⟩ ?_;have f9:=Kh o9;have U7:=Kh G8;clear hK K C9 J6 E7 k2 n0 a3 hMM I5 G8 I2 o9 l5
     try simp only[Act.put,sPa,sPb,sPc]
     refine zP 10 ?_;refine jg 11 fun K hK=>?_;have q7:=CM.out.1;have f7:=U7.out;go_simp;refine hK.out _ _ ⟨trivial,fun h=>by simp at h⟩ ?_;clear hK K q7 f7 CM
     try simp only[Act.put,sPa,sPb,sPc]
     refine uY yk ?_ _;refine NoPanic.normal ?_;obtain⟨wZ,E9⟩:=Nm (wM.setCell ⟨o,7,none⟩ (.slice sU' (u8+1) cU'));have H8:=f9.out;rw[<-E9]at H8⊢;clear E9 f9;obtain⟨h4,h2⟩:=H8.row g8;have j5:=Kh h4;have j4:=Kh h2;have t6:P<=wZ.heap.size:=by obtain⟨_,_,_,_,_,_,_,_,_,_,_,_,_,_,_,_,_,_,_,_,_,_,_,_,_,_,_,_,_,_,_,H5,_⟩:=H8;have:=zS H5;omega
     clear H8 h4 h2;go_wp2_with (first|(at_builtin;refine iE rfl _ _ _ rfl yJ P _ x (nats ro) rfl j5.out _ rfl rfl ?r1 ?r2 ?r3 ?_)|fail)
     case r1=>unfold maxLen;omega
     case r2=>omega
     case r3=>omega
     intro sr' cr' w9' h3 H1 j1 H0;have f9:=Kh ((j4.out i0 sr' cr' w9' h3 H1 H0).more (show u+6*d+x+1<=u+6*d+(x+1) by omega));clear h3 H1 H0;go_wp2;go_roundg (gN-(x+1))
     case measure=>have:=i7.out;omega
     exact⟨x+1,el2,pr2,la2,ro++[i0],m2,some ⟨lb2,0,none⟩,cW2,sr',cr',by have:=i7.out;omega,by first|rfl|go_num,rfl,rfl,yo,yo,by simp[s2.out],b3.out,f9.out⟩
   have K5:Hid (x=gN):=Kh (by have:=i7.out;omega);have A9:=H7.own ⟨P,22,.slice sR2 d cR2,d,d0,1⟩ yq;simp only at A9;have l3:=H7.own ⟨P,3,.slice sr x cr,x,nats ro,1⟩ yq;simp only at l3;have V9:=zS h0;obtain⟨q0,q1,q2,q3,q4,q5,q6,q7,q8⟩:=yD c9;obtain⟨s1,S2,M2,C5,U8,S1⟩:=Kf A9 l3 c9 H7 d5 e1;obtain⟨T9,B7,g4,t2,C6,R9⟩:=Kf d8 e0 h5 h0 d7 t7;have K7:=Kh (And.intro b0 b4);have s8:=Kh (And.intro hl (And.intro a7 (And.intro a6 (And.intro c7 a9))));clear hl a7 a6 c7 a9 t7 b0 b4 H7 d5 e1 d8 e0 h5 c9 h0 d7 A9 l3 q0 q1 q2 q3 q4 q5 q7 q8;go_wp2_with (first|(at_builtin;refine iE rfl _ _ _ rfl xT P _ d d0 rfl s1.out _ rfl rfl ?r1 ?r2 ?r3 ?_)|fail)
   case r1=>unfold maxLen;omega
   case r2=>omega
   case r3=>omega
   intro sR' cR' w11 i1 l6 G1 k0;have g3:=zD M2.out l6 (zR s1.out M2.out jd);obtain⟨q0,q1,q2,q3,q4,q5,q6',q7,q8⟩:=yD g3;have f6:=zB g3 6;have f8:=zB g3 8;have F3:=heap_setCell_same w11 o 6 _ _ (.slice sR' (d+1) cR') g3;have F2:=heap_setCell_same _ o 8 _ _ (.int .i64 ((d:Int)+1)) F3;have G5:=zI (zH w11 ⟨o,6,none⟩ (.slice sR' (d+1) cR')) (zH (w11.setCell ⟨o,6,none⟩ (.slice sR' (d+1) cR')) ⟨o,8,none⟩ (.int .i64 ((d:Int)+1)));obtain⟨C3,g5,T0,t5,l9,m9⟩:=Kf i1 l6 k0 g3 F2 G5;clear i1 l6 k0 g3 F3 F2 G5 q0 q1 q2 q3 q4 q5 q7 q6;go_wp2;go_roundg (bd-(d+1))
   case measure=>have:=m3.out;omega
   have R4:=C5.out.appAt (j:=3) rfl (v':=.slice sR' (d+1) cR') (n':=d+1) (us:=[Value.slice sr x cr]) C3.out g5.out T0.out;have J9:EMem X2 w11 ([⟨P,22,.slice sE2 m2 cE2,m2,d9,1⟩,⟨P,3,.slice sP2 m2 cP2,m2,ints pr2,1⟩,⟨P,3,.slice sL2 m2 cL2,m2,ints la2,1⟩,⟨P,22,.slice sR' (d+1) cR',d+1,d0++[Value.slice sr x cr],1⟩,⟨P,111,.slice sU2 u2 cU2,u2,us2,2⟩,⟨P,9,.slice sW2 m2 cW2,m2,xG ws2,1⟩]++[⟨P,3,.slice sr x cr,x,nats ro,1⟩]):=R4;have x3:=J9.retire;have h4:=J9.own ⟨P,3,.slice sr x cr,x,nats ro,1⟩ yq;simp only at h4 x3;have k11:wG X2 wr w11:=wG.of_grown C5.out.lt g5.out (fun j e hx=>C5.out.offX ⟨P,22,.slice sR2 d cR2,d,d0,1⟩ yq j e hx);have k6:=zD t2.out g5.out (zR s1.out t2.out jd);have i2:=g4.out.kept g5.out (g4.out.ne_own s1.out)
   have I8:¬(X2 o\/(Value.slice sr x cr).ownBlock=some o)/\¬(X2 (P+1)\/(Value.slice sr x cr).ownBlock=some (P+1))/\¬(X2 mb\/(Value.slice sr x cr).ownBlock=some mb) :=
    ⟨fun h=>h.elim B7.out.1 (zR h4 t5.out jd),fun h=>h.elim B7.out.2.1 (zR h4 k6 jd),fun h=>h.elim B7.out.2.2 (i2.ne_own h4)⟩
   have kS:wG (fun j=>X2 j\/(Value.slice sr x cr).ownBlock=some j) w11 _:=wG.of_grown x3.lt m9.out (fun j e hx=>by have e:o=j:=Oj e;subst e;exact I8.1 hx);have l2:=g5.out.size;have y6:=m9.out.size;have R6:=((U8.out.kept k11 l2).mono (X':=fun j=>X2 j\/(Value.slice sr x cr).ownBlock=some j) (fun j h=>.inl h)).kept kS y6;have R0:=(((S1.out.kept k11 l2).mono (X':=fun j=>X2 j\/(Value.slice sr x cr).ownBlock=some j) (fun j h=>.inl h)).snoc (RowX.of_owns h4 (fun j h=>.inr h))).kept kS y6;have R5:=((T9.out.kept k11 l2).mono (X':=fun j=>X2 j\/(Value.slice sr x cr).ownBlock=some j) (fun j h=>.inl h)).kept kS y6
   have R3:=x3.far m9.out (fun r hr=>zR (x3.own r hr) t5.out (by
    simp only[List.mem_cons,List.not_mem_nil,or_false]at hr
    rcases hr with rfl|rfl|rfl|rfl|rfl|rfl<;>simp))
   refine⟨d+1,el2,pr2,la2,ri++[ro],m2,sW2,cW2,by have:=m3.out;omega,by first|rfl|go_num,rfl,P3,yo,?_,.mk (fun j=>X2 j\/(Value.slice sr x cr).ownBlock=some j) u2 us2 d9 (d0++[Value.slice sr x cr]) ws2 sE2 cE2 sP2 cP2 sL2 cL2 sR' cR' sU2 cU2 s8.out.1 s8.out.2.1 s8.out.2.2.1 (by simp[s8.out.2.2.2.1]) s8.out.2.2.2.2 (by have:=R9.out;have:=k9.out;have:=K5.out;omega) K7.out.1 K7.out.2 (by rw[List.append_nil];exact R3) R6 R0 R5 I8 (i2.kept m9.out (fun e=>by have e:o=mb:=Oj e;omega)) ?_ (zD k6 m9.out (by simp;omega)) ?_⟩
   ·have h1:=i5.out
    rw[K5.out,k9.out]at h1;rw[wO,h1,s5.out]
   ·have:=l9.out
    simpa using this
   exact yM (zE C6.out g5.out (fun j e=>by have:=(s1.out.lt j e).1;have:=e2.out;omega)) m9.out (by show _<=o;have:=e2.out;omega)
  have U9:Hid (d=m):=Kh yo;have Q3:¬(d:Int)<m:=yo;obtain⟨p0,p1,p2,p3,p4,p5,p6,p7,p8⟩:=yD h0;have f0:=zB h0 0;have f1:=zB h0 1;have f2:=zB h0 2;have f3:=zB h0 3;have f4:=zB h0 4;have f5:=zB h0 5;have f6:=zB h0 6;have f7:=zB h0 7;have f8:=zB h0 8;obtain⟨s7,D4,C0,D0,B8,i8⟩:=Kf H7 d5 e1 d8 e0 h0;have m1:=Kh d7;have i6:=Kh (And.intro hl (And.intro a7 (And.intro a6 (And.intro c7 a9))));clear H7 d5 e1 d8 e0 h5 c9 h0 d7 hl a7 a6 c7 a9 b0 b4;go_wp2;refine bodyPost_ret (v:=.tuple #[.agg #[.int .i64 n,.bool true,.slice gA gN gC,.slice sE m cE,.slice sP m cP,.slice sL m cL,.slice sR d cR,.slice sU u1 cU,.int .i64 d],.int .i64 0]) (by simp[results,Tryz.results62,go_sem,p0,p1,p2,p3,p4,p5,p6,p7,p8]) rfl ?_;obtain⟨O2,g2⟩:=qC i8.out (.int .i64 n) (.bool true) (.slice gA gN gC) (.slice sE m cE) (.slice sP m cP) (.slice sL m cL) (.slice sR d cR) (.slice sU u1 cU) (.int .i64 d);have kk:wG X1 wr _:=wG.of_grown s7.out.lt g2 (fun j e hx=>by have e:P+1=j:=Oj e;subst e;exact B8.out.2.1 hx);refine .inr ⟨X1,el,pr,la,ri,m,d,u1,us1,j0,i9,sE,cE,sP,cP,sL,cL,sR,cR,sU,cU,rfl,s5.out,.inl U9.out,y9,I0,i6.out.1,i6.out.2.1,i6.out.2.2.1,i6.out.2.2.2.1,i6.out.2.2.2.2,?_,D4.out.kept kk g2.size,C0.out.kept kk g2.size,D0.out.kept kk g2.size,zE m1.out g2 (fun j e=>by have e:P+1=j:=Oj e;have:=e2.out;omega)⟩;rw[<-e2.out];have h9:=s7.out;rw[List.append_nil]at h9;have h8:=EMem.dropLast (rs:=[⟨P,22,.slice sE m cE,m,j0,1⟩,⟨P,3,.slice sP m cP,m,ints pr,1⟩,⟨P,3,.slice sL m cL,m,ints la,1⟩,⟨P,22,.slice sR d cR,d,i9,1⟩,⟨P,111,.slice sU u1 cU,u1,us1,2⟩]) h9
  exact h8.far g2 (fun r hr=>zR (h8.own r hr) i8.out (by
   simp only[List.mem_cons,List.not_mem_nil,or_false]at hr
   rcases hr with rfl|rfl|rfl|rfl|rfl<;>simp))
 have Q6:¬(0:Int)<(gk:Int):=yo
 obtain⟨p0,p1,p2,p3,p4,p5,p6,p7,p8⟩:=yD h0;have f0:=zB h0 0;have f1:=zB h0 1;have f2:=zB h0 2;have f3:=zB h0 3;have f4:=zB h0 4;have f5:=zB h0 5;have f6:=zB h0 6;have f7:=zB h0 7;have f8:=zB h0 8;obtain⟨s7,D4,C0,D0,B8,i8⟩:=Kf H7 d5 e1 d8 e0 h0;have m1:=Kh d7;have i6:=Kh (And.intro hl (And.intro a7 (And.intro a6 (And.intro c7 a9))));clear H7 d5 e1 d8 e0 h5 c9 h0 d7 hl a7 a6 c7 a9 b0 b4;go_wp2;refine bodyPost_ret (v:=.tuple #[.agg #[.int .i64 n,.bool true,.slice gA gN gC,.slice sE m cE,.slice sP m cP,.slice sL m cL,.slice sR d cR,.slice sU u1 cU,.int .i64 d],.int .i64 0]) (by simp[results,Tryz.results62,go_sem,p0,p1,p2,p3,p4,p5,p6,p7,p8]) rfl ?_;obtain⟨O2,g2⟩:=qC i8.out (.int .i64 n) (.bool true) (.slice gA gN gC) (.slice sE m cE) (.slice sP m cP) (.slice sL m cL) (.slice sR d cR) (.slice sU u1 cU) (.int .i64 d);have kk:wG X1 wr _:=wG.of_grown s7.out.lt g2 (fun j e hx=>by have e:P+1=j:=Oj e;subst e;exact B8.out.2.1 hx);refine .inr ⟨X1,el,pr,la,ri,m,d,u1,us1,j0,i9,sE,cE,sP,cP,sL,cL,sR,cR,sU,cU,rfl,s5.out,.inr (by have:=m3.out;omega),y9,I0,i6.out.1,i6.out.2.1,i6.out.2.2.1,i6.out.2.2.2.1,i6.out.2.2.2.2,?_,D4.out.kept kk g2.size,C0.out.kept kk g2.size,D0.out.kept kk g2.size,zE m1.out g2 (fun j e=>by have e:P+1=j:=Oj e;have:=e2.out;omega)⟩;rw[<-e2.out];have h9:=s7.out;rw[List.append_nil]at h9;have h8:=EMem.dropLast (rs:=[⟨P,22,.slice sE m cE,m,j0,1⟩,⟨P,3,.slice sP m cP,m,ints pr,1⟩,⟨P,3,.slice sL m cL,m,ints la,1⟩,⟨P,22,.slice sR d cR,d,i9,1⟩,⟨P,111,.slice sU u1 cU,u1,us1,2⟩]) h9
 exact h8.far g2 (fun r hr=>zR (h8.own r hr) i8.out (by
  simp only[List.mem_cons,List.not_mem_nil,or_false]at hr
  rcases hr with rfl|rfl|rfl|rfl|rfl<;>simp))
end Go.Proofs.YtiknckajkdlppaaGreat
namespace Go.Proofs.YtiknckajkdlppaaGreat
variable{X:Nat->Prop}{w:World}
structure FinE (gs:List (List Nat))(n:Nat)(el:List (List Nat))(pr la:List Int)(ri:List (List Nat))(d:Nat):Prop extends Enm gs n el pr la ri d where
 proc:wO gs (yO gs n gs.length) d=((el,pr,la),ri)
theorem qLD {gs:List (List Nat)}{n d:Nat}{el:List (List Nat)}{pr la:List Int}{ri:List (List Nat)}(hg:∀g∈gs,IsT n g)(h1:1<=n)(hk:1<=gs.length)(hp:wO gs (yO gs n gs.length) d=((el,pr,la),ri))(a9:∀f∈el,IsT n f):FinE gs n el pr la ri d:=⟨qST hg h1 hk hp a9,hp⟩
def qCJ (gs:List (List Nat))(n:Nat):Prop:=∀el pr la ri,FinE gs n el pr la ri el.length->400<el.length
section
variable {gs el el':List (List Nat)} {n:Nat} {pr la pr' la':List Int} {ri ri':List (List Nat)}
theorem FinE.le (h:FinE gs n el pr la ri el.length)(h':FinE gs n el' pr' la' ri' el'.length)(h1:1<=n)(hk:1<=gs.length):el'.length<=el.length:=by
 rcases Nat.lt_or_ge el.length el'.length with h3|h3
 ·have:=aD (s:=yO gs n gs.length) (d:=el'.length) h1 hk (by rw[h'.proc];exact h'.en.it) el.length h3
  rw[h.proc]at this;exact absurd this (Nat.lt_irrefl _)
 exact h3
theorem FinE.eq (h:FinE gs n el pr la ri el.length)(h':FinE gs n el' pr' la' ri' el'.length)(h1:1<=n)(hk:1<=gs.length):el=el'/\pr=pr'/\la=la'/\ri=ri':=by
 have e:el.length=el'.length:=Nat.le_antisymm (h'.le h h1 hk) (h.le h' h1 hk);have e1:=h.proc;rw[e,h'.proc]at e1;simp only[Prod.mk.injEq]at e1;exact⟨e1.1.1.symm,e1.1.2.1.symm,e1.1.2.2.symm,e1.2.symm⟩
theorem FinE.nosyn (h:FinE gs n el pr la ri el.length)(h4:400<el.length)(h1:1<=n)(hk:1<=gs.length):qCJ gs n:=fun _ _ _ _ h'=>Nat.lt_of_lt_of_le h4 (h'.le h h1 hk)
theorem qEW (gs:List (List Nat))(d:Nat)(s:List (List Nat)×List Int×List Int)(x:Nat):∀e,(rW gs d s x).1 <+: (rW gs d s (x+e)).1
 | 0=>List.prefix_refl _
 | e+1=>by
  refine(qEW gs d s x e).trans ?_
  rw[Nat.add_succ,rW]
  unfold eX
  split
  ·exact List.prefix_refl _
  ·exact List.prefix_append _ _
theorem cH (h1:1<=n)(hk:1<=gs.length)(h:nM gs (yO gs n gs.length) n):qCJ gs n:=by
 intro el pr la ri hf;obtain⟨d,x,hd,hx,hl,h0⟩:=h;rcases Nat.lt_or_ge d el.length with h3|h3
 ·have p1:=qEW gs d (wO gs (yO gs n gs.length) d).1 x (gs.length-x)
  have p2:=bZ gs (yO gs n gs.length) (d+1) (el.length-(d+1));rw[show d+1+(el.length-(d+1))=el.length by omega,hf.proc,wO]at p2;rw[show x+(gs.length-x)=gs.length by omega]at p1;have:=(p1.trans p2).length_le;rw[hl]at this;simp only at this;omega
 exfalso;rcases Nat.lt_or_ge el.length d with h4|h4
 ·have:=aD (s:=yO gs n gs.length) (d:=d) h1 hk (fun f hf=>h0 f ((bW gs d _ x).subset hf)) el.length h4
  rw[hf.proc]at this;exact absurd this (Nat.lt_irrefl _)
 have e:d=el.length:=yo
 subst e;rw[hf.proc]at hd;exact absurd hd (Nat.lt_irrefl _)
end
open Go.RowKit
theorem dM (gs:List (List Nat))(n:Nat):∀x,(yO gs n x).1.length<=x+1
 | 0=>by simp[yO]
 | x+1=>by
  have:=dM gs n x
  rw[yO]
  split
  ·omega
  ·simp only[List.length_append,List.length_singleton];omega
theorem RowX.one {e:TypeId}{v:Value}{xs:List Value}(h:RowX X e w v xs):v.oneCell'=true:=by
 obtain⟨a,c,rfl⟩:=h.1.shape;rfl
theorem xX.one {α:Type}{e:TypeId}{f:α->List Value}{hs:List Value}{ts:List α}(h:xX X e f w hs ts):∀v∈hs,v.oneCell'=true:=by
 intro v hv;obtain⟨i,hi,rfl⟩:=List.getElem_of_mem hv;exact(h.2 i hi (by rw[<-h.1];exact hi)).one
def Big (n:Nat):Prop:=∃el:List (List Nat),el.Nodup/\400<el.length/\∀f∈el,IsT n f
theorem qEG {gs:List (List Nat)}{n:Nat}(hg:∀g∈gs,IsT n g)(h1:1<=n)(hk:1<=gs.length)(h:nM gs (yO gs n gs.length) n):Big n:=by
 obtain⟨d,x,hd,hx,hl,h0⟩:=h;have hE:=aB hg (jZ hg gs.length (Nat.le_refl _)) d (aD h1 hk (fun f hf=>h0 f ((bW gs d _ x).subset hf)));have hr:=qDC hg hE.en hd x hx;exact⟨_,hr.en.nodup,by rw[hl];decide,h0⟩
def qSG (gs:List (List Nat))(n:Nat)(w:World)(e:Ending)(w':World):Prop :=
 (e=.returned (.tuple #[.agg #[.int .i64 0,.bool false,.slice none 0 0,.slice none 0 0,.slice none 0 0,.slice none 0 0,.slice none 0 0,.slice none 0 0,.int .i64 0],.int .i64 3])/\(Big n/\qCJ gs n)/\w.grownBy w' none) \/
 ∃(el:List (List Nat)) (pr la:List Int) (ri:List (List Nat)) (m gN uN:Nat) (gA uA:Option Addr) (gC uC:Nat) (vP vL vR:Value) (sE:Option Addr) (cE:Nat),
  e=.returned (.tuple #[.agg #[.int .i64 n,.bool true,.slice gA gN gC,.slice sE m cE,vP,vL,vR,.slice uA uN uC,.int .i64 m],.int .i64 0])/\FinE gs n el pr la ri m/\el.length=m/\m<=2000 /\
  TMat w'.heap.size w' (.slice sE m cE) el/\Row w'.heap.size w' vP (ints pr)/\Row w'.heap.size w' vL (ints la)/\TMat w'.heap.size w' vR ri/\w.grownBy w' none
theorem qEE (B:Nat)(w:World)(v0:Value)(gs:List (List Nat))(n:Nat)(hB:B<=w.heap.size)(h:TMat B w v0 gs)(a8:∀g∈gs,IsT n g)(h1:1<=n)(a6:n<=32)(a9:1<=gs.length)(a7:gs.length<=6):Calls Tryz.prog 39 #[v0,.bool true] w (qSG gs n w):=by
 obtain⟨w1,H1⟩:=Nm (w.alloc (.cells #[.int .i64 0,.bool false,.slice none 0 0,.slice none 0 0,.slice none 0 0,.slice none 0 0,.slice none 0 0,.slice none 0 0,.int .i64 0] 75));have H5:w.grownBy w1 none:=by rw[H1];exact Ga w _ none
 have H6:=heap_alloc_new w (.cells #[.int .i64 0,.bool false,.slice none 0 0,.slice none 0 0,.slice none 0 0,.slice none 0 0,.slice none 0 0,.slice none 0 0,.int .i64 0] 75);rw[<-H1]at H6;have d1:=Kh (qCX B w1 v0 gs n (Nat.le_trans hB H5.size) (h.kept H5 yq) a8 h1 a6 a9 a7);obtain⟨P,hP⟩:=Nm w.heap.size;obtain⟨a3,d0,d5,H7⟩:=Kd hP H1 H5 a8;rw[<-hP]at H6;have d7:=Kh H6;clear H1 H5 H6 a8 h;go_enter Tryz.func39,Tryz.ntmps39;go_upto_region 1 with fail;rw[<-d0.out,<-a3.out];clear hP;go_wp2_with fail;refine d1.out.mono ?_;rintro e w2 ⟨X,els,pre,las,m,u,us,c6,gv,sE,cE,sP,cP,sL,cL,sU,cU,rfl,H2,hl,H3,H4,hu,b0,hM,hE,hG,H9⟩;have h9:=iI (gs:=gs) (n:=n) gs.length (Nat.le_refl _);have H8:=dM gs n gs.length;rw[H2]at h9 H8;simp only at h9 H8;obtain⟨gA,gC,rfl⟩:=hG.tmat.shape;have c0:=zD d7.out H9;have h2:=(jZ H7.out gs.length (Nat.le_refl _)).it;rw[H2]at h2;simp only at h2;obtain⟨w4,H0⟩:=Nm (w2.alloc (.cells #[.int .i64 n,.bool true,.slice gA gs.length gC,.slice sE m cE,.slice sP m cP,.slice sL m cL,.slice none 0 0,.slice sU u cU,.int .i64 0] 75));have h5:w2.grownBy w4 none:=by rw[H0];exact Ga w2 _ none
 have a2:=heap_alloc_new w2 (.cells #[.int .i64 n,.bool true,.slice gA gs.length gC,.slice sE m cE,.slice sP m cP,.slice sL m cL,.slice none 0 0,.slice sU u cU,.int .i64 0] 75);rw[<-H0]at a2;have k4:=hM.keep h5
 have b4:Calls Tryz.prog 62 #[.agg #[.int .i64 n,.bool true,.slice gA gs.length gC,.slice sE m cE,.slice sP m cP,.slice sL m cL,.slice none 0 0,.slice sU u cU,.int .i64 0],.int .i64 2001] w4 (qQD gs els pre las n 2001 (.slice gA gs.length gC) w4) :=
  bY w4 w1.heap.size X gs els pre las n m u us c6 gA gs.length gC sE cE sP cP sL cL sU cU 2001 (hM.grow h5) (hE.kept k4 h5.size) (hG.kept k4 h5.size) hE.one b0 hl H3 H4 h2 H7.out rfl a6 (by rw[hl]at h9;exact h9.1) a7 yo yo yo
 have d2:=Kh b4;obtain⟨q0,q1,q2,q3,q4,q5,q6,q7,q8⟩:=yD a2;have b9:=zD c0 h5;have c4:=Kh b9;have c3:=Kh (zE (zE d5.out H9) h5);have c9:=Kh H0;have h6:=Kh H2;clear h9 H8 hl H3 H4 hu b0 hM hE hG H9 c0 h2 h5 a2 k4 b4 b9 H0 H2;go_upto_region 2 with fail;rw[<-c9.out];go_wp2_with fail;refine d2.out.mono ?_;rintro e w5 (⟨rfl,a0,h4⟩|⟨X2,el,pr,la,ri,m2,d,u2,us2,h8,b1,sE2,cE2,sP2,cP2,sL2,cL2,sR2,cR2,sU2,cU2,rfl,b3,b5,c7,c8,hl,H3,H4,b2,h2,hM,hE,hR,hG,h4⟩)
 ·have a5:Hid (Big n/\qCJ gs n):=Kh ⟨qEG H7.out h1 a9 (by rw[h6.out];exact a0),cH h1 a9 (by rw[h6.out];exact a0)⟩
  clear a0;have h0:=zD c4.out h4;have h7:=Kh h0;have a4:=Kh (zE c3.out h4);obtain⟨p0,p1,p2,p3,p4,p5,p6,p7,p8⟩:=yD h0;have f0:=zB h0 0;have f1:=zB h0 1;have f2:=zB h0 2;have f3:=zB h0 3;have f4:=zB h0 4;have f5:=zB h0 5;have f6:=zB h0 6;have f7:=zB h0 7;have f8:=zB h0 8;clear h4 h0 q0 q1 q2 q3 q4 q5 q6 q7 q8;go_wp2;refine bodyPost_ret (v:=.tuple #[.agg #[.int .i64 0,.bool false,.slice none 0 0,.slice none 0 0,.slice none 0 0,.slice none 0 0,.slice none 0 0,.slice none 0 0,.int .i64 0],.int .i64 3]) (by simp[results,Tryz.results39,go_sem,p0,p1,p2,p3,p4,p5,p6,p7,p8]) rfl ?_;obtain⟨c5,h3⟩:=qC h7.out (.int .i64 0) (.bool false) (.slice none 0 0) (.slice none 0 0) (.slice none 0 0) (.slice none 0 0) (.slice none 0 0) (.slice none 0 0) (.int .i64 0);exact .inl ⟨rfl,a5.out,yM a4.out h3 (by show _<=P;have:=a3.out;omega)⟩
 have a1:d=m2:=by rcases b5 with h|h<;>omega
 subst a1;have b8:=qLD H7.out h1 a9 (by rw[h6.out];exact b3) h2;have h0:=zD c4.out h4;have h7:=Kh h0;have a4:=Kh (zE c3.out h4);obtain⟨d6,HM,HE,HR,HL⟩:=Ke b8 hM hE hR hl;obtain⟨p0,p1,p2,p3,p4,p5,p6,p7,p8⟩:=yD h0;have f0:=zB h0 0;have f1:=zB h0 1;have f2:=zB h0 2;have f3:=zB h0 3;have f4:=zB h0 4;have f5:=zB h0 5;have f6:=zB h0 6;have f7:=zB h0 7;have f8:=zB h0 8;have c2:OwnT w4.heap.size w5 (.slice sE2 d cE2) d el:=⟨h8,hM.own ⟨w4.heap.size,22,.slice sE2 d cE2,d,h8,1⟩ yq,hE.rowsT,hl⟩;have c1:OwnT w4.heap.size w5 (.slice sR2 d cR2) d ri:=⟨b1,hM.own ⟨w4.heap.size,22,.slice sR2 d cR2,d,b1,1⟩ yq,hR.rowsT,b2⟩;have d4:=Kh c2;have d3:=Kh c1;clear b3 b5 c8 hl H3 H4 b2 h2 hM hE hR hG c2 c1 b8 h4 h0 q0 q1 q2 q3 q4 q5 q6 q7 q8;go_wp2;refine bodyPost_ret (v:=.tuple #[.agg #[.int .i64 n,.bool true,.slice gA gs.length gC,.slice sE2 d cE2,.slice sP2 d cP2,.slice sL2 d cL2,.slice sR2 d cR2,.slice sU2 u2 cU2,.int .i64 d],.int .i64 0]) (by simp[results,Tryz.results39,go_sem,p0,p1,p2,p3,p4,p5,p6,p7,p8]) rfl ?_;obtain⟨c5,h3⟩:=qC h7.out (.int .i64 n) (.bool true) (.slice gA gs.length gC) (.slice sE2 d cE2) (.slice sP2 d cP2) (.slice sL2 d cL2) (.slice sR2 d cR2) (.slice sU2 u2 cU2) (.int .i64 d);have b6:w5.ownsRow w4.heap.size 3 1 (.slice sP2 d cP2) d (ints pr):=HM.out.own ⟨w4.heap.size,3,.slice sP2 d cP2,d,ints pr,1⟩ yq;have b7:w5.ownsRow w4.heap.size 3 1 (.slice sL2 d cL2) d (ints la):=HM.out.own ⟨w4.heap.size,3,.slice sL2 d cL2,d,ints la,1⟩ yq;exact .inr ⟨el,pr,la,ri,d,_,_,_,_,_,_,_,_,_,sE2,cE2,rfl,d6.out,HL.out,c7,(d4.out.other h3 h7.out jd jd).tmat,Row.of_owns (b6.kept h3 (.inr (zR b6 h7.out jd))),Row.of_owns (b7.kept h3 (.inr (zR b7 h7.out jd))),(d3.out.other h3 h7.out jd jd).tmat,yM a4.out h3 (by show _<=P;have:=a3.out;omega)⟩
theorem vG (w:World)(n:Int):Calls Tryz.prog 35 #[.int .i64 n] w fun e w'=>e=.returned (.bool (decide (1<=n/\n<=6)))/\w=w':=by
 by_cases h:1<=n
 ·go_enter Tryz.func35,Tryz.ntmps35
  go_wp2;go_ret;exact⟨yQ (by simp[h]),rfl⟩
 go_enter Tryz.func35,Tryz.ntmps35;go_wp2;go_ret;exact⟨yQ (by simp;omega),rfl⟩
theorem bJ (B:Nat)(w:World)(v:Value)(d:DfaV)(hB:B<=w.heap.size)(h:rP B w v d):Calls Tryz.prog 22 #[v] w fun e w'=>e=.returned (.int .i64 (uR d))/\w.grownBy w' none:=by
 obtain⟨fv,nv,rfl,hf,hn⟩:=h;have a2:=hf.len_le;rw[yB]at a2;unfold maxLen at a2;have a5:=hn.len_le;unfold maxLen at a5;obtain⟨fa,fc,rfl⟩:=hf.shape;rw[yB]at hf⊢;obtain⟨na,nc,rfl⟩:=hn.shape;have HN:=Kh hn;obtain⟨n,a0⟩:=Nm d.final.length;obtain⟨m,a1⟩:=Nm d.next.length;obtain⟨L,hL⟩:=Nm d.letters;obtain⟨S,hS⟩:=Nm d.start;rw[<-a0]at a2⊢;rw[<-a1]at a5 HN⊢;rw[<-hL,<-hS];obtain⟨H0,H1,H8,b0⟩:=Kd a0 a1 hL hS;clear hf hn a0 a1 hL hS;obtain⟨wA,H6⟩:=Nm (w.alloc (.cells #[.int .i64 L,.int .i64 S,.slice fa n fc,.slice na m nc] 29));have h3:wA.heap[w.heap.size]?=some (.cells #[.int .i64 L,.int .i64 S,.slice fa n fc,.slice na m nc] 29 (0,0)):=by rw[H6];exact heap_alloc_new w _
 have a7:w.grownBy wA none:=by rw[H6];exact Ga w _ none
 have c0:=zJ h3 0;have c1:=zJ h3 1;have c2:=zJ h3 2;have c3:=zJ h3 3;simp only[sPd,sPe,sPf]at c0 c1 c2 c3;have h4:=Kh a7;have h9:=Kh H6;clear h3 a7 H6;by_cases hl:L<1\/6<L
 ·have HE:=Kh (lW (d:=d) (by rw[<-H8.out];exact hl))
  have h8:decide (1<=L/\L<=6)=false:=decide_eq_false yo;go_enter Tryz.func22,Tryz.ntmps22;go_wp2_with fail;rw[<-h9.out];refine(vG wA L).mono ?_;rintro e w1 ⟨rfl,rfl⟩;rw[h8];go_wp2;go_ret;exact⟨yX HE.out.symm,h4.out⟩
 have c7:1<=L:=yo
 have c6:L<=6:=yo
 have H2:Hid (¬(d.letters<1\/6<d.letters)):=Kh (by rw[<-H8.out];exact hl);have h8:decide (1<=L/\L<=6)=true:=decide_eq_true yo;clear hl;by_cases h5:512<n
 ·have HE:=Kh (dJ H2.out (by rw[<-H0.out];exact h5))
  go_enter Tryz.func22,Tryz.ntmps22;go_wp2_with fail;rw[<-h9.out];refine(vG wA L).mono ?_;rintro e w1 ⟨rfl,rfl⟩;rw[h8];go_wp2;go_ret;exact⟨yX HE.out.symm,h4.out⟩
 have H5:Hid (¬512<d.final.length):=Kh (by rw[<-H0.out];exact h5);by_cases hsh:n=0\/m≠n\/S<0\/n<=S
 ·have HE:=Kh (iY H2.out H5.out (by rw[<-H0.out,<-H1.out,<-b0.out];exact hsh))
  by_cases h0:n=0
  ·have e0:((n:Int) == 0)=true:=by rw[beq_iff_eq];omega
   clear hsh h0;go_enter Tryz.func22,Tryz.ntmps22;go_wp2_with fail;rw[<-h9.out];refine(vG wA L).mono ?_;rintro e w1 ⟨rfl,rfl⟩;rw[h8];go_wp2;go_ret;exact⟨yX HE.out.symm,h4.out⟩
  have e0:((n:Int) == 0)=false:=by rw[beq_eq_false_iff_ne];omega
  by_cases h7:m=n
  ·have e1:((m:Int) != n)=false:=by rw[h7];simp
   have b7:=Kh h7;by_cases hs:S<0
   ·clear hsh h7
    go_enter Tryz.func22,Tryz.ntmps22;go_wp2_with fail;rw[<-h9.out];refine(vG wA L).mono ?_;rintro e w1 ⟨rfl,rfl⟩;rw[h8];go_wp2;go_ret;exact⟨yX HE.out.symm,h4.out⟩
   have b1:(n:Int)<=S:=yo
   clear hsh h7;go_enter Tryz.func22,Tryz.ntmps22;go_wp2_with fail;rw[<-h9.out];refine(vG wA L).mono ?_;rintro e w1 ⟨rfl,rfl⟩;rw[h8];go_wp2;go_ret;exact⟨yX HE.out.symm,h4.out⟩
  have e1:((m:Int) != n)=true:=by rw[bne_iff_ne];omega
  clear hsh;go_enter Tryz.func22,Tryz.ntmps22;go_wp2_with fail;rw[<-h9.out];refine(vG wA L).mono ?_;rintro e w1 ⟨rfl,rfl⟩;rw[h8];go_wp2;go_ret;exact⟨yX HE.out.symm,h4.out⟩
 have H7:Hid (¬(d.final.length=0\/d.next.length≠d.final.length\/d.start<0\/d.final.length<=d.start)):=Kh (by rw[<-H0.out,<-H1.out,<-b0.out];exact hsh);have h0:0<n:=yo;have e0:((n:Int) == 0)=false:=by rw[beq_eq_false_iff_ne];omega
 have h7:m=n:=yo
 have e1:((m:Int) != n)=false:=by rw[h7];simp
 have c4:0<=S:=yo
 have b1:S<n:=yo;have b2:0<m:=yo;have a9:Mat B wA (.slice na m nc) d.next:=HN.out.kept h4.out yq;obtain⟨b,off,cap,A,C,e,b6,b5,a6⟩:=a9.some_ (by rw[<-H1.out];exact b2);simp only[Value.slice.injEq]at e;obtain⟨rfl,-,rfl⟩:=e;rw[<-H1.out]at b6;have c5:nc<=9223372036854775807:=jl b5
 have HM:=Kh a6;have b7:=Kh h7;clear hsh h7 a9 a6;go_enter Tryz.func22,Tryz.ntmps22;go_wp2_with fail;rw[<-h9.out];refine(vG wA L).mono ?_;rintro e w1 ⟨rfl,rfl⟩;rw[h8];go_wp2
 go_loopg [40] m (fun g i wr=>∃k:Nat,g+k=m/\i=.int .i64 k/\qTM d k/\wA=wr)
 case atStart=>exact⟨0,rfl,rfl,fun x hx=>absurd hx yo,rfl⟩
 obtain⟨k,hg,rfl,H3,rfl⟩:=hrel;have OK:=Kh H3;have HG:=Kh hg;clear H3 hg;by_cases hk:k<m
 ·have H4:k<d.next.length:=by rw[<-H1.out];exact hk
  have a8:=HM.out.hd k H4;have h6:=HM.out.row k H4;have H9:=h6.len_le;rw[zL]at H9;unfold maxLen at H9;obtain⟨r,hr⟩:=Nm (d.next.getD k []);rw[<-hr]at a8 h6 H9;have HR:=Kh hr;have a3:=Kh H4;clear hr H4;by_cases hlr:(r.length:Int)=L
  ·have b8:=Kh hlr
   have b3:((r.length:Int) != L)=false:=by rw[hlr];simp
   obtain⟨rb,ro,rc,e,hb,h1,h2,a4⟩:=h6.some_ (by rw[zL];omega);simp only[Value.slice.injEq]at e;obtain⟨eA,-,rfl⟩:=e;rw[eA]at a8;rw[zL]at h1;have HA:=Kh eA;have RA:=Kh a4;clear eA a4 hlr h6;go_wp2
   go_loopg [51] r.length (fun g j wr'=>∃y:Nat,g+y=r.length/\j=.int .i64 y/\qCK n r y/\wA=wr')
   case atStart=>exact⟨0,rfl,rfl,fun x hx=>absurd hx yo,rfl⟩
   obtain⟨y,hg,rfl,H3,rfl⟩:=hrel;have OKY:=Kh H3;have b9:=Kh hg;clear H3 hg;by_cases hy:y<r.length
   ·have b4:=RA.out.int y hy
    obtain⟨z,hz⟩:=Nm (r.getD y 0);rw[<-hz]at b4;have HZ:=Kh hz;clear hz;by_cases hb1:z<0
    ·have HE:=Kh (qR H2.out H5.out H7.out a3.out (by rw[<-HR.out];exact gX (y:=y) hy (by rw[<-HZ.out];exact .inl hb1)))
     go_wp2;go_ret;exact⟨yX HE.out.symm,h4.out⟩
    by_cases hb2:(n:Int)<=z
    ·have HE:=Kh (qR H2.out H5.out H7.out a3.out (by rw[<-HR.out];exact gX (y:=y) hy (by rw[<-HZ.out,<-H0.out];exact .inr hb2)))
     go_wp2;go_ret;exact⟨yX HE.out.symm,h4.out⟩
    go_wp2;go_roundg (r.length-(y+1))
    case measure=>have:=b9.out;omega
    refine⟨y+1,yo,by go_num,fun x hx=>?_,rfl⟩;rcases Nat.lt_succ_iff_lt_or_eq.1 hx with hx|rfl
    ·exact OKY.out x hx
    rw[<-HZ.out];omega
   go_wp2;go_roundg (m-(k+1))
   case measure=>have:=HG.out;omega
   refine⟨k+1,yo,by go_num,fun x hx=>?_,rfl⟩;rcases Nat.lt_succ_iff_lt_or_eq.1 hx with hx|rfl
   ·exact OK.out x hx
   rw[<-HR.out,oT,<-H0.out,<-H8.out];exact⟨b8.out,fun z hz=>OKY.out z yo⟩
  have b3:((r.length:Int) != L)=true:=by rw[bne_iff_ne];exact hlr
  have HE:=Kh (qR H2.out H5.out H7.out a3.out (by rw[<-HR.out];exact qEX (by rw[<-H8.out];exact hlr)));clear hlr;go_wp2;go_ret;exact⟨yX HE.out.symm,h4.out⟩
 have HE:=Kh (qAE H2.out H5.out H7.out (fun q hq=>OK.out q (by have:=H1.out;omega)));go_wp2;go_ret;exact⟨yX HE.out.symm,h4.out⟩
end Go.Proofs.YtiknckajkdlppaaGreat
