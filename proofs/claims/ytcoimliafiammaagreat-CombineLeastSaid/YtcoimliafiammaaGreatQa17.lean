/- Part 17 of the proof. -/
import Derived.Test.YtcoimliafiammaaGreatQa16
import Derived.Deep.RegionHeld
import Derived.BigQuiet
set_option linter.unusedVariables false
set_option linter.unusedSimpArgs false
set_option maxRecDepth 100000
set_option maxHeartbeats 16000000
namespace Go.Proofs.YtcoimliafiammaaGreat
open Go.RowKit
theorem qIN (B:Nat)(w:World)(v:Value)(g:DiaV)(m:Nat->Bool)(a8:FuncId)(a9:Array Value)(h:mB B w v g)(hc:wT g.pats.length g.chos g.chos.length)(h0:0<=g.root)(h1:g.root<=1+(g.chos.length:Int))(hE:∀(args:Array Value) (W:World),Sem.run Tryz.prog (callFunc a8 args) W=.ok (.enter a8 args) W)(hF:∀(W:World) (p:Nat),w.grownBy W none->p<g.pats.length->Calls Tryz.prog a8 (#[.int .i64 (p:Int)]++a9) W fun e w'=>e=.returned (.bool (m p))/\W.grownBy w' none):Calls Tryz.prog 54 #[v,.func (.func a8) #[] a9] w fun e w'=>e=.returned (.bool (decG g.chos m g.root))/\w.grownBy w' none:=by
 obtain⟨pv,cv,rfl,hp,h7⟩:=h;obtain⟨ca,cc,rfl⟩:=h7.shape;have H8:=h7.len_le;unfold maxLen at H8;obtain⟨ps,cs,root⟩:=g;simp only at hp hc h7 H8 h0 h1 hF⊢;obtain⟨r0,rfl⟩:∃n:Nat,root=(n:Int):=⟨root.toNat,by omega⟩;obtain⟨nc,H5⟩:=Nm cs.length;rw[<-H5]at h7 H8 h1⊢;have H2:=Ga w (.cells #[pv,.slice ca nc cc,.int .i64 (r0:Int)] 35) none;have H1:=heap_alloc_new w (.cells #[pv,.slice ca nc cc,.int .i64 (r0:Int)] 35);obtain⟨wA,a0⟩:=Nm (w.alloc (.cells #[pv,.slice ca nc cc,.int .i64 (r0:Int)] 35));obtain⟨P,hP⟩:=Nm w.heap.size;rw[<-a0]at H2 H1;rw[<-hP]at H1;have a7:=h7.kept H2 (by simp);obtain⟨p0,p1,p2⟩:=zQ H1;obtain⟨a2,c6,c8,b0,b8,c5⟩:=K6 H5 a7 H1 hc a0 hP;obtain⟨b2,HE,HF,c4⟩:=K4 H2 hE hF h1;obtain⟨ans,h4⟩:=Nm (decG cs m (r0:Int));rw[<-h4];have a4:=Kh h4;clear hp h7 a7 H2 H1 a0 hP H5 hc h1 h0 hF hE h4;go_enter Tryz.func54,Tryz.ntmps54;go_upto_region 1 with fail;rw[<-b8.out,<-c5.out];go_wp2;clear p0 p1 p2
 go_loopg [5,6] r0 (fun gh r s6 wr=>∃q:Nat,gh=q/\r=.int .i64 q/\q<=1+nc/\decG cs m q=ans/\wA.grownBy wr none)
 case atStart=>exact⟨r0,rfl,rfl,by have:=c4.out;omega,a4.out.symm,zH _ _⟩
 obtain⟨q,a5,rfl,b5,h9,hg⟩:=hrel;have b1:=Kh a5;clear a5;have HG:=Kh hg;have h5:=Kh h9;clear h9;by_cases hq:2<=q
 ·have b6:(2:Int)<=q:=by omega
  obtain⟨i,rfl⟩:∃i,q=i+2:=⟨q-2,by omega⟩;have hi:i<nc:=(by omega);have H0:=c6.out.kept hg (by simp);obtain⟨b,off,cap,e,d3,h3,b7,H3⟩:=H0.at_ (by rw[<-a2.out];omega);rw[<-a2.out]at e h3;simp only[Value.slice.injEq,true_and]at e;obtain⟨rfl,rfl⟩:=e;have d1:cc<=9223372036854775807:=by unfold maxLen at b7;omega
  have h8:i<cs.length:=(by rw[<-a2.out];exact hi);have c1:=H3.p i h8;have c2:=H3.y i h8;have c3:=H3.n i h8;have h6:=iO (m:=m) b0.out (r:=((i+2:Nat):Int)) (by omega) (by omega);have e0:((i+2:Nat):Int).toNat-2=i:=by omega
  rw[e0]at h6;have H9:=qY (b0.out i h8);obtain⟨c,a6⟩:=Nm (cs.getD i default);rw[<-a6]at c1 c2 c3 h6 H9;clear H0 H3 h8 a6;obtain⟨x,y,n⟩:=c;simp only at c1 c2 c3 h6 H9;obtain⟨xn,rfl⟩:∃k:Nat,x=(k:Int):=⟨x.toNat,by omega⟩;obtain⟨yn,rfl⟩:∃k:Nat,y=(k:Int):=⟨y.toNat,by omega⟩;obtain⟨nn,rfl⟩:∃k:Nat,n=(k:Int):=⟨n.toNat,by omega⟩;rw[Int.toNat_natCast]at h6;have b4:xn<ps.length:=(by omega);have c9:yn<i+2:=(by omega);have d0:nn<i+2:=(by omega);have a1:=Kh h6;have h2:=Kh (fun(W:World) (hW:wr.grownBy W none)=>HF.out W xn (zA b2.out (zA HG.out hW)) b4);obtain⟨b,hb⟩:=Nm (m xn);rw[<-hb]at a1 h2;obtain⟨p0,p1,p2⟩:=zQ (zB c8.out hg);have h3:=heap_alloc_new wr (.cells #[.int .i64 (xn:Int),.int .i64 (yn:Int),.int .i64 (nn:Int)] 71);have H7:=Ga wr (.cells #[.int .i64 (xn:Int),.int .i64 (yn:Int),.int .i64 (nn:Int)] 71) none;obtain⟨w2,H4⟩:=Nm (wr.alloc (.cells #[.int .i64 (xn:Int),.int .i64 (yn:Int),.int .i64 (nn:Int)] 71));obtain⟨R,hR⟩:=Nm wr.heap.size;rw[<-H4]at h3 H7;rw[<-hR]at h3;obtain⟨b9,c0,c7,a3⟩:=K4 H4 hR h3 H7;obtain⟨r0,r1,r2⟩:=zQ h3;have e2:IntKind.i64.wrap ((i+2:Nat)-2:Int)=(i:Int):=by rw[show ((i+2:Nat)-2:Int)=i by omega];exact qB (by omega)
  have e3:((i+2:Nat)-2:Int)=(i:Int):=by omega
  have d2:(i:Int)<nc:=(by omega);clear hb H4 hR h3 H7 hg h6 H9 b5;go_upto_region 4 with fail;rw[<-b9.out,<-c0.out];clear c1 c2 c3;go_wp2_with fail;rw[HE.out,Oper.upon_enter];refine(h2.out _ a3.out).mono ?_;rintro e w3 ⟨rfl,H6⟩;have b3:=Kh H6;obtain⟨r0,r1,r2⟩:=zQ (zB c7.out H6);clear H6 h2;cases b with
  | true =>
   go_wp2;go_roundg yn
   case measure=>have:=b1.out;omega
   exact⟨yn,rfl,rfl,by omega,by rw[<-h5.out];exact a1.out.symm,zA (zA HG.out a3.out) b3.out⟩
  | false =>
   go_wp2;go_roundg nn
   case measure=>have:=b1.out;omega
   exact⟨nn,rfl,rfl,by omega,by rw[<-h5.out];exact a1.out.symm,zA (zA HG.out a3.out) b3.out⟩
 have b6:¬(2:Int)<=q:=by omega
 have HA:Hid (decide ((q:Int)=1)=ans):=Kh (by rw[<-h5.out,qCG _ _ (by omega)]);clear hg;go_wp2;go_ret;exact⟨zW (by rw[<-HA.out];first|rfl|simp|decide),zA b2.out HG.out⟩
theorem qNB (b off cap:Nat)(bs:List ByteArray)(s:ByteArray)(w:World)(a8:bs.length<=cap)(a9:cap<=maxLen)(a7:uQ w b off (bs.map .string))(hs:∀i (h:i<bs.length),bs[i].size<=maxLen)(a6:s.size<=maxLen)(hL:SomeLen w):Calls Tryz.prog 56 #[.agg #[.slice (some ⟨b,off,none⟩) bs.length cap],.string s] w fun e w'=>e=.returned (.bool (yJ bs s))/\w.grownBy w' none:=by
 have H0:s.size<=9223372036854775807:=by unfold maxLen at a6;omega
 have g0:=Ga w (.cells #[.slice (some ⟨b,off,none⟩) bs.length cap] 65) none;have ra0:=a7.kept g0 (by simp);go_enter Tryz.func56,Tryz.ntmps56;go_wp2_with fail;have bx0:=heap_alloc_new w (.cells #[.slice (some ⟨b,off,none⟩) bs.length cap] 65);have h3:Row (b+1) (w.alloc (.cells #[.slice (some ⟨b,off,none⟩) bs.length cap] 65)) (.slice (some ⟨b,off,none⟩) bs.length cap) (txtV bs):=.inr ⟨b,off,cap,by rw[yD],by omega,by rw[yD];exact a8,a9,ra0⟩;refine(jU (b+1) _ _ bs 6 h3 hs).mono ?_;rintro e w1 ⟨rfl,g1⟩;have ra1:=ra0.kept g1 (by simp);have h4:=zJ (zB bx0 g1) 0;simp only[List.getElem_toArray,List.getElem_cons_zero]at h4;have h9:=(hL.kept g0 (by simp)).kept g1 (by simp);have gw:=zC g0 g1;clear g0 ra0 bx0 g1 a7;clear h3;have h2:patW bs 6=0↔yT bs 6=0:=vO;obtain⟨E,h5⟩:=Nm (patW bs 6);rw[<-h5]at h2⊢;have b1:=Kh h5;clear h5;by_cases hV:yT bs 6=0
 ·have H8:E=0:=h2.2 hV
  subst H8;clear h2;have HV:=Kh hV;clear hV;go_wp2_with fail;refine(oT s 6 _ (by unfold maxLen;omega)).mono ?_;rintro e w2 ⟨rfl,rfl⟩;have hz:=vH HV.out;have h6:0<bs.length:=hz.2.2.2.2.1;have a1:bs.length<=8:=hz.2.2.1;have h7:=ra1.map 0 h6;rw[Nat.add_zero]at h7;have H4:cap<=9223372036854775807:=by unfold maxLen at a9;omega
  have b0:=Kh a9;clear hz a9;by_cases hW:zU s 6=true
  ·by_cases h1:bs.length=1
   ·have H9:((bs.length:Int)-1 == 0)=true:=by simp[h1]
    have H1:=Kh h1;clear h1;go_wp2;go_ret;exact⟨zW (qEA HV.out hW H1.out h6).symm,gw⟩
   have H9:((bs.length:Int)-1 == 0)=false:=by rw[beq_eq_false_iff_ne];omega
   go_wp2_with fail;refine(Tryz.strings_CutPrefix _ _ _).mono ?_;rintro e w2 ⟨rfl,rfl⟩;by_cases hP:Lib.hasPrefix s.data.toList bs[0].data.toList=true
   ·go_wp2
    go_loopw [6,46] (fun rs i wr=>∃(k:Nat) (r:List UInt8),k<=bs.length-1-1/\i=.int .i64 k/\rs=.string ⟨r.toArray⟩/\r.length<=2048 /\
      rZ ((mid bs).drop k) r=rZ (mid bs) (Lib.trimPrefix s.data.toList bs[0].data.toList) /\
      uQ wr b off (bs.map .string)/\wr.cell? ⟨w.heap.size,0,none⟩=some (.slice (some ⟨b,off,none⟩) bs.length cap)/\SomeLen wr/\w.grownBy wr none)
     (fun _ i _=>bs.length-(intOf i).toNat)
    case atStart=>exact⟨0,_,Nat.zero_le _,rfl,rfl,qZC HV.out hW,rfl,ra1,h4,h9,gw⟩
    clear ra1 h4 h9 gw h7;obtain⟨k,r,hk,rfl,rfl,a0,h0,rar,H3,h8,gr⟩:=hrel;have HF:=Kh h0;clear h0;by_cases hlt:k<bs.length-1-1
    ·have H6:=rar.map (1+k) (by omega)
     rw[<-Nat.add_assoc]at H6;have H2:(k:Int)<((bs.length-1-1:Nat):Int):=(by omega);go_wp2_with fail;obtain⟨_,m,hm⟩:=id h8
     refine(Tryz.strings_Cut _ _ m _ (by
      have:(ByteArray.mk r.toArray).size=r.toArray.size:=rfl
      rw[this,List.size_toArray];omega) hm).mono ?_
     rintro e w3 ⟨rfl,m',rfl⟩;have H5:=xCN r bs[1+k].data.toList;by_cases hf:(Lib.cut r bs[1+k].data.toList).2.2=true
     ·go_wp2
      go_roundw
      case rel =>
       exact⟨k+1,_,by omega,by go_num,rfl,by omega,by rw[<-HF.out];exact qFM bs r k hlt hf,rar.of_heap rfl,H3,h8.kept (zK _ _ none) (by simp),zC gr (zK _ _ _)⟩
      simp[intOf];omega
     go_wp2;go_ret;exact⟨zW (by rw[eq_comm];exact qBK (by omega) (by omega) (by rw[<-HF.out];exact qFL bs r k hlt hf)),zC gr (zK _ _ _)⟩
    have H5:=rar.map (bs.length-1) (by omega);have a4:((bs.length:Int)-1).toNat=bs.length-1:=by omega
    have a3:(bs.length:Int)-1<bs.length:=(by omega);have a2:0<=(bs.length:Int)-1:=by omega
    go_wp2_with fail
    refine(Tryz.strings_HasSuffix _ _ _ (by
     have:(ByteArray.mk r.toArray).size=r.toArray.size:=rfl
     rw[this,List.size_toArray];omega)).mono ?_
    rintro e w3 ⟨rfl,rfl⟩;go_wp2;go_ret;refine⟨zW ?_,gr⟩;rw[eq_comm];refine qEB HV.out hW (by omega) (by omega) hP ?_;rw[<-HF.out,List.drop_eq_nil_of_le (by rw[qL];omega)];rfl
   go_wp2;go_ret;exact⟨zW (by rw[eq_comm];exact bP (by omega) (by omega) hP),gw⟩
  go_wp2;go_ret;exact⟨zW (by simp[yJ,hW]),gw⟩
 have H7:(E != 0)=true:=by rw[bne_iff_ne];exact fun e=>hV (h2.1 e)
 have a5:(E == 0)=false:=by rw[beq_eq_false_iff_ne];exact fun e=>hV (h2.1 e)
 clear h2;have HV:=Kh hV;clear hV;go_wp2;go_ret;exact⟨zW (by simp[yJ,HV.out]),gw⟩
def diaH (g:DiaV)(s:ByteArray):Bool:=decide (diaE g 6=0) && (zU s 6 && decG g.chos (fun p=>yJ (g.pats.getD p []) s) g.root)
theorem qVG {bs:List ByteArray}{letters:Int}(h:patW bs letters=0):0<bs.length:=(vH (vO.1 h)).2.2.2.2.1
theorem qNH (B:Nat)(w:World)(P Q:Nat)(pv cv rv:Value)(ps:List (List ByteArray))(s:ByteArray)(p:Nat)(hb:w.heap[P]?=some (.cells #[pv,cv,rv] 35 (0,0)))(hq:w.heap[Q]?=some (.cells #[.string s] 9 (0,0)))(h:vE B w pv ps)(hp:p<ps.length)(h0:0<(ps.getD p []).length)(hs:s.size<=maxLen)(hL:SomeLen w):Calls Tryz.prog 55 #[.int .i64 (p:Int),.pointer (some ⟨P,0,none⟩),.pointer (some ⟨Q,0,none⟩)] w fun e w'=>e=.returned (.bool (yJ (ps.getD p []) s))/\w.grownBy w' none:=by
 obtain⟨b,off,cap,rfl,H5,H6,H1,h2⟩:=h.at_ (by omega);obtain⟨sa,sc,c1,h1,h3⟩:=h2 p hp;obtain⟨q,h6⟩:=Nm (ps.getD p []);rw[<-h6]at c1 h1 h3 h0⊢;obtain⟨kb,ko,kc,e,_,h4,h9,h8⟩:=h1.some_ (by rw[yD];exact h0);rw[yD]at e h4;simp only[Value.slice.injEq]at e;obtain⟨rfl,_,rfl⟩:=e;obtain⟨r0,r1,r2⟩:=zQ hb;have c2:w.cell? ⟨Q,0,none⟩=some (.string s):=by simpa using zJ hq 0
 have HM:Hid (∀W:World,w.grownBy W none->Calls Tryz.prog 56 #[.agg #[.slice (some ⟨kb,ko,none⟩) q.length sc],.string s] W fun e w'=>e=.returned (.bool (yJ q s))/\w.grownBy w' none):=Kh (fun W hW =>
  (qNB kb ko sc q s W h4 h9 (h8.kept hW (by simp)) h3 hs (hL.kept hW (by simp))).mono fun e w' ⟨he,hg⟩=>⟨he,zC hW hg⟩)
 have HC:Hid (∀W:World,w.grownBy W none->W.cell? ⟨P,0,none⟩=some (.slice (some ⟨b,off,none⟩) ps.length cap)/\W.cell? ⟨b,off+p,none⟩=some (.slice (some ⟨kb,ko,none⟩) q.length sc)/\W.cell? ⟨Q,0,none⟩=some (.string s)):=Kh (fun W hW=>⟨xG r0 hW,xG c1 hW,xG c2 hW⟩);obtain⟨n,hn⟩:=Nm ps.length;obtain⟨ql,h5⟩:=Nm q.length;obtain⟨mm,h7⟩:=Nm (yJ q s);rw[<-hn]at hp r0 HC;rw[<-h5]at c1 HM HC;rw[<-h7]at HM⊢;have H4:cap<=9223372036854775807:=by unfold maxLen at H1;omega
 have H3:n<=9223372036854775807:=by omega
 have H2:(p:Int)<n:=by omega
 have GA:w.grownBy w.drew none:=zN _ _;clear h2 h1 h3 h4 h9 h8 hb hq h6 hn h5 h7 h h0 hL;go_enter Tryz.func55,Tryz.ntmps55;go_upto_region 1 with fail
 go_region_held3 (fun w'=>w'.cell? ⟨P,0,none⟩=some (.slice (some ⟨b,off,none⟩) n cap)/\w'.cell? ⟨b,off+p,none⟩=some (.slice (some ⟨kb,ko,none⟩) ql sc)/\w'.cell? ⟨Q,0,none⟩=some (.string s))
  (first|go_keep|exact HC.out _ H0|fail)
  (first|(go_at_call 56;(with_reducible refine(HM.out _ GA).mono ?_);rintro e w7 ⟨rfl,H0⟩)|fail)
 all_goals
  go_wp2;go_ret;exact⟨rfl,by first|assumption|exact H0⟩
theorem qNZ (B:Nat)(w:World)(v:Value)(g:DiaV)(s:ByteArray)(hB:B<=w.heap.size)(h:mB B w v g)(hs:s.size<=maxLen)(hL:SomeLen w):Calls Tryz.prog 27 #[v,.string s] w fun e w'=>e=.returned (.bool (diaH g s))/\w.grownBy w' none:=by
 obtain⟨pv,cv,rfl,hp,hc⟩:=h;obtain⟨ps,cs,root⟩:=g;simp only at hp hc⊢;obtain⟨w0,b0⟩:∃w0:World,w0=w:=⟨w,rfl⟩;have H5:=Ga w (.cells #[pv,cv,.int .i64 root] 35) none;have H2:=heap_alloc_new w (.cells #[pv,cv,.int .i64 root] 35);obtain⟨w1,h9⟩:=Nm (w.alloc (.cells #[pv,cv,.int .i64 root] 35));obtain⟨P,hP⟩:=Nm w.heap.size;have H8:w1.heap.size=P+1:=by rw[h9,hP,zL]
 rw[<-h9]at H5 H2;rw[<-hP]at H2;have H1:=Ga w1 (.cells #[.string s] 9) none;have h2:=heap_alloc_new w1 (.cells #[.string s] 9);obtain⟨wA,H3⟩:=Nm (w1.alloc (.cells #[.string s] 9));rw[<-H3]at H1 h2;rw[H8]at h2;have H6:=zB H2 H1;have h1:=zA H5 H1;rw[h9]at H3;obtain⟨a3,a6,H7,a9,a2⟩:=K5 H3 hP h1 H6 h2;have HP:=Kh (hp.kept h1 (by simp));have HC:=Kh (hc.kept h1 (by simp));have a7:=Kh (hL.kept h1 (by simp))
 have HV:Hid (∀W:World,wA.grownBy W none->Calls Tryz.prog 13 #[.agg #[pv,cv,.int .i64 root],.int .i64 6] W fun e w'=>e=.returned (.int .i64 (diaE ⟨ps,cs,root⟩ 6))/\W.grownBy w' none):=Kh (fun W hW =>
  qAJ B W _ ⟨ps,cs,root⟩ 6 (by have:=h1.size;have:=hW.size;omega) ⟨pv,cv,rfl,HP.out.kept hW (by simp),HC.out.kept hW (by simp)⟩)
 have a0:=Kh (fun W=>oT s 6 W hs);obtain⟨E,hE⟩:=Nm (diaE ⟨ps,cs,root⟩ 6);obtain⟨vb,H4⟩:=Nm (zU s 6);rw[<-hE]at HV;rw[<-H4]at a0;have HE:=Kh hE;have a4:=Kh H4;obtain⟨p0,p1,p2⟩:=zQ H6;have c2:wA.cell? ⟨P+1,0,none⟩=some (.string s):=by simpa using zJ h2 0
 obtain⟨Q,hQ⟩:=Nm (P+1);rw[<-hQ]at c2 a2;have a5:=Kh hQ;clear hp hc H5 H2 H1 h2 H6 h1 h9 H3 hP hE H4 hQ H8;go_enter Tryz.func27,Tryz.ntmps27;go_upto_region 1 with fail;rw[<-a6.out,<-a5.out];rw[<-a3.out];go_wp2_with fail;refine(HV.out _ (zH _ _)).mono ?_;rintro e w3 ⟨rfl,H0⟩;have h0:=Kh H0;have h4:=Kh (zB a9.out H0);have h3:=Kh (zB a2.out H0);obtain⟨p0,p1,p2⟩:=zQ h4.out;have c2:w3.cell? ⟨Q,0,none⟩=some (.string s):=by simpa using zJ h3.out 0
 clear H0 HV;by_cases hE:E=0
 case neg =>
  have e1:(E != 0)=true:=by rw[bne_iff_ne];exact hE
  have HR:Hid (diaH ⟨ps,cs,root⟩ s=false):=Kh (by
   unfold diaH;rw[show decide (diaE ⟨ps,cs,root⟩ 6=0)=false by rw[decide_eq_false_iff_not,<-HE.out];exact hE];rfl)
  clear hE;go_wp2;go_ret;exact⟨zW HR.out.symm,zA H7.out h0.out⟩
 have e1:(E != 0)=false:=by simp[hE]
 have HD:=Kh (cM (g:=⟨ps,cs,root⟩) (letters:=6) (by rw[<-HE.out];exact hE))
 have HR:Hid (diaH ⟨ps,cs,root⟩ s=(vb && decG cs (fun p=>yJ (ps.getD p []) s) root)):=Kh (by
  unfold diaH;rw[show decide (diaE ⟨ps,cs,root⟩ 6=0)=true by rw[decide_eq_true_eq,<-HE.out];exact hE,a4.out];rfl)
 clear hE;go_wp2_with fail;refine(a0.out _).mono ?_;rintro e w4 ⟨rfl,rfl⟩;cases vb with
 | false =>
  go_wp2;go_ret;exact⟨zW HR.out.symm,zA H7.out h0.out⟩
 | true =>
  rw[Bool.true_and]at HR
  have a1:Hid (Calls Tryz.prog 54 #[.agg #[pv,cv,.int .i64 root],.func (.func 55) #[] #[.pointer (some ⟨P,0,none⟩),.pointer (some ⟨Q,0,none⟩)]] w3 fun e w'=>e=.returned (.bool (decG cs (fun p=>yJ (ps.getD p []) s) root))/\w3.grownBy w' none):=Kh (by
   obtain⟨_,_,_,_,h5,h6,h7,h8⟩:=HD.out;refine qIN B w3 _ ⟨ps,cs,root⟩ (fun p=>yJ (ps.getD p []) s) _ _ ⟨pv,cv,rfl,HP.out.kept h0.out (by simp),HC.out.kept h0.out (by simp)⟩ h6 h7 h8 (fun _ _=>rfl) (fun W p hW hp=>?_)
   exact qNH B W P Q pv cv _ ps s p (zB h4.out hW) (zB h3.out hW) ((HP.out.kept h0.out (by simp)).kept hW (by simp)) hp (qVG (by rw[zG hp];exact h5 _ (List.getElem_mem hp))) hs ((a7.out.kept h0.out (by simp)).kept hW (by simp)))
  go_wp2_with fail;refine a1.out.mono ?_;rintro e w5 ⟨rfl,H9⟩;have a8:=Kh H9;clear H9 a1;go_wp2;go_ret;exact⟨zW HR.out.symm,zA (zA H7.out h0.out) a8.out⟩
def famB (l:List (List (List Int))):List (List ByteArray):=l.map fun p=>p.map strOfNums
theorem wJ (l:List (List (List Int))):(famB l).length=l.length:=by simp[famB]
theorem qOZ (p:List (List Int)):strs p=txtV (p.map strOfNums):=by simp[strs,txtV]
def qYT (ds:List DfaV)(k:Nat)(lw:List (List Nat×List Nat)):Bool :=
 decide ((lw.map (·.2)).Nodup) && (decide ((lw.map (·.2))[0]?=some (st0T ds)) && (lw.all (fun p=>(List.range k).all fun a=>decide (nxtT ds p.2 a∈lw.map (·.2))) && lw.all (fun p=>decide (∀a∈p.1,a<k) && decide (rA (nxtT ds) (st0T ds) p.1=p.2))))
theorem qTK {ds:List DfaV}{k:Nat}{lw:List (List Nat×List Nat)}(h:qYT ds k lw=true):BfsD (nxtT ds) k (st0T ds) (lw.map (·.2)):=by
 simp only[qYT,Bool.and_eq_true,decide_eq_true_eq,List.all_eq_true]at h;obtain⟨h1,h2,h3,h4⟩:=h;refine⟨h1,h2,fun x hx b hb=>?_,fun x hx=>?_⟩
 ·obtain⟨p,hp,rfl⟩:=List.mem_map.1 hx
  exact h3 p hp b (List.mem_range.2 hb)
 obtain⟨p,hp,rfl⟩:=List.mem_map.1 hx;exact⟨p.1,(h4 p hp).1,(h4 p hp).2⟩
def dK:DfaV:=⟨2,0,[false,false,true],[[1,0],[1,2],[1,2]]⟩
def psFL:List (List (List Int)):=[[[]],[[],[97]],[[],[98]],[[97],[]],[[98],[]],[[],[97],[]],[[],[98],[]]]
def psPL:List (List (List Int)):=[[[],[97],[]],[[],[98],[]]]
def psF:List (List ByteArray):=famB psFL
def psP:List (List ByteArray):=famB psPL
theorem famF:famL 5 2 1 0=psFL:=by decide +kernel
theorem xDH:famE 5 2 1 0=0:=by decide +kernel
theorem xDF:famL 6 2 1 0=psPL:=by decide +kernel
theorem xDG:famE 6 2 1 0=0:=by decide +kernel
theorem ofEF:ofE dK psF=0:=by decide +kernel
theorem ofEP:ofE dK psP=0:=by decide +kernel
def tupD (d:DfaV):Int×Int×List Bool×List (List Int):=(d.letters,d.start,d.final,d.next)
def mkD (t:Int×Int×List Bool×List (List Int)):DfaV:=⟨t.1,t.2.1,t.2.2.1,t.2.2.2⟩
theorem qYK {l:List DfaV}{t:List (Int×Int×List Bool×List (List Int))}(h:l.map tupD=t):l=t.map mkD:=by
 subst h;rw[List.map_map];exact(List.map_id' l).symm
def tF:List DfaV:=([(2,0,[true,false],[[1,1],[1,1]]),(2,0,[false,true],[[1,0],[1,0]]),
 (2,0,[false,true],[[0,1],[0,1]]),(2,0,[false,true,false],[[1,2],[1,1],[2,2]]),
 (2,0,[false,false,true],[[1,2],[1,1],[2,2]]),(2,0,[false,true],[[1,0],[1,1]]),
 (2,0,[false,true],[[0,1],[1,1]]),(2,0,[false,false,true],[[1,0],[1,2],[1,2]])]:List (Int×Int×List Bool×List (List Int))).map mkD
def tP:List DfaV:=([(2,0,[false,true],[[1,0],[1,1]]),(2,0,[false,true],[[0,1],[1,1]]),(2,0,[false,false,true],[[1,0],[1,2],[1,2]])]:List (Int×Int×List Bool×List (List Int))).map mkD
theorem ofTF:ofT dK psF=tF:=qYK (by decide +kernel)
theorem ofTP:ofT dK psP=tP:=qYK (by decide +kernel)
def lF:List (List Nat×List Nat):=[([],[0,0,0,0,0,0,0,0]),([0],[1,1,0,1,1,1,0,1]),([1],[1,0,1,2,2,0,1,0]),
 ([0,1],[1,0,1,1,1,1,1,2]),([1,0],[1,1,0,2,2,1,1,1]),([0,1,0],[1,1,0,1,1,1,1,1]),
 ([1,0,1],[1,0,1,2,2,1,1,2])]
def lP:List (List Nat×List Nat):=[([],[0,0,0]),([0],[1,0,1]),([1],[0,1,0]),([0,1],[1,1,2]),([1,0],[1,1,1])]
theorem bfsF:BfsD (nxtT (ofT dK psF)) 2 (st0T (ofT dK psF)) (lF.map (·.2)):=by rw[ofTF];exact qTK (by decide +kernel)
theorem bfsP:BfsD (nxtT (ofT dK psP)) 2 (st0T (ofT dK psP)) (lP.map (·.2)):=by rw[ofTP];exact qTK (by decide +kernel)
theorem xBB:qXY (ofT dK psF) 2:=⟨_,bfsF,by decide⟩
theorem xBA:qXY (ofT dK psP) 2:=⟨_,bfsP,by decide⟩
theorem qZT:¬Conf (ofT dK psF) 7 2:=by
 rw[lX (by rw[uV];decide) bfsF,ofTF];have:(lF.map (·.2)).all (fun x=>(lF.map (·.2)).all fun y=>!(decide (mtsT tF 7 x=mtsT tF 7 y) && (accT tF x 7 && !accT tF y 7)))=true:=by decide +kernel
 rw[List.all_eq_true]at this;rintro ⟨x,y,hx,hy,h1,h2,h3⟩;have h4:=this x hx;rw[List.all_eq_true]at h4;have h5:=h4 y hy;simp[h1,h2,h3]at h5
theorem xDJ:Conf (ofT dK psP) 2 2:=by
 rw[lX (by rw[uV];decide) bfsP,ofTP];exact⟨[1,1,2],[1,1,1],by decide,by decide,by decide +kernel,by decide +kernel,by decide +kernel⟩
theorem xDI:VD dK 3 2:=bM (d:=dK) (by decide +kernel)
theorem qGU {u:List Nat}(hu:yO 2 u):run dK 0 u<3:=aF xDI u (by decide) hu
theorem qQO {bs:List ByteArray}{k:Int}(h:patW bs k=0)(hk:k<=6):patW bs 6=0:=vO.2 (nX (vO.1 h) hk (Int.le_refl 6))
theorem qYJ {d:DfaV}{ps:List (List ByteArray)}{g:DiaV}(hE:ofE d ps=0)(h1:g.pats=ps)(h2:wT ps.length g.chos g.chos.length)(h3:0<=g.root)(h4:g.root<=1+(g.chos.length:Int))(hl:g.chos.length<=20000):diaE g 6=0/\diaE g d.letters=0:=by
 obtain⟨e1,e2,e3⟩:=nE hE;have hv:=bM e1;have hk:=hv.hk;have k1:=hv.k1;have k6:=hv.k6;have hp:=tE.1 e3;exact⟨qST (by omega) (by omega) (by rw[h1];exact e2) hl (fun p hp2=>qQO (hp p (by rw[<-h1];exact hp2)) (by omega)) (by rw[h1];exact h2) h3 h4,qST (by omega) (by omega) (by rw[h1];exact e2) hl (fun p hp2=>hp p (by rw[<-h1];exact hp2)) (by rw[h1];exact h2) h3 h4⟩
theorem qJY {d:DfaV}{ps:List (List ByteArray)}{g:DiaV}(hE:ofE d ps=0)(h1:g.pats=ps)(h2:wT ps.length g.chos g.chos.length)(h3:0<=g.root)(h4:g.root<=1+(g.chos.length:Int))(hl:g.chos.length<=20000)(h5:∀u,yO d.letters.toNat u->decG g.chos (fun i=>acc (xI (ps.getD i []) d.letters) (st0 (xI (ps.getD i []) d.letters)) u) g.root=acc d (st0 d) u){s:ByteArray}(hs:zU s d.letters=true):diaH g s=acc d (st0 d) (zI s):=by
 obtain⟨e1,e2,e3⟩:=nE hE;have hv:=bM e1;have hk:=hv.hk;have k1:=hv.k1;have k6:=hv.k6;have hp:=tE.1 e3;obtain⟨k,h7⟩:=Nm d.letters.toNat;have h0:d.letters=(k:Int):=by rw[h7];exact hk
 rw[h0]at hs;have h8:=(uI hs).1;have h6:=h5 (zI s) (by rw[<-h7];exact h8);rw[<-h6,diaH,(qYJ hE h1 h2 h3 h4 hl).1,pW hs (by omega) (Int.le_refl 6)];simp only[decide_true,Bool.true_and];refine qID h2 (fun i hi=>?_) h4;have h9:patW (ps.getD i []) (k:Int)=0:=by rw[<-h0,zG hi];exact hp _ (List.getElem_mem hi)
 rw[h1,h0];exact(qMT (vO.1 h9) hs).symm
open Go.Maps
def qXR (c:ChoV):List Value:=[.int .i64 c.p,.int .i64 c.y,.int .i64 c.n]
def qX (l:List ChoV):List Value:=l.flatMap qXR
theorem qIJ (l:List ChoV)(c:ChoV):qX (l++[c])=qX l++qXR c:=by simp[qX]
theorem lY:∀(l:List ChoV) (i:Nat) (h:i<l.length),(qX l)[i*3]?=some (.int .i64 l[i].p)/\(qX l)[i*3+1]?=some (.int .i64 l[i].y)/\(qX l)[i*3+2]?=some (.int .i64 l[i].n)
 | [],i,h=>by simp at h
 | x::l,0,_=>⟨rfl,rfl,rfl⟩
 | x::l,i+1,h=>by
  have h1:=lY l i (by simpa using h)
  rw[show qX (x::l)=.int .i64 x.p::.int .i64 x.y::.int .i64 x.n::qX l from rfl,show (i+1)*3=i*3+1+1+1 by omega,show i*3+1+1+1+1=(i*3+1)+1+1+1 by omega,show i*3+1+1+1+2=(i*3+2)+1+1+1 by omega]
  simpa using h1
theorem qXJ:ElemN Tryz.prog 33 71 3 (.agg #[.int .i64 0,.int .i64 0,.int .i64 0]) 24:=⟨by kernel_rfl,by kernel_rfl,by rfl,by decide⟩
theorem qFX {base:Nat}{w:World}{v:Value}{l:List ChoV}{B:Nat}(h:w.ownsRow base 71 3 v l.length (qX l))(hB:w.heap.size<=B):pD B w v l:=by
 have h1:∀g j,(⟨g,0,none⟩:Addr).add j=⟨g,j,none⟩:=fun g j=>by unfold Addr.add;split<;>simp_all
 rcases h.2 with ⟨rfl,h0⟩|⟨g,cap,cur,rfl,hb,hg,hnc,hcm,_⟩
 ·exact .inl ⟨none,0,by first|rfl|rw[h0],List.eq_nil_of_length_eq_zero h0⟩
 refine .inr ⟨g,0,cap,rfl,Nat.lt_of_lt_of_le (zM hg) hB,hnc,hcm,zM hg,fun i hi=>?_,fun i hi=>?_,fun i hi=>?_⟩
 ·have c1:=h.cells (g:=g) rfl _ _ (lY l i hi).1
  rw[h1]at c1;rw[zG hi,Nat.zero_add];exact c1
 ·have c1:=h.cells (g:=g) rfl _ _ (lY l i hi).2.1
  rw[h1]at c1;rw[zG hi,Nat.zero_add];exact c1
 have c1:=h.cells (g:=g) rfl _ _ (lY l i hi).2.2;rw[h1]at c1;rw[zG hi,Nat.zero_add];exact c1
theorem qFY:Tryz.prog.underlying 114=some (.map 71 3):=by kernel_rfl
theorem qSZ:Keyed Tryz.prog 71:=Keyed.of_law (deep_law_laid (m:=5) (by kernel_rfl) (by decide) (of_decide_eq_true (by kernel_rfl)) (by kernel_rfl) (by kernel_rfl))
def choW (c:ChoV):Value:=.agg #[.int .i64 c.p,.int .i64 c.y,.int .i64 c.n]
def qCS (c:ChoV):Prop:=(0<=c.p/\c.p<4611686018427387904)/\(0<=c.y/\c.y<4611686018427387904)/\(0<=c.n/\c.n<4611686018427387904)
theorem qFZ:Tryz.prog.cellsOf 71=3:=by kernel_rfl
theorem qXT {x0 x1 x2:Nat}(h0:x0<4611686018427387904)(h1:x1<4611686018427387904)(h2:x2<4611686018427387904):(keyOf Tryz.prog 71 (.agg #[.int .i64 (x0:Int),.int .i64 (x1:Int),.int .i64 (x2:Int)])).isSome=true:=by
 have hk:Tryz.prog.keyType 71=true:=by kernel_rfl
 unfold keyOf;rw[Tryz.underlying71];simp only[hk,Bool.true_and]
 have hf:(Value.agg #[.int .i64 (x0:Int),.int .i64 (x1:Int),.int .i64 (x2:Int)]).formed Tryz.prog 71=true:=by
  simp[Value.formed,Tryz.underlying71,qFZ]
 rw[if_pos hf]
 have hl:Tryz.prog.keyLits (Tryz.prog.types.size+1) 71 (Value.agg #[.int .i64 (x0:Int),.int .i64 (x1:Int),.int .i64 (x2:Int)]).cells.toList=some [.int .i64 (x0:Int),.int .i64 (x1:Int),.int .i64 (x2:Int)]:=by
  have hz:Tryz.prog.types.size=(Tryz.prog.types.size-1)+1:=by kernel_rfl
  rw[hz];unfold Program.keyLits;rw[Tryz.underlying71];simp[Value.cells,qFZ,dW,tV _ h0,tV _ h1,tV _ h2]
 rw[hl];rfl
theorem qTA:KeyK 114 71 qCS choW where
 key:=qSZ
 und:=qFY
 of:=fun c h=>by
  obtain⟨p,y,n⟩:=c
  obtain⟨⟨a1,a2⟩,⟨b1,b2⟩,⟨c1,c2⟩⟩:=h
  simp only at a1 a2 b1 b2 c1 c2
  have:=qXT (x0:=p.toNat) (x1:=y.toNat) (x2:=n.toNat) (by omega) (by omega) (by omega)
  rw[Int.toNat_of_nonneg a1,Int.toNat_of_nonneg b1,Int.toNat_of_nonneg c1]at this
  exact this
 inj:=fun x y hx hy e=>by
  obtain⟨p,y',n⟩:=x
  obtain⟨p2,y2,n2⟩:=y
  simp only[choW,Value.agg.injEq]at e
  have e:=congrArg Array.toList e
  simp only[List.cons.injEq,Value.int.injEq,true_and,and_true]at e
  obtain⟨rfl,rfl,rfl⟩:=e
  rfl
def numH (l:List ChoV)(c:ChoV):Option Nat:=if c∈l then some (l.idxOf c) else none
theorem qHJ {l:List ChoV}{c:ChoV}(h:c∈l):numH l c=some (l.idxOf c):=if_pos h
theorem qKB {l:List ChoV}{c:ChoV}(h:c ∉ l):numH l c=none:=if_neg h
theorem qRB {l:List ChoV}{c:ChoV}(h:c ∉ l):(fun q=>if q=c then some l.length else numH l q)=numH (l++[c]):=by
 funext q;unfold numH;by_cases e:q=c
 ·subst e
  rw[if_pos rfl,if_pos (by simp),List.idxOf_append,if_neg h];simp
 rw[if_neg e];by_cases hq:q∈l
 ·rw[if_pos hq,if_pos (List.mem_append_left _ hq),List.idxOf_append,if_pos hq]
 rw[if_neg hq,if_neg (fun h=>by
  rcases List.mem_append.1 h with h|h
  ·exact hq h
  simp at h;exact e h)]
theorem BoxS.rewk {B:Nat}{X:Nat->Prop}{o ty:Nat}{w0 wk a9 w:World}{rs:List RowS}{c:Array Value}(h:BoxS B X o ty w0 wk rs c w)(hk:uH X a9 wk)(hz:a9.heap.size<=wk.heap.size)(hB:B<=a9.heap.size):BoxS B X o ty w0 a9 rs c w :=
 ⟨h.mem,h.typ,h.box,h.off,h.size,h.old,hB,h.grown,hk.trans h.kept,Nat.le_trans hz h.wk⟩
inductive BldS (w0:World)(B:Nat)(X:Nat->Prop)(o mb:Nat)(wk:World)(cs:List ChoV)(w:World):Prop
 | mk (sa:Option Addr) (cap u c:Nat) (hB:BoxS B X o 116 w0 wk (⟨B,71,.slice sa cs.length cap,cs.length,qX cs,3⟩::[]) #[.slice sa cs.length cap,.map (some mb)] w)
  (hM:MapK 71 qCS choW w mb u c (numH cs)) (hmx:¬X mb) (hmb:w0.heap.size<=mb) (hu:u<=cs.length)
section
variable {w0 w w' wk:World} {B o mb:Nat} {X:Nat->Prop} {cs:List ChoV}
theorem BldS.facts (h:BldS w0 B X o mb wk cs w):w0.grownBy w none/\uH X wk w/\wk.heap.size<=w.heap.size/\B<=w.heap.size/\B<=wk.heap.size/\mb<w.heap.size/\o<w.heap.size:=by
 obtain⟨sa,cap,u,c,hB,hM,h0,h1,hu⟩:=h;exact⟨hB.grown,hB.kept,hB.wk,Nat.le_trans hB.base hB.wk,hB.base,hM.lt,zM hB.box⟩
theorem BldS.grow (h:BldS w0 B X o mb wk cs w)(hg:w.grownBy w' none):BldS w0 B X o mb wk cs w':=by
 obtain⟨sa,cap,u,c,hB,hM,h0,h1,hu⟩:=h;exact⟨sa,cap,u,c,hB.grow hg,hM.kept hg (by simp),h0,h1,hu⟩
theorem BldS.rebase (h:BldS w0 B X o mb wk cs w):BldS w0 B X o mb w cs w:=by
 obtain⟨sa,cap,u,c,hB,hM,h0,h1,hu⟩:=h;exact⟨sa,cap,u,c,hB.rebase,hM,h0,h1,hu⟩
theorem BldS.fresh (h:BldS w0 B X o mb wk cs w)(hg:w.grownBy w' none){Y:Nat->Prop}(hY:∀k,Y k->w.heap.size<=k/\k<w'.heap.size):BldS w0 B (fun k=>X k\/Y k) o mb w' cs w':=by
 obtain⟨sa,cap,u,c,hB,hM,h0,h1,hu⟩:=h
 exact⟨sa,cap,u,c,hB.fresh hg hY,hM.kept hg (by simp),fun e=>by
  rcases e with e|e
  ·exact h0 e
  have:=(hY mb e).1;have:=hM.lt
  omega,h1,hu⟩
theorem BldS.back {X':Nat->Prop}{a9:World}(h:BldS w0 B X' o mb wk cs w)(hX:∀q,X q->X' q)(hk:uH X a9 wk)(hz:a9.heap.size<=wk.heap.size)(hB:B<=a9.heap.size):BldS w0 B X o mb a9 cs w:=by
 obtain⟨sa,cap,u,c,h2,hM,h0,h1,hu⟩:=h;exact⟨sa,cap,u,c,(h2.less hX).rewk hk hz hB,hM,fun e=>h0 (hX _ e),h1,hu⟩
theorem BldS.cells (h:BldS w0 B X o mb wk cs w):∃sa cap u c,w.heap[o]?=some (.cells #[.slice sa cs.length cap,.map (some mb)] 116 (0,0))/\w.ownsRow B 71 3 (.slice sa cs.length cap) cs.length (qX cs)/\MapK 71 qCS choW w mb u c (numH cs)/\u<=cs.length:=by
 obtain⟨sa,cap,u,c,hB,hM,h0,h1,hu⟩:=h;exact⟨sa,cap,u,c,hB.box,hB.own (r:=⟨B,71,.slice sa cs.length cap,cs.length,qX cs,3⟩) (by simp),hM,hu⟩
theorem BldS.put (h:BldS w0 B X o mb wk cs w){x:ChoV}(hx:x ∉ cs){sa:Option Addr}{cap u1 c1:Nat}(a9:w.heap[o]?=some (.cells #[.slice sa cs.length cap,.map (some mb)] 116 (0,0)))(hg:w.grownBy w' (some mb))(a8:MapK 71 qCS choW w' mb u1 c1 (numH (cs++[x])))(a7:u1<=cs.length+1):w'.cell? ⟨o,0,none⟩=some (.slice sa cs.length cap)/\w'.ownsRow B 71 3 (.slice sa cs.length cap) cs.length (qX cs)/\B<=w'.heap.size/\(∀wg,w'.grownBy wg none->∀w2 s' c',w2.ownsRow B 71 3 (.slice s' (cs.length+1) c') (cs.length+1) (qX cs++qXR x)->wg.grownBy w2 (Value.slice sa cs.length cap).ownBlock->pG wg w2 (.slice sa cs.length cap) (.slice s' (cs.length+1) c')->w2.cell? ⟨o,0,none⟩=some (.slice sa cs.length cap)/\w2.frozen? ⟨o,0,none⟩=false/\BldS w0 B X o mb wk (cs++[x]) (w2.setCell ⟨o,0,none⟩ (.slice s' (cs.length+1) c'))):=by
 obtain⟨sa2,cap2,u2,c2,hB,hM,h3,h4,hu⟩:=h;have h0:=hB.box;rw[a9]at h0;simp only[Option.some.injEq,Obj.cells.injEq,and_true]at h0;have h0:=congrArg Array.toList h0;simp only[List.cons.injEq,and_true,Value.slice.injEq,true_and]at h0;obtain⟨rfl,rfl⟩:=h0
 have h2:o≠mb:=fun e=>by
  obtain⟨es,clock,hb⟩:=hM.obj;rw[e,hb]at a9;simp at a9
 have h1:=hB.far hg (fun r hr=>yL (es:=#[]) (clock:=0) (hB.mem.own r hr) hM.obj) h3 h2 h4;have ho:=h1.own (r:=⟨B,71,.slice sa cs.length cap,cs.length,qX cs,3⟩) (by simp);have h6:=zJ h1.box 0;simp only[List.getElem_toArray,List.getElem_cons_zero]at h6;refine⟨h6,ho,Nat.le_trans h1.base h1.wk,fun wg hwg w2 s' c' hown hg2 hmv=>?_⟩;have h8:=h1.grow hwg;have h7:=a8.kept hwg (by simp);have h9:(Value.slice sa cs.length cap).ownBlock≠some mb:=yL (es:=#[]) (clock:=0) (zP ho hwg) h7.obj;have hA:=h8.appAt (j:=0) rfl hown hg2 hmv;have h5:=zJ hA.box 0;simp only[List.getElem_toArray,List.getElem_cons_zero]at h5;have hZ:=hA.set 0 (.slice s' (cs.length+1) c');have H0:=(h7.kept hg2 h9).kept (zD w2 ⟨o,0,none⟩ (.slice s' (cs.length+1) c')) (fun e=>h2 (Oj e));have e1:(cs++[x]).length=cs.length+1:=by rw[List.length_append];rfl
 refine⟨h5,zF hA.box 0,⟨s',c',u1,c1,?_,H0,h3,h4,by omega⟩⟩;rw[e1,qIJ];exact hZ
end
def conR (l:List ClaV):Int:=if qW l=true/\0<l.length then gL (l.headD default).b else 0
def ConI (l:List ClaV)(k:Nat):Prop:=∀i,i<k->(l.getD i default).b=(l.headD default).b
theorem ConI.bad {l:List ClaV}{k:Nat}(hk:k<l.length)(h:(l.getD k default).b≠(l.headD default).b):qW l=false:=by
 rw[qW,List.all_eq_false];refine⟨l[k],List.getElem_mem hk,?_⟩;rw[zG hk]at h;simpa using h
theorem ConI.all {l:List ClaV}(h:ConI l l.length):qW l=true:=by
 rw[qW,List.all_eq_true];intro c hc;obtain⟨i,hi,rfl⟩:=List.getElem_of_mem hc;have:=h i hi;rw[zG hi]at this;simp[this]
theorem qFR (X:Nat->Prop)(w:World)(v:Value)(l:List ClaV)(h:ClsX X w v l):Calls Tryz.prog 86 #[v] w fun e w'=>e=.returned (.tuple #[.int .i64 (conR l),.bool (qW l)])/\w.grownBy w' none:=by
 have H6:=h.len_le;obtain⟨a,c,rfl⟩:=h.shape;obtain⟨n,hn⟩:=Nm l.length;have H:=Kh h;have HN:=Kh hn;rw[<-hn]at H6 H⊢;unfold maxLen at H6;obtain⟨hb,H7⟩:=Nm ((l.headD default).b);have H1:=Kh H7;clear h hn H7;go_enter Tryz.func86,Tryz.ntmps86;go_wp2
 go_loopg [4,5,7,10] n (fun gh v4 v5 v7 v10 wr=>∃k:Nat,gh+k=n/\v10=.int .i64 k/\v4=.int .i64 (if k=0 then 0 else gL hb)/\ConI l k/\w.grownBy wr none)
 case atStart=>exact⟨0,rfl,rfl,rfl,fun i hi=>by omega,zH _ _⟩
 obtain⟨k,H8,rfl,rfl,hc,hg⟩:=hrel;obtain⟨h3,HC,HG⟩:=K3 H8 hc hg;clear H8 hc;by_cases hk:k<n
 ·have a6:(k:Int)<n:=by omega
  obtain⟨b,off,cap,e,_,a0,H9,h9⟩:=(H.out.grow hg).at_ (by rw[<-HN.out];omega);rw[<-HN.out]at e a0;simp only[Value.slice.injEq,true_and]at e;obtain⟨rfl,rfl⟩:=e;have a9:c<=9223372036854775807:=by unfold maxLen at H9;omega
  have c1:=h9.m k (by rw[<-HN.out];exact hk);have c2:=h9.y k (by rw[<-HN.out];exact hk);have c3:=h9.n k (by rw[<-HN.out];exact hk);obtain⟨U,hU⟩:=Nm (mT (l.getD k default).m);obtain⟨y,hy⟩:=Nm ((l.getD k default).yes);obtain⟨z,hz⟩:=Nm ((l.getD k default).no);rw[<-hU]at c1;rw[<-hy]at c2;rw[<-hz]at c3;have HB:Hid ((l.getD k default).b=decide (0<=y)):=Kh (by rw[hy];rfl);have H0:=heap_alloc_new wr (.cells #[.string U,.int .i64 y,.int .i64 z] 92);have H4:=Ga wr (.cells #[.string U,.int .i64 y,.int .i64 z] 92) none;obtain⟨w2,H2⟩:=Nm (wr.alloc (.cells #[.string U,.int .i64 y,.int .i64 z] 92));obtain⟨R,hR⟩:=Nm wr.heap.size;rw[<-H2]at H0 H4;rw[<-hR]at H0;have a7:=Kh H2;have a8:=Kh hR;have h6:=Kh (zA hg H4);obtain⟨r0,r1,r2⟩:=zQ H0;clear h9 a0 H9 hU hy hz H2 hR H4 H0 hg;go_upto_region 5 with fail;rw[<-a7.out,<-a8.out];clear c1 c2 c3
  have h4:Hid (∀b:Bool,(l.getD k default).b=b->b=hb->ConI l (k+1)):=Kh (fun b h1 h2 i hi=>by
   rcases Nat.lt_succ_iff_lt_or_eq.1 hi with hi|rfl
   ·exact HC.out i hi
   rw[h1,h2,H1.out])
  have h8:Hid (∀b:Bool,(l.getD k default).b=b->b≠hb->qW l=false):=Kh (fun b h1 h2=>ConI.bad (by rw[<-HN.out];exact hk) (by rw[h1,<-H1.out];exact h2))
  have a1:Hid (k=0->(l.getD k default).b=hb):=Kh (fun e=>by
   subst e;rw[H1.out];cases l with
   | nil=>have:=HN.out;simp at this;omega
   | cons x l=>rfl)
  by_cases hy0:(0:Int)<=y
  ·have h5:Hid ((l.getD k default).b=true):=Kh (by rw[HB.out];simp[hy0])
   by_cases hk0:k=0
   ·have HE:=Kh (a1.out hk0)
    have h7:Hid (hb=true):=Kh (by rw[<-HE.out,h5.out]);subst hk0;go_wp2;go_roundg (n-(0+1))
    case measure=>have:=h3.out;omega
    exact⟨1,by have:=h3.out;omega,rfl,by rw[h7.out];rfl,h4.out true h5.out h7.out.symm,h6.out⟩
   have a5:(0:Int)<k:=(by omega);have a4:0<k:=(by omega);rw[if_neg hk0];cases hb with
   | true =>
    have e0:gL true=1:=rfl;go_wp2;go_roundg (n-(k+1))
    case measure=>have:=h3.out;omega
    exact⟨k+1,by have:=h3.out;omega,by go_num,by rw[if_neg (by omega)];rfl,h4.out true h5.out rfl,h6.out⟩
   | false =>
    have e0:gL false=0:=rfl;have H5:=Kh (h8.out true h5.out (by simp));go_wp2;refine bodyPost_ret (v:=.tuple #[.int .i64 0,.bool false]) (by simp[results,Tryz.results86,go_sem]) rfl ?_;exact⟨by rw[conR,H5.out,if_neg (by simp)],h6.out⟩
  have h5:Hid ((l.getD k default).b=false):=Kh (by rw[HB.out];simp[hy0]);by_cases hk0:k=0
  ·have HE:=Kh (a1.out hk0)
   have h7:Hid (hb=false):=Kh (by rw[<-HE.out,h5.out]);subst hk0;go_wp2;go_roundg (n-(0+1))
   case measure=>have:=h3.out;omega
   exact⟨1,by have:=h3.out;omega,rfl,by rw[h7.out];rfl,h4.out false h5.out h7.out.symm,h6.out⟩
  have a5:(0:Int)<k:=by omega
  have a4:0<k:=(by omega);rw[if_neg hk0];cases hb with
  | false =>
   have e0:gL false=0:=rfl;go_wp2;go_roundg (n-(k+1))
   case measure=>have:=h3.out;omega
   exact⟨k+1,by have:=h3.out;omega,by go_num,by rw[if_neg (by omega)];rfl,h4.out false h5.out rfl,h6.out⟩
  | true =>
   have e0:gL true=1:=rfl;have H5:=Kh (h8.out false h5.out (by simp));go_wp2;refine bodyPost_ret (v:=.tuple #[.int .i64 0,.bool false]) (by simp[results,Tryz.results86,go_sem]) rfl ?_;exact⟨by rw[conR,H5.out,if_neg (by simp)],h6.out⟩
 have H3:k=n:=by have:=h3.out;omega
 have a6:¬(k:Int)<n:=(by omega);have a2:Hid (qW l=true):=Kh (ConI.all (by rw[<-HN.out,<-H3];exact HC.out))
 have a3:Hid (conR l=if k=0 then 0 else gL hb):=Kh (by
  rw[conR,a2.out,H1.out,<-HN.out,<-H3];by_cases h0:k=0
  ·rw[if_neg (by omega),if_pos h0]
  rw[if_pos ⟨rfl,by omega⟩,if_neg h0])
 obtain⟨x,hx⟩:=Nm (if k=0 then 0 else gL hb:Int);rw[<-hx]at a3⊢;clear H3 hx hg;go_wp2;refine bodyPost_ret (v:=.tuple #[.int .i64 x,.bool true]) (by simp[results,Tryz.results86,go_sem]) rfl ?_;exact⟨by rw[a3.out,a2.out],HG.out⟩
theorem xDE {m:List Bool}{p:Nat}(hp:p<m.length):∃h:p<(mT m).size,((mT m)[p]'h).toNat=if m.getD p false=true then 1 else 0:=by
 refine⟨by rw[qBS];exact hp,?_⟩
 have e1:(mT m).data.toList=(mN m).map (fun x=>UInt8.ofNat x):=by
  unfold mT txtT;rw[strOfNums_data];simp[zb]
 have hq:p<(mT m).size:=by rw[qBS];exact hp
 have e2:(mT m).data.toList[p]'(by simpa using hq)=(mT m)[p]'hq:=rfl;rw[<-e2,zG hp];simp only[e1,List.getElem_map,mN]
 split<;>rfl
theorem qOL {l:List ClaV}{k p:Nat}(hk:k<l.length):yesL (l.take (k+1)) p=if (l.getD k default).m.getD p false=true then yesL (l.take k) p++[l.getD k default] else yesL (l.take k) p:=by
 rw[zT (d:=default) hk,yesL,List.filter_append,List.filter_cons,List.filter_nil]
 split<;>simp[yesL]
theorem qWA {l:List ClaV}{k p:Nat}(hk:k<l.length):noL (l.take (k+1)) p=if (l.getD k default).m.getD p false=true then noL (l.take k) p else noL (l.take k) p++[l.getD k default]:=by
 rw[zT (d:=default) hk,noL,List.filter_append,List.filter_cons,List.filter_nil];cases (l.getD k default).m.getD p false<;>simp[noL]
def qYX (w:World)(l:List ClaV)(p:Nat)(e:Ending)(w':World):Prop :=
 ∃sy cy sn cn,e=.returned (.tuple #[.slice sy (yesL l p).length cy,.slice sn (noL l p).length cn])/\w'.ownsRow w.heap.size 92 3 (.slice sy (yesL l p).length cy) (yesL l p).length (sR (yesL l p))/\w'.ownsRow w.heap.size 92 3 (.slice sn (noL l p).length cn) (noL l p).length (sR (noL l p))/\w.grownBy w' none
structure Two (w:World)(ya na:Option Addr)(yc nc:Nat)(ly ln:List ClaV)(wr:World):Prop where
 y:wr.ownsRow w.heap.size 92 3 (.slice ya ly.length yc) ly.length (sR ly)
 n:wr.ownsRow w.heap.size 92 3 (.slice na ln.length nc) ln.length (sR ln)
 ne:∀k,(Value.slice ya ly.length yc).ownBlock=some k->(Value.slice na ln.length nc).ownBlock≠some k
 gr:w.grownBy wr none
theorem Two.grow {w wr w':World}{ya na:Option Addr}{yc nc:Nat}{ly ln:List ClaV}(h:Two w ya na yc nc ly ln wr)(hg:wr.grownBy w' none):Two w ya na yc nc ly ln w':=⟨zP h.y hg,zP h.n hg,h.ne,zA h.gr hg⟩
theorem Two.pushY {w wr w':World}{ya na sa:Option Addr}{yc nc sc:Nat}{ly ln:List ClaV}{c:ClaV}(h:Two w ya na yc nc ly ln wr)(ho:w'.ownsRow w.heap.size 92 3 (.slice sa (ly.length+1) sc) (ly.length+1) (sR ly++cval c))(hg:wr.grownBy w' (Value.slice ya ly.length yc).ownBlock)(hm:pG wr w' (.slice ya ly.length yc) (.slice sa (ly.length+1) sc)):Two w sa na sc nc (ly++[c]) ln w':=by
 refine⟨by rw[List.length_append,gH];exact ho,h.n.kept hg ?_,fun k hk=>?_,zA h.gr hg (fun k e=>(h.y.lt k e).1)⟩
 ·rcases hv:(Value.slice na ln.length nc).ownBlock with _|k
  ·exact .inl rfl
  exact .inr (fun e=>h.ne k e.symm hv)
 rw[List.length_append]at hk;rcases hm with hm|⟨_,hm⟩
 ·have e:(Value.slice sa (ly.length+1) sc).ownBlock=some k:=hk
  rw[hm]at e;exact h.ne k e
 have:=hm k hk;intro e;have:=(h.n.lt k e).2;omega
theorem Two.pushN {w wr w':World}{ya na sa:Option Addr}{yc nc sc:Nat}{ly ln:List ClaV}{c:ClaV}(h:Two w ya na yc nc ly ln wr)(ho:w'.ownsRow w.heap.size 92 3 (.slice sa (ln.length+1) sc) (ln.length+1) (sR ln++cval c))(hg:wr.grownBy w' (Value.slice na ln.length nc).ownBlock)(hm:pG wr w' (.slice na ln.length nc) (.slice sa (ln.length+1) sc)):Two w ya sa yc sc ly (ln++[c]) w':=by
 refine⟨h.y.kept hg ?_,by rw[List.length_append,gH];exact ho,fun k hk e0=>?_,zA h.gr hg (fun k e=>(h.n.lt k e).1)⟩
 ·rcases hv:(Value.slice ya ly.length yc).ownBlock with _|k
  ·exact .inl rfl
  exact .inr (fun e=>h.ne k hv e.symm)
 rw[List.length_append]at e0;rcases hm with hm|⟨_,hm⟩
 ·have e:(Value.slice sa (ln.length+1) sc).ownBlock=some k:=e0
  rw[hm]at e;exact h.ne k hk e
 have:=hm k e0;have:=(h.y.lt k hk).2;omega
theorem qNR (X:Nat->Prop)(w:World)(v:Value)(l:List ClaV)(p:Nat)(h:ClsX X w v l)(hp:∀c∈l,p<c.m.length/\c.m.length<=400)(hl:l.length<=4000):Calls Tryz.prog 87 #[v,.int .i64 (p:Int)] w (qYX w l p):=by
 obtain⟨a,c,rfl⟩:=h.shape;obtain⟨n,hn⟩:=Nm l.length;obtain⟨H,HN,HP⟩:=K3 h hn hp;rw[<-hn]at hl H⊢;clear h hn hp;go_enter Tryz.func87,Tryz.ntmps87;go_wp2
 go_loopg [4,5,10] n (fun gh v4 v5 v10 wr=>∃(k:Nat) (ya na:Option Addr) (yc nc:Nat),gh+k=n/\v10=.int .i64 k/\v4=.slice ya (yesL (l.take k) p).length yc/\v5=.slice na (noL (l.take k) p).length nc/\Two w ya na yc nc (yesL (l.take k) p) (noL (l.take k) p) wr)
 case atStart=>exact⟨0,none,none,0,0,rfl,rfl,rfl,rfl,World.ownsRow_nil _ _ _ _,World.ownsRow_nil _ _ _ _,fun k hk=>by simp[Value.ownBlock]at hk,zH _ _⟩
 obtain⟨k,ya,na,yc,nc,a1,rfl,rfl,rfl,hT⟩:=hrel;have h7:=Kh a1;have HT:=Kh hT;have hg:=hT.gr;clear a1 hT;by_cases hk:k<n
 ·have a8:(k:Int)<n:=by omega
  obtain⟨b,off,cap,e,_,a3,a2,h8⟩:=(H.out.grow hg).at_ (by rw[<-HN.out];omega);rw[<-HN.out]at e a3;simp only[Value.slice.injEq,true_and]at e;obtain⟨rfl,rfl⟩:=e;have b4:c<=9223372036854775807:=by unfold maxLen at a2;omega
  have h2:k<l.length:=(by rw[<-HN.out];exact hk);have c1:=h8.m k h2;have c2:=h8.y k h2;have c3:=h8.n k h2;obtain⟨H4,H3⟩:=HP.out (l.getD k default) (by rw[zG h2];exact List.getElem_mem h2);have HY:=Kh (qOL (p:=p) h2);have h1:=Kh (qWA (p:=p) h2);have a5:(yesL (l.take k) p).length+(noL (l.take k) p).length<=4000:=by rw[qCV,List.length_take];omega
  obtain⟨ly,H5⟩:=Nm (yesL (l.take k) p);obtain⟨ln,H6⟩:=Nm (noL (l.take k) p);rw[<-H5,<-H6]at HT a5;rw[<-H5]at HY⊢;rw[<-H6]at h1⊢;obtain⟨d,hd⟩:=Nm (l.getD k default);rw[<-hd]at c1 c2 c3 HY h1 H4 H3;obtain⟨a6,h3⟩:=xDE H4;have H2:(mT d.m).size<=400:=by rw[qBS];exact H3
  have H9:Hid (cval d=[.string (mT d.m),.int .i64 d.yes,.int .i64 d.no]):=Kh rfl;obtain⟨U,hU⟩:=Nm (mT d.m);obtain⟨y,hy⟩:=Nm d.yes;obtain⟨z,hz⟩:=Nm d.no;rw[<-hU,<-hy,<-hz]at H9;rw[<-hy]at c2;rw[<-hz]at c3
  generalize hgu:mT d.m=U2 at a6 h3 H2 c1
  have e9:U2=U:=by rw[<-hgu,hU]
  subst e9;clear hgu hU;have b3:(p:Int)<U2.size:=(by omega);have h9:=heap_alloc_new wr (.cells #[.string U2,.int .i64 y,.int .i64 z] 92);have H7:=Ga wr (.cells #[.string U2,.int .i64 y,.int .i64 z] 92) none;obtain⟨w2,H0⟩:=Nm (wr.alloc (.cells #[.string U2,.int .i64 y,.int .i64 z] 92));obtain⟨R,hR⟩:=Nm wr.heap.size;rw[<-H0]at h9 H7;rw[<-hR]at h9;have a9:=Kh H0;have b0:=Kh hR;have h6:=Kh (HT.out.grow H7);have a0:=h6.out.gr.size;obtain⟨r0,r1,r2⟩:=zQ h9;obtain⟨bo,a4⟩:=Nm (d.m.getD p false);rw[<-a4]at h3 HY h1;clear h8 a3 a2 hy hz H0 hR H7 h9 hg hd a4 HT H4 H3 H5 H6;go_upto_region 4 with fail;rw[<-a9.out,<-b0.out];clear c1 c2 c3;cases bo with
  | true =>
   rw[if_pos rfl]at h3 HY h1;have H1:((U2[p].toNat:Nat):Int)=1:=by rw[h3];rfl
   have b1:=Kh h6.out.y;go_wp2_with (first|(at_builtin;refine vZ rfl _ _ _ rfl qCE w.heap.size (.slice ya ly.length yc) ly.length (sR ly) rfl b1.out [.string U2,.int .i64 y,.int .i64 z] rfl rfl ?z1 ?z2 ?z3 ?z4 ?_;(case z1=>(intro v hv;simp only[List.mem_cons,List.not_mem_nil,or_false]at hv;rcases hv with rfl|rfl|rfl<;>rfl));(case z2=>(unfold maxLen;omega));(case z3=>(show (ly.length+1)*32<=140737488355328;omega));(case z4=>exact a0);intro sv cv wM h0 h5 h4;(have H8:=Kh (h6.out.pushY (c:=d) (by rw[H9.out];exact h0) h5 h4));clear h0 h5 h4)|fail);go_wp2;go_roundg (n-(k+1))
   case measure=>have:=h7.out;omega
   exact⟨k+1,sv,na,cv,nc,by have:=h7.out;omega,by go_num,by rw[HY.out,List.length_append];rfl,by rw[h1.out],by rw[HY.out,h1.out];exact H8.out⟩
  | false =>
   rw[if_neg (by simp)]at h3 HY h1;have H1:((U2[p].toNat:Nat):Int)=0:=by rw[h3];rfl
   have b2:=Kh h6.out.n;go_wp2_with (first|(at_builtin;refine vZ rfl _ _ _ rfl qCE w.heap.size (.slice na ln.length nc) ln.length (sR ln) rfl b2.out [.string U2,.int .i64 y,.int .i64 z] rfl rfl ?z1 ?z2 ?z3 ?z4 ?_;(case z1=>(intro v hv;simp only[List.mem_cons,List.not_mem_nil,or_false]at hv;rcases hv with rfl|rfl|rfl<;>rfl));(case z2=>(unfold maxLen;omega));(case z3=>(show (ln.length+1)*32<=140737488355328;omega));(case z4=>exact a0);intro sv cv wM h0 h5 h4;(have H8:=Kh (h6.out.pushN (c:=d) (by rw[H9.out];exact h0) h5 h4));clear h0 h5 h4)|fail);go_wp2;go_roundg (n-(k+1))
   case measure=>have:=h7.out;omega
   exact⟨k+1,ya,sv,yc,cv,by have:=h7.out;omega,by go_num,by rw[HY.out],by rw[h1.out,List.length_append];rfl,by rw[HY.out,h1.out];exact H8.out⟩
 have a7:k=n:=by have:=h7.out;omega
 have a8:¬(k:Int)<n:=(by omega);have HE:Hid (l.take k=l):=Kh (List.take_of_length_le (by rw[<-HN.out];omega));rw[HE.out]at HT⊢;clear a7 hg;go_wp2;refine bodyPost_ret (v:=.tuple #[.slice ya (yesL l p).length yc,.slice na (noL l p).length nc]) (by simp[results,Tryz.results87,go_sem]) rfl ?_;exact⟨ya,yc,na,nc,rfl,HT.out.y,HT.out.n,HT.out.gr⟩
theorem xCR {Q:Exit->Act->World->Prop}{v1 v2 v3 v4 v5 v6 v7 v8 v9 i8 i9 g0 g1 g2 g3 g4 g5 g6 g7 g8 g9 f0 f1 f2 f3 f4 f5 f6 f7 f8 f9 e0 e1 e2 e3 e4 e5 e6 e7 e8 e9 d0 d1 d2 d3 d4 d5 d6 d7 d8 d9 c0 c1 c2 c3 c4 c5 c6 c7 c8 c9 b0 b1 b2 b3 b4 b5 b6 i1 i2 i3 i4 i5 i6 b7 b8 b9 a0 a1 a2 a3 a4 a5 a6 a7 a8:Value}{dd:_}{w:World}{o mb R q a b m2 u c:Nat}{f:ChoV->Option Nat}{x:ChoV}(hc:w.cell? ⟨o,1,none⟩=some (.map (some mb))/\w.cell? ⟨R,0,none⟩=some (.int .i64 (q:Int))/\w.cell? ⟨R,1,none⟩=some (.int .i64 (a:Int))/\w.cell? ⟨R,2,none⟩=some (.int .i64 (b:Int)))(hM:MapK 71 qCS choW w mb u c f)(hu:u<maxLen)(i0:qCS x)(i7:choW x=.agg #[.int .i64 (q:Int),.int .i64 (a:Int),.int .i64 (b:Int)])(j9:m2<4611686018427387904)(a9:∀(z71 z72 z73 z74 z75 z76:Value) (w':World),MapK 71 qCS choW w' mb (u+1) (if (f x).isSome then c else c+1) (fun q=>if q=x then some m2 else f q)->w.grownBy w' (some mb)->Q .normal ⟨((Value.pointer (some ⟨o,0,none⟩))::v1::v2::v3::v4::v5::v6::v7::v8::v9::i8::(Value.pointer (some ⟨R,0,none⟩))::(Value.int .i64 (m2:Int))::i9::g0::g1::g2::g3::g4::g5::g6::g7::g8::g9::f0::f1::f2::f3::f4::f5::f6::f7::f8::f9::e0::e1::e2::e3::e4::e5::e6::e7::e8::e9::d0::d1::d2::d3::d4::d5::d6::d7::d8::d9::c0::c1::c2::c3::c4::c5::c6::c7::c8::c9::b0::b1::b2::b3::b4::b5::b6::z71::z72::z73::z74::z75::z76::b7::b8::b9::a0::a1::a2::a3::a4::a5::a6::a7::a8::[]).toArray,dd⟩ w'):Code.wp Tryz.prog (reg Tryz.f68 13) Q ⟨((Value.pointer (some ⟨o,0,none⟩))::v1::v2::v3::v4::v5::v6::v7::v8::v9::i8::(Value.pointer (some ⟨R,0,none⟩))::(Value.int .i64 (m2:Int))::i9::g0::g1::g2::g3::g4::g5::g6::g7::g8::g9::f0::f1::f2::f3::f4::f5::f6::f7::f8::f9::e0::e1::e2::e3::e4::e5::e6::e7::e8::e9::d0::d1::d2::d3::d4::d5::d6::d7::d8::d9::c0::c1::c2::c3::c4::c5::c6::c7::c8::c9::b0::b1::b2::b3::b4::b5::b6::i1::i2::i3::i4::i5::i6::b7::b8::b9::a0::a1::a2::a3::a4::a5::a6::a7::a8::[]).toArray,dd⟩ w:=by
 conv=>arg 2;whnf
 obtain⟨w6,h6⟩:=Nm w.drew;have h0:w.grownBy w6 none:=by rw[h6];exact zN w none
 have H0:=Kh h6;have H1:=Kh h0;have HM:=Kh (hM.kept h0 (by simp));have C:Hid (w6.cell? ⟨o,1,none⟩=some (.map (some mb))/\w6.cell? ⟨R,0,none⟩=some (.int .i64 (q:Int))/\w6.cell? ⟨R,1,none⟩=some (.int .i64 (a:Int))/\w6.cell? ⟨R,2,none⟩=some (.int .i64 (b:Int))):=Kh ⟨xG hc.1 h0,xG hc.2.1 h0,xG hc.2.2.1 h0,xG hc.2.2.2 h0⟩;have h9:=Kh i7;clear h6 h0 hc hM i7;refine wp_region_noPanic ?_;refine xE (G:=vU 6 (fun _=>True) (fun W=>W.cell? ⟨o,1,none⟩=some (.map (some mb))/\W.cell? ⟨R,0,none⟩=some (.int .i64 (q:Int))/\W.cell? ⟨R,1,none⟩=some (.int .i64 (a:Int))/\W.cell? ⟨R,2,none⟩=some (.int .i64 (b:Int)))) (by kernel_rfl) ?_;rw[<-H0.out];refine yG 0 ?_;refine yG 1 ?_;refine yG 2 ?_;refine qUH (i:=3) (v:=.map (some mb)) rfl rfl (by kernel_rfl) (by rfl) (by kernel_rfl) (by kernel_rfl) (by kernel_rfl) (fun _ _ _ h=>h) (Or.inl ⟨by rfl,?_⟩) ⟨trivial,fun _=>C.out⟩ ?_
 ·(rintro wz ⟨-,hz⟩;obtain⟨h1,h2,h3,h4⟩:=hz;go_simp;(try with_reducible rfl))
 try simp only[Act.put,sPa,sPb,sPc]
 refine qUH (i:=4) (v:=.agg #[.int .i64 (q:Int),.int .i64 (a:Int),.int .i64 (b:Int)]) rfl rfl (by kernel_rfl) (by rfl) (by kernel_rfl) (by kernel_rfl) (by kernel_rfl) (fun _ _ _ h=>h) (Or.inl ⟨by rfl,?_⟩) ⟨trivial,fun _=>C.out⟩ ?_
 ·(rintro wz ⟨-,hz⟩;obtain⟨h1,h2,h3,h4⟩:=hz;go_simp;(try with_reducible rfl))
 try simp only[Act.put,sPa,sPb,sPc]
 refine yG 5 ?_;obtain⟨w7,r7,h5,h8,h7⟩:=HM.out.upd qTA (z:=x) (y:=m2) hu i0 j9;rw[h9.out]at h5;refine oneG (i:=6) (by kernel_rfl) rfl (fun K hK=>?_);go_simp;clear h5;refine hK.out _ _ ⟨trivial,fun h=>by simp at h⟩ ?_;clear hK K
 try simp only[Act.put,sPa,sPb,sPc]
 refine nO (by kernel_rfl) ?_ _;refine NoPanic.normal ?_;exact a9 _ _ _ _ _ _ _ h8 (sQ H1.out h7 (.inl rfl) (.inr (.inl rfl)))
theorem xCS {Q:Exit->Act->World->Prop}{v1 v2 v3 v4 v5 v6 v7 v8 v9 i6 i7 i8 i9 g4 g5 g6 g7 g8 g9 f1 f2 f3 f4 f5 f6 f7 f8 f9 e0 e1 e2 e3 e4 e5 e6 e7 e8 e9 d0 d1 d2 d3 d4 d5 d6 d7 d8 d9 c0 c1 c2 c3 c4 c5 c6 c7 c8 c9 b0 b1 b2 b3 b4 b5 b6 b7 b8 b9 a0 a1 a2 a3 a4 a5 a6 j5 j6 j7 j8 j9 i0 i1 i2 i3 i4 a7 a8:Value}{dd:_}{w:World}{B o R q a b m2 cap:Nat}{sa:Option Addr}{xs:List Value}{P:World->Prop}(hc:w.cell? ⟨o,0,none⟩=some (.slice sa m2 cap)/\w.cell? ⟨R,0,none⟩=some (.int .i64 (q:Int))/\w.cell? ⟨R,1,none⟩=some (.int .i64 (a:Int))/\w.cell? ⟨R,2,none⟩=some (.int .i64 (b:Int)))(ho:w.ownsRow B 71 3 (.slice sa m2 cap) m2 xs)(hB:B<=w.heap.size)(j4:m2<=1000000)(i5:o<w.heap.size)(hE:∀wg,w.grownBy wg none->∀w2 s' c',w2.ownsRow B 71 3 (.slice s' (m2+1) c') (m2+1) (xs++[.int .i64 (q:Int),.int .i64 (a:Int),.int .i64 (b:Int)])->wg.grownBy w2 (Value.slice sa m2 cap).ownBlock->pG wg w2 (.slice sa m2 cap) (.slice s' (m2+1) c')->w2.cell? ⟨o,0,none⟩=some (.slice sa m2 cap)/\w2.frozen? ⟨o,0,none⟩=false/\P (w2.setCell ⟨o,0,none⟩ (.slice s' (m2+1) c')))(a9:∀(z77 z78 z79 z80 z81 z82 z83 z84 z85 z86:Value) (w':World),P w'->Q .normal ⟨((Value.pointer (some ⟨o,0,none⟩))::v1::v2::v3::v4::v5::v6::v7::v8::v9::i6::(Value.pointer (some ⟨R,0,none⟩))::i7::i8::i9::g4::g5::g6::g7::g8::g9::f1::f2::f3::f4::f5::f6::f7::f8::f9::e0::e1::e2::e3::e4::e5::e6::e7::e8::e9::d0::d1::d2::d3::d4::d5::d6::d7::d8::d9::c0::c1::c2::c3::c4::c5::c6::c7::c8::c9::b0::b1::b2::b3::b4::b5::b6::b7::b8::b9::a0::a1::a2::a3::a4::a5::a6::z77::z78::z79::z80::z81::z82::z83::z84::z85::z86::a7::a8::[]).toArray,dd⟩ w'):Code.wp Tryz.prog (reg Tryz.f68 14) Q ⟨((Value.pointer (some ⟨o,0,none⟩))::v1::v2::v3::v4::v5::v6::v7::v8::v9::i6::(Value.pointer (some ⟨R,0,none⟩))::i7::i8::i9::g4::g5::g6::g7::g8::g9::f1::f2::f3::f4::f5::f6::f7::f8::f9::e0::e1::e2::e3::e4::e5::e6::e7::e8::e9::d0::d1::d2::d3::d4::d5::d6::d7::d8::d9::c0::c1::c2::c3::c4::c5::c6::c7::c8::c9::b0::b1::b2::b3::b4::b5::b6::b7::b8::b9::a0::a1::a2::a3::a4::a5::a6::j5::j6::j7::j8::j9::i0::i1::i2::i3::i4::a7::a8::[]).toArray,dd⟩ w:=by
 conv=>arg 2;whnf
 obtain⟨w8,h9⟩:=Nm w.drew;have h6:w.grownBy w8 none:=by rw[h9];exact zN w none
 obtain⟨H9,H7,HO,HE⟩:=K4 h9 h6 ho hE;have C:Hid (w8.cell? ⟨o,0,none⟩=some (.slice sa m2 cap)/\w8.cell? ⟨R,0,none⟩=some (.int .i64 (q:Int))/\w8.cell? ⟨R,1,none⟩=some (.int .i64 (a:Int))/\w8.cell? ⟨R,2,none⟩=some (.int .i64 (b:Int))):=Kh ⟨xG hc.1 h6,xG hc.2.1 h6,xG hc.2.2.1 h6,xG hc.2.2.2 h6⟩;have j2:B<=w8.heap.size:=Nat.le_trans hB h6.size;have j0:Hid (o<w8.heap.size):=Kh (Nat.lt_of_lt_of_le i5 h6.size);clear h9 h6 hc ho hE hB i5;refine wp_region_noPanic ?_;refine xE (G:=vU 7 (fun _=>True) (fun W=>W.cell? ⟨o,0,none⟩=some (.slice sa m2 cap)/\W.cell? ⟨R,0,none⟩=some (.int .i64 (q:Int))/\W.cell? ⟨R,1,none⟩=some (.int .i64 (a:Int))/\W.cell? ⟨R,2,none⟩=some (.int .i64 (b:Int)))) (by kernel_rfl) ?_;rw[<-H9.out];refine yG 0 ?_;refine yG 1 ?_;refine yG 2 ?_;refine yG 3 ?_;refine qUH (i:=4) (v:=.slice sa m2 cap) rfl rfl (by kernel_rfl) (by rfl) (by kernel_rfl) (by kernel_rfl) (by kernel_rfl) (fun _ _ _ h=>h) (Or.inl ⟨by rfl,?_⟩) ⟨trivial,fun _=>C.out⟩ ?_
 ·(rintro wz ⟨-,hz⟩;obtain⟨h1,h2,h3,h4⟩:=hz;go_simp;(try with_reducible rfl))
 try simp only[Act.put,sPa,sPb,sPc]
 obtain⟨k1,k2,k3,k4⟩:=C.out;refine oneG (i:=5) (by kernel_rfl) rfl (fun K hK=>?_);go_simp;refine hK.out _ _ ⟨trivial,fun _=>C.out⟩ ?_;clear hK K k1 k2 k3 k4
 try simp only[Act.put,sPa,sPb,sPc]
 refine oneG (i:=6) (by kernel_rfl) rfl (fun K hK=>?_);go_simp;have h7:=heap_alloc_new w8 (.cells #[.int .i64 (q:Int),.int .i64 (a:Int),.int .i64 (b:Int)] 71);have h0:=Ga w8 (.cells #[.int .i64 (q:Int),.int .i64 (a:Int),.int .i64 (b:Int)] 71) none;have h8:=zL w8 (.cells #[.int .i64 (q:Int),.int .i64 (a:Int),.int .i64 (b:Int)] 71);obtain⟨w9,H2⟩:=Nm (w8.alloc (.cells #[.int .i64 (q:Int),.int .i64 (a:Int),.int .i64 (b:Int)] 71));obtain⟨R9,H6⟩:=Nm w8.heap.size;rw[<-H2]at h7 h0 h8⊢;rw[<-H6]at h7⊢;have H1:Hid (o<w9.heap.size):=Kh (Nat.lt_of_lt_of_le j0.out h0.size);refine hK.out _ _ ⟨trivial,fun _=>⟨xG C.out.1 h0,xG C.out.2.1 h0,xG C.out.2.2.1 h0,xG C.out.2.2.2 h0⟩⟩ ?_;clear hK K
 try simp only[Act.put,sPa,sPb,sPc]
 have H3:=zP HO.out (zC H7.out h0);refine oneG (i:=7) (by kernel_rfl) rfl (fun K hK=>?_);refine qO rfl (.tmp 81) (.tmp 83) 33 rfl qXJ B _ _ _ rfl H3 [.int .i64 (q:Int),.int .i64 (a:Int),.int .i64 (b:Int)] _ rfl (0,0) rfl h7 ?g0 ?g1 ?g2 ?g3 ?_
 case g0=>intro v hv;simp only[List.mem_cons,List.not_mem_nil,or_false]at hv;rcases hv with rfl|rfl|rfl<;>rfl
 case g1=>unfold maxLen;omega
 case g2=>show (m2+1)*24<=140737488355328;omega
 case g3=>rw[h8];omega
 intro s2 cap2 wM h5 H0 H4;obtain⟨k0,f0,H5⟩:=HE.out w9 (zC H7.out h0) wM s2 cap2 h5 H0 H4;have H8:o<wM.heap.size:=Nat.lt_of_lt_of_le H1.out H0.size;refine hK.out _ _ ⟨trivial,fun h=>by simp at h⟩ ?_;clear hK K h5 H0 H4 H3 h7 h0 h8 H2 H6 C
 try simp only[Act.put,sPa,sPb,sPc]
 have j1:=Kh H5;clear H5;refine oneG (i:=8) (by kernel_rfl) rfl (fun K hK=>?_);go_simp;refine hK.out _ _ ⟨trivial,fun h=>by simp at h⟩ ?_;clear hK K
 try simp only[Act.put,sPa,sPb,sPc]
 refine oneG (i:=9) (by kernel_rfl) rfl (fun K hK=>?_);go_simp;refine hK.out _ _ ⟨trivial,fun h=>by simp at h⟩ ?_;clear hK K
 try simp only[Act.put,sPa,sPb,sPc]
 refine oneG (i:=10) (by kernel_rfl) rfl (fun K hK=>?_);go_simp;refine hK.out _ _ ⟨trivial,fun h=>by simp at h⟩ ?_;clear hK K
 try simp only[Act.put,sPa,sPb,sPc]
 refine nO (by kernel_rfl) ?_ _;refine NoPanic.normal ?_;exact a9 _ _ _ _ _ _ _ _ _ _ _ j1.out
def qYE (w0:World)(B:Nat)(X:Nat->Prop)(o mb np:Nat)(w:World)(cs:List ChoV)(l:List ClaV)(p:Nat)(e:Ending)(w':World):Prop :=
 ∃cs' r,e=.returned (.int .i64 r)/\BldS w0 B X o mb w cs' w'/\DecOk np cs cs' l p r
theorem gK {w:World}{p e:Nat}{x0 x1:Value}{m:Nat×Nat}(h:w.heap[p]?=some (.cells #[x0,x1] e m)):w.cell? ⟨p,0,none⟩=some x0/\w.cell? ⟨p,1,none⟩=some x1:=by
 have c0:=zJ h 0;have c1:=zJ h 1;exact⟨by simpa using c0,by simpa using c1⟩
theorem qOF {l:List ClaV}{np p:Nat}(hc:ClsOk np l)(ha:lH l p)(hk:qW l=false)(hp:p<=np):p<np:=by
 rcases Nat.lt_or_ge p np with h|h
 ·exact h
 have:p=np:=by omega
 subst this;have:=qFS (ha.one hc);rw[this]at hk;cases hk
theorem qSU {l:List ClaV}(h:qW l=true):∀c∈l,c.b=(l.headD default).b:=fun c hc=>by
 rw[qW,List.all_eq_true]at h
 simpa using h c hc
theorem BldS.end_ {w0 w w1 w':World}{B o mb:Nat}{X Y:Nat->Prop}{cs c0 a9:List ChoV}(h0:BldS w0 B X o mb w cs w)(hg:w.grownBy w1 none)(h1:BldS w0 B (fun k=>X k\/Y k) o mb w1 c0 w')(h:BldS w0 B (fun k=>X k\/Y k) o mb w1 a9 w'):BldS w0 B X o mb w a9 w':=by
 obtain⟨sa,cap,u,c,hB,hM,h2,h3,hu⟩:=h0;exact h.back (fun q hq=>.inl hq) (hB.mem.keep hg) hg.size hB.base
theorem qIT (w0:World)(B o mb np:Nat)(a9:np<=300)(N:Nat):∀(X:Nat->Prop) (w:World) (v:Value) (l:List ClaV) (cs:List ChoV) (p:Nat),l.length<=N->0<l.length->ClsX X w v l->BldS w0 B X o mb w cs w->ClsOk np l->lH l p->p<=np->wT np cs cs.length->cs.Nodup->cs.length+l.length<=4000->Calls Tryz.prog 68 #[.pointer (some ⟨o,0,none⟩),v,.int .i64 (p:Int)] w (qYE w0 B X o mb np w cs l p):=by
 induction N with
 | zero=>intro X w v l cs p hN h0;omega
 | succ N IH0 =>
  intro X w v l cs p hN h0 hv hb g1 ha hp g2 f6 i7;have IH:=Kh IH0;clear IH0;obtain⟨va,vc,rfl⟩:=hv.shape;obtain⟨n,hn⟩:=Nm l.length;obtain⟨HN,HV,HB,c3,HA,i1⟩:=K6 hn hv hb g1 ha g2;have g9:=Kh f6;rw[<-hn]at HV hN h0 i7⊢;have H4:Hid (Calls Tryz.prog 86 #[.slice va n vc] w fun e w'=>e=.returned (.tuple #[.int .i64 (conR l),.bool (qW l)])/\w.grownBy w' none):=Kh (qFR X w _ l HV.out);obtain⟨cb,d6⟩:=Nm (qW l);obtain⟨cr,d5⟩:=Nm (conR l);rw[<-d6,<-d5]at H4;have f2:=Kh d6;have k1:=Kh d5;clear hv hb g1 ha g2 f6 hn d6 d5;go_enter Tryz.func68,Tryz.ntmps68;go_wp2_with fail;refine H4.out.mono ?_;rintro e w1 ⟨rfl,H9⟩;have h9:=Kh H9;clear H9 H4;cases cb with
  | true =>
   go_wp2;go_ret;refine⟨cs,cr,rfl,HB.out.grow h9.out,?_⟩;have e1:cr=gL (l.headD default).b:=by rw[k1.out,conR,if_pos ⟨f2.out.symm,by rw[<-HN.out];exact h0⟩]
   rw[e1];exact DecOk.const i1.out g9.out (by rw[<-HN.out];exact h0) (qSU f2.out.symm)
  | false =>
   go_wp2
   go_loopg [2,9,10,11,12,13] (np-p) (fun gh v2 v9 v10 v11 v12 v13 wr=>∃q:Nat,gh+q=np/\p<=q/\v2=.int .i64 q/\lH l q/\w.grownBy wr none)
   case atStart=>exact⟨p,by omega,Nat.le_refl _,rfl,HA.out,h9.out⟩
   clear h9 HA w1;obtain⟨q,f8,c9,rfl,d8,hg⟩:=hrel;have f5:q<np:=qOF c3.out d8 f2.out.symm (by omega);obtain⟨i0,c4,HG⟩:=K3 f8 d8 hg;have H8:l.length=n:=HN.out.symm;have a6:Hid (Calls Tryz.prog 87 #[.slice va n vc,.int .i64 (q:Int)] wr (qYX wr l q)):=Kh (qNR X wr _ l q (HV.out.grow hg) (fun c hc=>by rw[c3.out.len c hc];omega) (by omega));have g4:Hid ((yesL l q).length+(noL l q).length=n):=Kh (by rw[qCV,H8]);clear f8 d8 hg H8;go_wp2_with fail;refine a6.out.mono ?_;rintro e w1 ⟨sy,cy,sn,cn,rfl,a8,b2,H9⟩;obtain⟨ly,b5⟩:=Nm (yesL l q);obtain⟨ln,b6⟩:=Nm (noL l q);rw[<-b5,<-b6]at g4;rw[<-b5]at a8⊢;rw[<-b6]at b2⊢;have H1:=Kh b5;have H2:=Kh b6;have h9:=Kh (zA HG.out H9);have i5:=g4.out;obtain⟨my,b3⟩:=Nm ly.length;obtain⟨mn,b4⟩:=Nm ln.length;rw[<-b3,<-b4]at i5;rw[<-b3]at a8⊢;rw[<-b4]at b2⊢;obtain⟨h8,h6,e2,e3⟩:=K4 b3 b4 a8 b2;have HZ:Hid (w.heap.size<=wr.heap.size):=Kh HG.out.size;clear b5 b6 b3 b4 H9 a8 b2 a6;by_cases hy0:my=0
   ·have d9:=Kh (c4.out.skip (p:=q) (.inl (by rw[<-H1.out,<-h8.out];exact hy0)))
    subst hy0;go_wp2;go_roundg (np-(q+1))
    case measure=>have:=i0.out;omega
    exact⟨q+1,by omega,by omega,by go_num,d9.out,h9.out⟩
   by_cases hn0:mn=0
   ·have d9:=Kh (c4.out.skip (p:=q) (.inr (by rw[<-H2.out,<-h6.out];exact hn0)))
    have c5:¬(my:Int)=0:=by omega
    have i6:((my:Int) == 0)=false:=by rw[beq_eq_false_iff_ne];exact c5
    subst hn0;go_wp2;go_roundg (np-(q+1))
    case measure=>have:=i0.out;omega
    exact⟨q+1,by omega,by omega,by go_num,d9.out,h9.out⟩
   have c5:¬(my:Int)=0:=by omega
   have i9:¬(mn:Int)=0:=by omega
   have i6:((my:Int) == 0)=false:=by rw[beq_eq_false_iff_ne];exact c5
   have k5:((mn:Int) == 0)=false:=by rw[beq_eq_false_iff_ne];exact i9
   obtain⟨Y,hY⟩:∃Y:Nat->Prop,Y=fun k=>(Value.slice sy my cy).ownBlock=some k\/(Value.slice sn mn cn).ownBlock=some k:=⟨_,rfl⟩
   have j3:Hid (∀k,Y k->w.heap.size<=k/\k<w1.heap.size):=Kh (fun k hk=>by
    rw[hY]at hk;have:=HZ.out;rcases hk with hk|hk
    ·have:=e2.out.lt k hk;omega
    have:=e3.out.lt k hk;omega)
   have i4:=Kh (HB.out.fresh h9.out j3.out)
   have g7:Hid (ClsX (fun k=>X k\/Y k) w1 (.slice sy my cy) ly):=Kh (by
    have:=e2.out;rw[h8.out]at this⊢
    exact jD this (fun k hk=>.inr (by rw[hY,h8.out];exact .inl hk)))
   have g8:Hid (ClsX (fun k=>X k\/Y k) w1 (.slice sn mn cn) ln):=Kh (by
    have:=e3.out;rw[h6.out]at this⊢
    exact jD this (fun k hk=>.inr (by rw[hY,h6.out];exact .inr hk)))
   have f0:Hid (Calls Tryz.prog 68 #[.pointer (some ⟨o,0,none⟩),.slice sn mn cn,.int .i64 ((q+1:Nat):Int)] w1 (qYE w0 B (fun k=>X k\/Y k) o mb np w1 cs ln (q+1))):=Kh (IH.out (fun k=>X k\/Y k) w1 _ ln cs (q+1) (by rw[<-h6.out];omega) (by rw[<-h6.out];omega) g8.out i4.out (by rw[H2.out];exact c3.out.sub List.filter_sublist) (by rw[H2.out];exact c4.out.no) (by omega) i1.out g9.out (by rw[<-h6.out];omega));have e5:((q+1:Nat):Int)=(q:Int)+1:=by omega
   rw[e5]at f0;have e6:IntKind.i64.wrap ((q:Int)+1)=(q:Int)+1:=qB (by omega);have e7:(q:Int)+1-1=(q:Int):=by omega
   have e8:IntKind.i64.wrap ((q:Int)+1-1)=(q:Int):=by rw[e7];exact qB (by omega)
   clear hY e2 e3 e5;go_wp2_with fail;refine f0.out.mono ?_;rintro e w2 ⟨c1,rn,rfl,a3,a1⟩;have i3:=Kh a3;have a7:=Kh a1;have f9:=a1.few;have a4:=Kh (g7.out.kept a3.facts.2.1 a3.facts.2.2.1);have e9:Hid (Calls Tryz.prog 68 #[.pointer (some ⟨o,0,none⟩),.slice sy my cy,.int .i64 ((q+1:Nat):Int)] w2 (qYE w0 B (fun k=>X k\/Y k) o mb np w2 c1 ly (q+1))):=Kh (IH.out (fun k=>X k\/Y k) w2 _ ly c1 (q+1) (by rw[<-h8.out];omega) (by rw[<-h8.out];omega) a4.out a3.rebase (by rw[H1.out];exact c3.out.sub List.filter_sublist) (by rw[H1.out];exact c4.out.yes) (by omega) a1.ok a1.nd (by rw[<-h8.out];rw[<-h6.out]at f9;omega));rw[show ((q+1:Nat):Int)=(q:Int)+1 by omega]at e9;rw[<-h6.out]at f9;clear a3 a1 f0 g7 g8;go_wp2_with fail;refine e9.out.mono ?_;rintro e w3 ⟨c2,ry,rfl,g3,H5⟩;have a0:=H5.few;rw[<-h8.out]at a0;have j1:=a7.out.lo;have j0:=H5.lo;have d2:=H5.hi;have d3:rn<=1+(c2.length:Int):=by have:=a7.out.hi;have:=H5.pre.length_le;omega
   have f4:Hid (BldS w0 B X o mb w c2 w3):=Kh (by
    have h1:=i3.out.facts;have h2:BldS w0 B (fun k=>X k\/Y k) o mb w1 c2 w3:=g3.back (fun _ h=>h) h1.2.1 h1.2.2.1 h1.2.2.2.2.1
    exact HB.out.end_ h9.out h2 h2)
   have f1:=Kh H5;obtain⟨a,rfl⟩:∃a:Nat,ry=(a:Int):=⟨ry.toNat,by omega⟩;obtain⟨b,rfl⟩:∃b:Nat,rn=(b:Int):=⟨rn.toNat,by omega⟩;clear g3 H5 e9 i3 a4 i4;have a2:=heap_alloc_new w3 (.cells #[.int .i64 (q:Int),.int .i64 (a:Int),.int .i64 (b:Int)] 71);have d4:=Ga w3 (.cells #[.int .i64 (q:Int),.int .i64 (a:Int),.int .i64 (b:Int)] 71) none;obtain⟨w4,c7⟩:=Nm (w3.alloc (.cells #[.int .i64 (q:Int),.int .i64 (a:Int),.int .i64 (b:Int)] 71));obtain⟨R,hR⟩:=Nm w3.heap.size;rw[<-c7]at a2 d4;rw[<-hR]at a2;obtain⟨j4,j5,i2⟩:=K3 c7 hR a2;have h7:=Kh (f4.out.grow d4);have k4:R≠o:=(by have:=f4.out.facts.2.2.2.2.2.2;omega);have i8:R≠mb:=(by have:=f4.out.facts.2.2.2.2.2.1;omega);obtain⟨r0,r1,r2⟩:=zQ a2;clear c7 hR a2 d4;go_upto_region 8 with fail;rw[<-j4.out,<-j5.out];by_cases hab:a=b
   ·have j8:=Kh (DecOk.same (by rw[<-H2.out];exact a7.out) (by rw[<-H1.out];exact f1.out) (by rw[hab]))
    subst hab;go_wp2;go_ret;exact⟨c2,_,rfl,h7.out,gG j8.out c9⟩
   have j2:¬(a:Int)=(b:Int):=by omega
   obtain⟨x,hx⟩:=Nm (⟨(q:Int),(a:Int),(b:Int)⟩:ChoV);have HX:=Kh hx;have g6:Hid (qCS x):=Kh (by rw[hx];exact⟨⟨by show (0:Int)<=q;omega,by show (q:Int)<_;omega⟩,⟨by show (0:Int)<=a;omega,by show (a:Int)<_;omega⟩,⟨by show (0:Int)<=b;omega,by show (b:Int)<_;omega⟩⟩);have g5:Hid (choW x=.agg #[.int .i64 (q:Int),.int .i64 (a:Int),.int .i64 (b:Int)]):=Kh (by rw[hx];rfl);obtain⟨sa,cap,u,c,d7,d0,H6,hu⟩:=h7.out.cells;obtain⟨b0,b1⟩:=gK d7;obtain⟨f3,a5,HU⟩:=K3 d7 H6 hu
   have h4:∀q':Nat,Sem.run Tryz.prog (Instr.lookup 114 (.map (some mb)) (.agg #[.int .i64 (q:Int),.int .i64 (a:Int),.int .i64 (b:Int)]) true) (w4.drewN q')=.ok (.tuple #[.int .i64 (((numH c2 x).getD 0:Nat):Int),.bool (numH c2 x).isSome]) (w4.drewN q'):=fun q'=>by
    have:=(a5.out.kept (zK w4 q' none) (by simp)).lookup qTA g6.out;rw[g5.out]at this;exact this
   clear hx d7 d0 H6 hu;obtain⟨m2,d1⟩:=Nm c2.length;rw[<-d1]at b0 d3 d2 a0;have h5:=Kh d1;clear d1;by_cases hmem:x∈c2
   ·obtain⟨i,hi⟩:=Nm (c2.idxOf x)
    have b7:i<c2.length:=(by rw[hi];exact List.idxOf_lt_length_of_mem hmem);have f7:c2.getD i default=⟨(q:Int),(a:Int),(b:Int)⟩:=by rw[zG b7,<-HX.out];subst hi;exact List.getElem_idxOf b7
    have j9:=Kh (DecOk.old f5 (by rw[<-H2.out];exact a7.out) (by rw[<-H1.out];exact f1.out) b7 f7);rw[qHJ hmem,<-hi]at h4;have H7:∀q':Nat,Sem.run Tryz.prog (Instr.lookup 114 (.map (some mb)) (.agg #[.int .i64 (q:Int),.int .i64 (a:Int),.int .i64 (b:Int)]) true) (w4.drewN q')=.ok (.tuple #[.int .i64 (i:Int),.bool true]) (w4.drewN q'):=h4;have k6:i<4100:=(by have:=h5.out;omega);clear h4 b7 f7 hi;go_wp2
    go_quiet (fail)
    go_wp2;go_ret;exact⟨c2,_,yA (by go_num),h7.out.grow (zK _ _ _),gG j9.out c9⟩
   have k0:=Kh (DecOk.new f5 (by rw[<-H2.out];exact a7.out) (by rw[<-H1.out];exact f1.out) (by rw[<-HX.out];exact hmem) (by rw[<-H1.out,<-h8.out];omega) (by rw[<-H2.out,<-h6.out];omega));rw[qKB hmem]at h4;have H7:∀q':Nat,Sem.run Tryz.prog (Instr.lookup 114 (.map (some mb)) (.agg #[.int .i64 (q:Int),.int .i64 (a:Int),.int .i64 (b:Int)]) true) (w4.drewN q')=.ok (.tuple #[.int .i64 0,.bool false]) (w4.drewN q'):=h4;have H0:=Kh hmem;clear h4 hmem;go_upto_region 10 with fail
   go_quiet (fail)
   obtain⟨w5,c6⟩:=Nm (w4.drewN nq);have b9:w4.grownBy w5 none:=(by rw[c6];exact zK _ _ _);have b0:=xG b0 b9;have b1:=xG b1 b9;rw[<-c6];have H3:=Kh b9;clear b9 c6 H7 r0 r1 r2;go_upto_region 13 with fail
   have C5:Hid (w5.cell? ⟨o,1,none⟩=some (.map (some mb))/\w5.cell? ⟨R,0,none⟩=some (.int .i64 (q:Int))/\w5.cell? ⟨R,1,none⟩=some (.int .i64 (a:Int))/\w5.cell? ⟨R,2,none⟩=some (.int .i64 (b:Int))):=Kh (by
    obtain⟨r0,r1,r2⟩:=zQ (zB i2.out H3.out);obtain⟨_,b1⟩:=gK (zB f3.out H3.out)
    exact⟨b1,r0,r1,r2⟩)
   clear b0 b1;refine xCR C5.out (a5.out.kept H3.out (by simp)) (by have:=HU.out;have:=h5.out;unfold maxLen;omega) g6.out g5.out (by omega) ?_;intro z71 z72 z73 z74 z75 z76 w7 c0 b8;rw[qKB H0.out]at c0;have g0:(fun q=>if q=x then some m2 else numH c2 q)=numH (c2++[x]):=by rw[h5.out];exact qRB H0.out
   rw[g0]at c0;have c8:=(h7.out.grow H3.out).put H0.out (zB f3.out H3.out) b8 c0 (by have:=HU.out;omega);obtain⟨e0,eo,ez,ep⟩:=c8;have j7:=Kh eo;have j6:=Kh ep;have k3:=Kh (zB (zB i2.out H3.out) b8 (fun e=>i8 (Oj e).symm));have e4:Hid (o<w7.heap.size):=Kh (Nat.lt_of_lt_of_le (zM (zB f3.out H3.out)) b8.size);rw[<-h5.out]at e0
   have C7:Hid (w7.cell? ⟨o,0,none⟩=some (.slice sa m2 cap)/\w7.cell? ⟨R,0,none⟩=some (.int .i64 (q:Int))/\w7.cell? ⟨R,1,none⟩=some (.int .i64 (a:Int))/\w7.cell? ⟨R,2,none⟩=some (.int .i64 (b:Int))):=Kh (by
    obtain⟨r0,r1,r2⟩:=zQ k3.out
    exact⟨e0,r0,r1,r2⟩)
   clear c0 g0 eo ep b8 e0 C5;go_upto_region 14 with fail
   refine xCS (P:=fun wZ=>BldS w0 B X o mb w (c2++[x]) wZ) C7.out (by have:=j7.out;rwa [<-h5.out]at this) ez (by omega) e4.out (fun wg hwg w2' s' c' h1 h2 h3=>by
    have:=j6.out wg hwg w2' s' c' (by rw[<-h5.out,show qXR x=[.int .i64 (q:Int),.int .i64 (a:Int),.int .i64 (b:Int)] by rw[HX.out];rfl];exact h1) (by rw[<-h5.out];exact h2) (by rw[<-h5.out];exact h3);rw[<-h5.out]at this
    exact this) ?_
   intro z77 z78 z79 z80 z81 z82 z83 z84 z85 z86 wZ hZ;have k2:=Kh hZ;clear hZ ez;go_wp2;go_ret;refine⟨c2++[x],_,yA (by go_num),k2.out,?_⟩;have:=gG k0.out c9;rw[<-HX.out,<-h5.out]at this;exact this
end Go.Proofs.YtcoimliafiammaaGreat
