/- Part 23 of the proof. -/
import Derived.Test.YtcoimliafiammaaGreatQa20
import Derived.Test.YtcoimliafiammaaGreatQa22
import Derived.Deep.DeepCutAuto
set_option linter.unusedVariables false
set_option linter.unusedSimpArgs false
set_option maxRecDepth 100000
set_option maxHeartbeats 16000000
namespace Go.Proofs.YtcoimliafiammaaGreat
open Go.RowKit
def qYD (WL:List (List Nat))(W:List Nat)(a:Nat)(x:Int):Prop:=0<=x/\x<WL.length/\∃j,j<=W.length/\WL.getD x.toNat []=(W++[a]).drop j/\∀j',j'<j->(W++[a]).drop j' ∉ WL
def DefD (m:DfaV)(n:Nat):Prop:=m.start=0/\∀k:Nat,m.letters=k->∃most,1<=most/\most<=2/\n=(sX k most).length/\∀q a,q<n->a<k->qYD (sX k most) ((sX k most).getD q []) a (ent m.next q a)
theorem qGI {letters most:Nat}(h1:1<=letters)(h2:letters<=2)(h3:1<=most)(h4:most<=2):(sX letters most).length<=7/\1<=(sX letters most).length/\(∀u∈sX letters most,u.length<=2/\∀c∈u,c<2)/\∀a,a<letters->[a]∈sX letters most :=
 qYI (P:=fun letters most=>(sX letters most).length<=7/\1<=(sX letters most).length/\(∀u∈sX letters most,u.length<=2/\∀c∈u,c<2)/\∀a,a<letters->[a]∈sX letters most) h1 h2 h3 h4
  ⟨by decide +kernel,by decide +kernel,by decide +kernel,by decide +kernel⟩
theorem qWO {u v:List Nat}(hu:∀c∈u,c<100)(hv:∀c∈v,c<100)(h:strOfNums (lets u)=strOfNums (lets v)):u=v:=by
 have h2:(strOfNums (lets u)).data.toList=(strOfNums (lets v)).data.toList:=by rw[h]
 rw[strOfNums_data,strOfNums_data,lets,lets,List.map_map,List.map_map]at h2
 have key:∀(u v:List Nat),(∀c∈u,c<100)->(∀c∈v,c<100)->u.map ((fun(n:Int)=>UInt8.ofNat n.toNat) ∘ fun(a:Nat)=>97+(a:Int))=v.map ((fun(n:Int)=>UInt8.ofNat n.toNat) ∘ fun(a:Nat)=>97+(a:Int))->u=v:=by
  intro u
  induction u with
  | nil=>intro v _ _ h;cases v with
   | nil=>rfl
   | cons=>simp at h
  | cons x u ih =>
   intro v hu hv h;cases v with
   | nil=>simp at h
   | cons y v =>
    simp only[List.map_cons,List.cons.injEq,Function.comp]at h;have hx:=hu x List.mem_cons_self;have hy:=hv y List.mem_cons_self;have e:=congrArg UInt8.toNat h.1;rw[UInt8.toNat_ofNat',UInt8.toNat_ofNat']at e;have e1:((97+(x:Int)).toNat) % 2 ^ 8=97+x:=by omega
    have e2:((97+(y:Int)).toNat) % 2 ^ 8=97+y:=by omega
    rw[e1,e2]at e;have:=ih v (fun c hc=>hu c (List.mem_cons_of_mem _ hc)) (fun c hc=>hv c (List.mem_cons_of_mem _ hc)) h.2;rw[this,show x=y by omega]
 exact key u v hu hv h2
theorem qOB {a b:ByteArray}(h:a.toList=b.toList):a=b:=by
 rw[ByteArray.toList_eq,ByteArray.toList_eq]at h;exact ByteArray.ext (Array.toList_inj.1 h)
theorem Arr.keptOwn {w w':World}{g e e' base n:Nat}{xs ys:List Value}{v:Value}(h:Arr w g e xs)(ho:w.ownsRow base e' 1 v n ys)(a9:e'≠e)(hg:w.grownBy w' v.ownBlock):Arr w' g e xs :=
 h.kept hg (fun er=>by
  obtain⟨cur,rest,hgc,_⟩:=h
  exact zO ho hgc a9 er)
theorem qWL (B tb:Nat)(w:World)(letters:Nat)(h1:1<=letters)(h2:letters<=2)(hT:wH B w tb):Calls Tryz.prog 19 #[.pointer (some ⟨tb,0,none⟩),.int .i64 (letters:Int)] w (iU DefD B tb w letters 7):=by
 have n6:=hT.lt;have s8:=hT.ge;obtain⟨wA,f7⟩:=Nm ((w.alloc (.cells #[.int .i64 0,.int .i64 0,.slice none 0 0,.slice none 0 0] 30)).alloc (.cells #[.int .i64 letters,.int .i64 0,.slice none 0 0,.slice none 0 0] 30));obtain⟨b6,c5,c4,i8⟩:=rL w #[.int .i64 0,.int .i64 0,.slice none 0 0,.slice none 0 0] #[.int .i64 letters,.int .i64 0,.slice none 0 0,.slice none 0 0] 30;rw[<-f7]at b6 c5 c4 i8;obtain⟨P,hP⟩:=Nm w.heap.size;have H7:=Kh hP;rw[<-hP]at b6 c5 i8 n6;have k7:=hT.kept c4 (by simp);obtain⟨q8,q7,q2,p4,p7⟩:=K5 b6 c5 c4 f7 k7;clear b6 c5 c4 f7 k7 hT;go_enter Tryz.func19,Tryz.ntmps19;go_upto_region 2 with fail;rw[<-p4.out,<-H7.out];clear hP;go_wp2_with fail;refine(tG B tb _ _ (by omega) p7.out).mono ?_;rintro e w1 ⟨r,rfl,n8,d7,k9,k0⟩;replace d7:=d7 (by omega);obtain⟨most,rfl⟩:∃n:Nat,r=(n:Int)-1:=⟨(r+1).toNat,by omega⟩;have d9:1<=most:=by omega
 have d8:most<=2:=by omega
 have r8:(1:Int)+((most:Int)-1)=most:=by omega
 have m0:=Kh k9;have c0:=Kh k0;have a8:=Kh (qGI h1 h2 d9 d8);clear n8 d7 k9 k0;go_wp2_with fail;refine(qMZ w1 letters most h1 h2 d9 d8).mono ?_;rintro e w2 ⟨sl,cl,rfl,h7,b2⟩;obtain⟨WL,f6⟩:=Nm (sX letters most);rw[<-f6]at h7 a8⊢;obtain⟨N,hN⟩:=Nm WL.length;have H8:=Kh hN;have p1:N<=7:=by rw[hN];exact a8.out.1
 have p2:1<=N:=by rw[hN];exact a8.out.2.1
 rw[<-hN]at h7⊢;obtain⟨lb,rfl,s0,o1,l0⟩:=yH h7 (by omega);have r9:=(h7.lt lb rfl).1;have r4:=c0.out.size;have s2:cl<=9223372036854775807:=by unfold maxLen at o1;omega
 have n3:=Kh l0;have k2:=zB (zB q7.out c0.out (by simp;omega)) b2;have l1:Half (P+1) w2 (P+1) letters 0 [] [] [] none 0 none 0:=⟨k2,World.ownsRow_nil _ _ _ _,World.ownsRow_nil _ _ _ _,OwnsT.nil⟩;have H2:=Kh l1;have HB:=Kh (zB (zB q8.out c0.out (by simp;omega)) b2);have l9:=Kh (m0.out.kept b2 (by simp));have m8:=Kh (zA (zC (zA (zH w (some tb)) q2.out) c0.out) b2);have b7:=Kh f6;clear h7 b2 l0 k2 l1 m0 c0 hN f6;go_wp2
 go_loopg [8,9,10,11,12,13,14,24] N (fun gh v8 v9 v10 v11 v12 v13 v14 i wr=>∃(q:Nat) (fs:List Bool) (t:List (List Int)) (hs:List Value) (sf:Option Addr) (cf:Nat) (sn:Option Addr) (cn:Nat),gh+q=N/\i=.int .i64 q/\fs.length=q/\t.length=q/\pB t N letters/\(∀q' a,q'<q->a<letters->qYD WL (WL.getD q' []) a (ent t q' a))/\Half (P+1) wr (P+1) letters 0 fs t hs sf cf sn cn/\wH B wr tb/\wr.heap[P]?=some (.cells #[.int .i64 0,.int .i64 0,.slice none 0 0,.slice none 0 0] 30 (0,0))/\Arr wr lb 9 (oV WL)/\w.grownBy wr (some tb))
 case atStart=>exact⟨0,[],[],[],none,0,none,0,by omega,rfl,rfl,rfl,(fun r hr=>by simp at hr),(fun q' a h=>by omega),H2.out,l9.out,HB.out,n3.out,m8.out⟩
 obtain⟨q,fs,t,hs,sf,cf,sn,cn,hg,rfl,rfl,a5,j2,k1,hH,k5,b5,l2,j7⟩:=hrel;obtain⟨HG,HH,c8,h0,i1,m2⟩:=K6 hg hH k5 b5 j7 j2;obtain⟨i6,m9,H6⟩:=K3 l2 k1 a5;clear hg hH k5 b5 j7 j2 l2 k1 a5 H2 l9 HB n3 m8;by_cases hq:fs.length<N
 ·have r7:(fs.length:Int)<N:=by omega
  have f4:=i6.out.strL fs.length (by rw[<-H8.out];exact hq);obtain⟨W,hW⟩:=Nm (WL.getD fs.length []);rw[<-hW]at f4;obtain⟨X,hX⟩:=Nm (strOfNums (lets W));rw[<-hX]at f4;have l5:=Kh hW;have HX:=Kh hX;clear hX hW;obtain⟨w5,d5⟩:=Nm wr.drew;have a6:wr.grownBy w5 none:=(by rw[d5];exact zN wr none);have l6:=Kh d5;have i0:=Kh (HH.out.grow a6);have g6:=Kh (c8.out.kept a6 (by simp));have m7:=Kh (zA i1.out a6);have n1:=Kh (zB h0.out a6);have r1:=Kh (i6.out.kept a6 (by simp));obtain⟨d0,d1,d2,d3⟩:=zE i0.out.box;have C2:=Kh d2;clear d5 a6 d0 d1 d2 d3 HH c8 i1 h0 i6;go_upto_region 6 with fail;clear f4;refine wp_region_noPanic ?_;refine xE (G:=vU 8 (fun _=>True) (fun W=>W.cell? ⟨P+1,2,none⟩=some (.slice sf fs.length cf))) (by kernel_rfl) ?_;rw[<-l6.out];refine yG 0 ?_;refine kQ 1 ?_;refine yG 2 ?_;refine oneG (i:=3) (by kernel_rfl) rfl (fun K hK=>?_);go_simp
  go_at_call 5
  refine(tG B tb _ _ (by omega) g6.out).mono ?_;rintro e w6 ⟨b,rfl,s3,b6,k8,b1⟩;have c7:=i0.out.tape g6.out b1;obtain⟨d0,d1,d2,d3⟩:=zE c7.box;have C2:=Kh d2;refine hK.out _ _ ⟨trivial,fun _=>C2.out⟩ ?_;clear hK K d0 d1 d2 d3
  try simp only[Act.put,sPa,sPb,sPc]
  refine yG 4 ?_;refine oneG (i:=5) (by kernel_rfl) rfl (fun K hK=>?_);go_simp;have H1:=c7.grow (Ga w6 (.cells #[.bool (decide (b=1))] 4) none);have j8:=heap_alloc_new w6 (.cells #[.bool (decide (b=1))] 4);obtain⟨d0,d1,d2,d3⟩:=zE H1.box;refine hK.out _ _ ⟨trivial,fun _=>d2⟩ ?_;clear hK K d0 d1 d2 d3
  try simp only[Act.put,sPa,sPb,sPc]
  have r3:P+2<=w6.heap.size:=by have:=zM c7.box;omega
  refine oneG (i:=6) (by kernel_rfl) rfl (fun K hK=>?_);refine oI rfl (.tmp 29) (.tmp 33) 27 rfl xL (P+1) _ _ _ rfl H1.ownF _ _ _ rfl j8 rfl ?g1 ?g2 ?g3 ?_
  case g1=>unfold maxLen;omega
  case g2=>omega
  case g3=>rw[zL];omega
  intro sa' sc' w8 H5 a1;have a2:=zB H1.box a1 (fun e=>zO H1.ownF H1.box (by decide) e);obtain⟨d0,d1,d2,d3⟩:=zE a2;have f2:=zF a2 2;refine hK.out _ _ ⟨trivial,fun _=>d2⟩ ?_;clear hK K
  try simp only[Act.put,sPa,sPb,sPc]
  have C2:=Kh d2;refine yG 7 ?_;refine oneG (i:=8) (by kernel_rfl) rfl (fun K hK=>?_);go_simp;refine hK.out _ _ ⟨trivial,fun h=>by simp at h⟩ ?_;clear hK K d0 d1 d2 d3 f2 a2
  try simp only[Act.put,sPa,sPb,sPc]
  refine nO (by kernel_rfl) ?_ _;refine NoPanic.normal ?_;obtain⟨hF,o4⟩:=H1.pushF H5 a1 rfl;have f8:=((k8.kept (Ga w6 (.cells #[.bool (decide (b=1))] 4) none) (by simp)).kept a1 (fun k e=>by have:=(H1.ownF.lt k e).1;omega)).kept (zD w8 ⟨P+1,2,none⟩ (.slice sa' (fs.length+1) sc')) (fun k e=>by have e:P+1=k:=Oj e;omega);have f5:=zB (zB (zB (zB n1.out b1 (by simp;omega)) (Ga w6 (.cells #[.bool (decide (b=1))] 4) none)) a1 (fun e=>by have:=(H1.ownF.lt _ e).1;omega)) (zD w8 ⟨P+1,2,none⟩ (.slice sa' (fs.length+1) sc'));have e9:w.grownBy (w8.setCell ⟨P+1,2,none⟩ (.slice sa' (fs.length+1) sc')) (some tb):=zA (zA (zA (zC m7.out b1) (Ga w6 (.cells #[.bool (decide (b=1))] 4) none)) a1 (fun k e=>by have:=(H1.ownF.lt k e).1;have:=H7.out;omega)) (zD w8 ⟨P+1,2,none⟩ (.slice sa' (fs.length+1) sc')) (fun k e=>by have e:P+1=k:=Oj e;have:=H7.out;omega);have g0:=(((r1.out.kept b1 (by simp;omega)).kept (Ga w6 (.cells #[.bool (decide (b=1))] 4) none) (by simp)).keptOwn H1.ownF (by decide) a1).kept (zD w8 ⟨P+1,2,none⟩ (.slice sa' (fs.length+1) sc')) (by simp;omega);obtain⟨w9,j0⟩:=Nm (w8.setCell ⟨P+1,2,none⟩ (.slice sa' (fs.length+1) sc'));rw[<-j0]at hF f8 f5 e9 g0⊢;obtain⟨HF,g5,n0,m6,n2⟩:=K5 hF f8 f5 e9 g0;clear g0 j0 o4 hF f8 f5 e9 H5 a1 j8 H1 c7 k8 b1 C2 i0 g6 m7 n1 l6;have a3:W.length<=2/\∀c∈W,c<2:=by rw[l5.out];exact a8.out.2.2.1 _ (mW (by rw[<-H8.out];exact hq))
  have s7:=a3.1;have p5:=Kh a3.2;clear a3;go_wp2
  go_loopg [9,10,11,12,13,14] letters (fun gh ov i v11 v12 v13 v14 wx=>∃(a:Nat) (row:List Int) (sr:Option Addr) (cr:Nat),gh+a=letters/\i=.int .i64 a/\row.length=a/\ov=.slice sr row.length cr/\(∀a',a'<a->qYD WL W a' (row.getD a' 0))/\wx.ownsRow w9.heap.size 3 1 (.slice sr row.length cr) row.length (ints row)/\w9.grownBy wx none)
  case atStart=>exact⟨0,[],none,0,by omega,rfl,rfl,rfl,(fun a' h=>by omega),World.ownsRow_nil _ _ _ _,zH _ _⟩
  obtain⟨a,row,sr,cr,hg,rfl,rfl,rfl,j3,h7,j6⟩:=hrel;obtain⟨b9,H3,a4,g7⟩:=K4 hg h7 j6 j3;clear hg h7 j6 j3;by_cases ha:row.length<letters
  ·have s4:(row.length:Int)<letters:=by omega
   have p3:IntKind.i64.wrap (97+(row.length:Int))=97+(row.length:Int):=IntWalk.i64_in _ (by omega);have o9:IntKind.u8.wrap (97+(row.length:Int))=97+(row.length:Int):=IntWalk.u8_in _ (by omega);obtain⟨Y,hY⟩:=Nm (strOfNums [97+(row.length:Int)]);have o6:∀(W:World) (g:Nat),W.cell? ⟨g,0,none⟩=some (.int .u8 (97+(row.length:Int)))->(convert 73 9 (.slice (some ⟨g,0,none⟩) 1 1)).run Tryz.prog W=.ok (.string Y) W:=fun W g h=>by rw[hY];exact mI 73 5 Tryz.underlying73 Tryz.underlying5 9 Tryz.underlying9 h
   have o8:∀W0:World,(Op.stringOp .add X Y).run Tryz.prog W0=.ok (.string (X++Y)) W0:=fun W0=>run_string_add_sum W0 X Y (by
    rw[hY,HX.out,strOfNums_size,strOfNums_size];simp[lets];omega)
   have l4:Hid (X++Y=strOfNums (lets (W++[row.length]))):=Kh (by rw[HX.out,hY,qJG];simp[lets]);have e7:=Ga wr (.cells #[.int .u8 (97+(row.length:Int))] 5) none;have g8:=Kh (zX H3.out e7 (by simp));have c9:=Kh (zA a4.out e7);clear hY e7;go_wp2;clear o6 o8 p3 o9;obtain⟨wb,i9⟩:=Nm (wr.alloc (.cells #[.int .u8 (97+(row.length:Int))] 5))
   try rw[<-i9]at g8 c9⊢
   clear i9
   have HV:Hid (∀c∈W++[row.length],c<100):=Kh (fun c hc=>by
    rcases List.mem_append.1 hc with hc|hc
    ·have:=p5.out c hc;omega
    rw[List.mem_singleton]at hc;omega)
   have l7:Hid ((W++[row.length]).length=W.length+1):=Kh (by simp)
   have H9:Hid ((W++[row.length]).drop W.length∈WL):=Kh (by
    rw[List.drop_append_of_le_length (Nat.le_refl _),List.drop_length,List.nil_append]
    exact a8.out.2.2.2 _ ha)
   obtain⟨V,hV⟩:=Nm (W++[row.length]);rw[<-hV]at HV l7 l4 H9;have l8:=Kh hV;clear hV;have d6:=c9.out.size
   go_loopg [11,12,13,14] (W.length+1) (fun gh v11 v12 v13 v14 wy=>wy=wb/\((∃j,v12=.int .i64 (-1)/\j<=W.length/\gh+j=W.length+1/\v11=.string (strOfNums (lets (V.drop j)))/\∀j',j'<j->V.drop j' ∉ WL)\/(∃(x:Nat) (y:ByteArray),v12=.int .i64 (x:Int)/\v11=.string y/\qYD WL W row.length x)))
   case atStart=>exact⟨rfl,.inl ⟨0,rfl,by omega,by omega,by rw[l4.out];rfl,fun j' h=>by omega⟩⟩
   obtain⟨d4,n7⟩:=hrel;subst d4;rcases n7 with ⟨j,rfl,hj,hgj,rfl,hno⟩|⟨x,y,rfl,rfl,hdef⟩
   ·have m5:=Kh hgj;have m3:=Kh hno
    clear hgj hno;obtain⟨Z,hZ⟩:=Nm (strOfNums (lets (V.drop j)));have k4:Z.size=W.length+1-j:=by rw[hZ,strOfNums_size];simp[lets,l7.out]
    rw[<-hZ];have HZ:=Kh hZ;have s6:1<=Z.size:=by omega
    have s5:Z.size<=3:=by omega
    have s9:=Kh k4;clear hZ k4;go_wp2;have r0:=Kh (n2.out.kept c9.out (by simp))
    go_loopg [12,13,14,52] N (fun gh v12 v13 v14 i wz=>wz=wr/\∃(k:Nat) (m:Int),gh+k=N/\i=.int .i64 k/\v12=.int .i64 m/\((m = -1/\∀k',k'<k->WL.getD k' []≠V.drop j)\/(0<=m/\m<N/\WL.getD m.toNat []=V.drop j)))
    case atStart=>exact⟨rfl,0,-1,by omega,rfl,rfl,.inl ⟨rfl,fun k' h=>by omega⟩⟩
    obtain⟨d4,k,m,j9,rfl,rfl,hm⟩:=hrel;subst d4;have b8:=Kh j9;have HM:=Kh hm;clear j9 hm;by_cases hk:k<N
    ·have e6:(k:Int)<N:=by omega
     have o7:=r0.out.strL k (by rw[<-H8.out];exact hk);obtain⟨K2,f9⟩:=Nm (strOfNums (lets (WL.getD k [])));rw[<-f9]at o7;have m4:=Kh f9;clear f9;by_cases hx:WL.getD k []=V.drop j
     ·have o5:=Kh hx
      have p0:(K2.toList == Z.toList)=true:=by rw[m4.out,HZ.out,hx];simp
      clear hx;go_wp2;go_roundg (N-(k+1))
      case measure=>have:=b8.out;omega
      exact⟨rfl,k+1,k,by omega,by go_num,rfl,.inr ⟨by omega,by omega,by simpa using o5.out⟩⟩
     have n9:=Kh hx
     have p0:(K2.toList == Z.toList)=false:=by
      rw[beq_eq_false_iff_ne];intro e;refine hx (qWO (fun c hc=>?_) (fun c hc=>HV.out c (List.mem_of_mem_drop hc)) (by rw[<-m4.out,<-HZ.out];exact qOB e));have:=(a8.out.2.2.1 _ (mW (d:=[]) (by rw[<-H8.out];exact hk))).2 c hc;omega
     clear hx;go_wp2;go_roundg (N-(k+1))
     case measure=>have:=b8.out;omega
     refine⟨rfl,k+1,m,by omega,by go_num,rfl,?_⟩;rcases HM.out with ⟨e1,e2⟩|e1
     ·refine .inl ⟨e1,fun k' h=>?_⟩
      rcases Nat.lt_or_ge k' k with h2|h2
      ·exact e2 k' h2
      have:k'=k:=by omega
      subst this;exact n9.out
     exact .inr e1
    have o2:k=N:=by have:=b8.out;omega
    have q0:=Kh HM.out;go_wp2
    have hcut:Hid (Z.extract 1 Z.size=strOfNums (lets (V.drop (j+1)))):=Kh (by
     apply ByteArray.ext;apply Array.toList_inj.1;rw[HZ.out,ByteArray.data_extract,Array.toList_extract,strOfNums_data,strOfNums_data,List.extract_eq_take_drop,strOfNums_size];rw[List.take_of_length_le (by simp)];rw[show V.drop (j+1)=(V.drop j).drop 1 by rw[List.drop_drop]]
     simp[lets,List.map_drop])
    rcases q0.out with ⟨e1,e2⟩|⟨e1,e2,e3⟩
    ·go_roundg (W.length+1-(j+1))
     case measure=>have:=m5.out;omega
     have a0:V.drop j ∉ WL:=fun hm=>by
      obtain⟨k',e6,e4⟩:=List.getElem_of_mem hm;exact e2 k' (by rw[o2,H8.out];exact e6) (by rw[<-e4];simp[List.getD_eq_getElem?_getD,e6])
     have s1:j<W.length:=by
      rcases Nat.lt_or_ge j W.length with h|h
      ·exact h
      have e5:j=W.length:=by omega
      rw[e5]at a0;exact absurd H9.out a0
     exact⟨rfl,.inl ⟨j+1,by rw[e1],by omega,by omega,by rw[hcut.out],fun j' h=>by
      rcases Nat.lt_or_ge j' j with h2|h2
      ·exact m3.out j' h2
      have:j'=j:=by omega
      subst this;exact a0⟩⟩
    go_roundg (W.length+1-(j+1))
    case measure=>have:=m5.out;omega
    refine⟨rfl,.inr ⟨m.toNat,Z.extract 1 Z.size,by rw[Int.toNat_of_nonneg e1],rfl,?_⟩⟩;rw[Int.toNat_of_nonneg e1];exact⟨e1,by rw[<-H8.out];exact e2,j,hj,by rw[e3,l8.out],fun j' h=>by rw[<-l8.out];exact m3.out j' h⟩
   have q4:=Kh hdef;have r5:¬(x:Int) = -1:=by omega
   clear hdef;go_wp2_with (first|(at_builtin;refine app1 rfl _ _ _ rfl yP w9.heap.size _ row.length (ints row) rfl g8.out _ rfl rfl ?c1 ?c2 ?c3 ?_)|fail)
   case c1=>unfold maxLen;omega
   case c2=>omega
   case c3=>exact d6
   intro sr' cr' w10 H0 b3 j5;have g9:=Kh H0;have i3:=Kh (zA c9.out b3 (fun k e=>(g8.out.lt k e).1));clear H0 b3;go_wp2;go_roundg (letters-(row.length+1))
   case measure=>have:=b9.out;omega
   refine⟨row.length+1,row++[(x:Int)],sr',cr',by omega,by go_num,by simp,by simp,fun a' h=>?_,?_,i3.out⟩
   ·rcases Nat.lt_or_ge a' row.length with h2|h2
    ·rw[List.getD_eq_getElem?_getD,List.getElem?_append_left h2,<-List.getD_eq_getElem?_getD]
     exact g7.out a' h2
    have e:a'=row.length:=by omega
    subst e;rw[List.getD_eq_getElem?_getD,List.getElem?_append_right (Nat.le_refl _)];simpa using q4.out
   rw[show ints (row++[(x:Int)])=ints row++[.int .i64 (x:Int)] by simp[ints],List.length_append,List.length_singleton];exact g9.out
  have j1:row.length=letters:=by have:=b9.out;omega
  have hH:=HF.out.grow a4.out;have p6:=Kh (g5.out.kept a4.out (by simp));have q9:=Kh (n2.out.kept a4.out (by simp));have n4:P+1<=w9.heap.size:=Nat.le_of_lt (zM HF.out.box);have a9:=yU H3.out n4
  have b4:∀i (hi:i<hs.length),∀k,hs[i].ownBlock=some k->(Value.slice sr row.length cr).ownBlock≠some k:=fun i hi k hk e=>by
   have h1:=(HF.out.rows.lt hi hk).2;have h2:=(H3.out.lt k e).1;omega
  have i4:=Kh b4;obtain⟨d0,d1,d2,d3⟩:=zE hH.box;have r2:=zM hH.box;have o0:=g5.out.lt;obtain⟨H4,p8,m1⟩:=K3 hH a9 j1;have q1:=Kh (zA m6.out a4.out);have q5:=Kh (zB n0.out a4.out);clear hH a9 j1 b4 d0 d1 d2 H3 a4 HF g5 m6 n0;have p9:=Kh H4.out.ownN;go_wp2_with (first|(at_builtin;refine app1 rfl _ _ _ rfl vX (P+1) _ t.length hs rfl p9.out _ rfl rfl ?c1 ?c2 ?c3 ?_)|fail)
  case c1=>have:=H6.out;unfold maxLen;omega
  case c2=>have:=H6.out;omega
  case c3=>omega
  intro sn' cn' w11 h9 h8 j4;have a2:=zB H4.out.box h8 (fun e=>zO H4.out.ownN H4.out.box (by decide) e);obtain⟨d0,d1,d2,d3⟩:=zE a2;have f2:=zF a2 3;obtain⟨hN,o3⟩:=H4.out.pushN h9 h8 p8.out i4.out rfl;have k6:=(p6.out.kept h8 (fun k e=>by have:=(H4.out.ownN.lt k e).1;omega)).kept (zD w11 ⟨P+1,3,none⟩ (.slice sn' (t.length+1) cn')) (fun k e=>by have e:P+1=k:=Oj e;omega);have k3:=zB (zB q5.out h8 (fun e=>by have:=(H4.out.ownN.lt _ e).1;omega)) (zD w11 ⟨P+1,3,none⟩ (.slice sn' (t.length+1) cn'));have l3:=(q9.out.keptOwn H4.out.ownN (by decide) h8).kept (zD w11 ⟨P+1,3,none⟩ (.slice sn' (t.length+1) cn')) (by simp;omega);have b0:w.grownBy (w11.setCell ⟨P+1,3,none⟩ (.slice sn' (t.length+1) cn')) (some tb):=zA (zA q1.out h8 (fun k e=>by have:=(H4.out.ownN.lt k e).1;have:=H7.out;omega)) (zD w11 ⟨P+1,3,none⟩ (.slice sn' (t.length+1) cn')) (fun k e=>by have e:P+1=k:=Oj e;have:=H7.out;omega);obtain⟨b8,g4,i5,i2,i7⟩:=K5 hN k6 k3 b0 l3;clear o3 a2 hN k6 k3 b0 l3 h9 h8;go_wp2;go_roundg (N-(fs.length+1))
  case measure=>have:=HG.out;omega
  refine⟨fs.length+1,fs++[decide (b=1)],t++[row],_,sa',sc',sn',cn',by omega,by go_num,by simp,by simp[H6.out],?_,?_,b8.out,g4.out,i5.out,i7.out,i2.out⟩
  ·intro r hr
   rcases List.mem_append.1 hr with hr|hr
   ·exact m2.out r hr
   rw[List.mem_singleton]at hr;subst hr;refine⟨m1.out,fun x hx=>?_⟩;obtain⟨a,c6,rfl⟩:=List.getElem_of_mem hx;have hd:=g7.out a c6;have e:r.getD a 0=r[a]:=by simp[List.getD_eq_getElem?_getD,c6]
   rw[e]at hd;exact⟨hd.1,by rw[H8.out];exact hd.2.1⟩
  intro q' a h3 h4;unfold ent;rcases Nat.lt_or_ge q' fs.length with h5|h5
  ·have h6:q'<t.length:=by rw[H6.out];exact h5
   rw[List.getD_eq_getElem?_getD (l:=t++[row]),List.getElem?_append_left h6,<-List.getD_eq_getElem?_getD];exact m9.out q' a h5 h4
  have h6:q'=t.length:=by have:=H6.out;omega
  subst h6;rw[List.getD_eq_getElem?_getD (l:=t++[row]),List.getElem?_append_right (Nat.le_refl _),H6.out,<-l5.out];simpa using g7.out a (by rw[m1.out];exact h4)
 have a7:fs.length=N:=by have:=HG.out;omega
 have hB:=HH.out;have a5:=H6.out;have q3:=Kh a7;have q6:=Kh hB;obtain⟨d0,d1,d2,d3⟩:=zE HH.out.box;obtain⟨e0,e1,e2,e3⟩:=zE h0.out;have f0:=zF h0.out 0;have f1:=zF h0.out 1;have f2:=zF h0.out 2;have f3:=zF h0.out 3;clear hB a7 a5;go_wp2;refine bodyPost_ret (v:=.agg #[.int .i64 letters,.int .i64 0,.slice sf fs.length cf,.slice sn t.length cn]) (by simp[results,Tryz.results19,go_sem,e0,e1,e2,e3]) rfl ?_;obtain⟨r6,e8⟩:=vY h0.out (.int .i64 letters) (.int .i64 0) (.slice sf fs.length cf) (.slice sn t.length cn);have n5:=c8.out.lt;have a7:=q3.out;have a5:=H6.out;refine⟨_,⟨letters,0,fs,t⟩,N,rfl,⟨P+1,hs,sf,cf,sn,cn,rfl,by have:=H7.out;omega,(q6.out.base (by have:=H7.out;omega)).far e8 h0.out (by omega)⟩,m2.out.vd h1 (by omega) p2 (by omega) a7 (a5.trans a7) (by omega) (by omega),p1,⟨rfl,fun k hk=>?_⟩,c8.out.kept e8 (fun k e=>by have e:P=k:=Oj e;omega),zY i1.out e8 (by show _<=P;have:=H7.out;omega)⟩;have hk:letters=k:=Int.ofNat.inj hk;subst hk;refine⟨most,d9,d8,by rw[<-b7.out];exact H8.out,fun q a hq3 c6=>?_⟩;rw[<-b7.out];exact m9.out q a (by rw[a7];exact hq3) c6
def AnyD (m:DfaV)(n:Nat):Prop:=OrdD m n\/qIX m n\/DefD m n\/True
theorem qCR.r {B tb:Nat}{w:World}{letters most:Nat}{e:Ending}{w':World}(h:qCR B tb w letters most e w'):iU (fun _ _=>True) B tb w letters most e w':=by
 obtain⟨v,m,n,h1,h2,h3,h4,h6,h7⟩:=h;exact⟨v,m,n,h1,h2,h3,h4,trivial,h6,h7⟩
theorem qWM (B tb:Nat)(w:World)(letters most:Nat)(h1:1<=letters)(h2:letters<=2)(a9:1<=most)(hm:most<=500)(hT:wH B w tb):Calls Tryz.prog 7 #[.pointer (some ⟨tb,0,none⟩),.int .i64 (letters:Int),.int .i64 (most:Int)] w (iU AnyD B tb w letters 500):=by
 have H9:=hT.lt;have b1:=hT.ge;obtain⟨P,hP⟩:=Nm w.heap.size;have h8:=Kh hP;obtain⟨wA,H0⟩:=Nm (w.alloc (.cells #[.int .i64 0,.int .i64 0,.slice none 0 0,.slice none 0 0] 30));have h6:=heap_alloc_new w (.cells #[.int .i64 0,.int .i64 0,.slice none 0 0,.slice none 0 0] 30);have h4:=Ga w (.cells #[.int .i64 0,.int .i64 0,.slice none 0 0,.slice none 0 0] 30) none;have H1:=zL w (.cells #[.int .i64 0,.int .i64 0,.slice none 0 0,.slice none 0 0] 30);rw[<-H0]at h6 h4 H1;rw[<-hP]at h6 H1 H9;have H6:=Kh (hT.kept h4 (by simp));obtain⟨H7,a2,a1⟩:=K3 h6 h4 H0;clear h6 h4 H0 hT;go_enter Tryz.func7,Tryz.ntmps7;go_upto_region 1 with fail;rw[<-a1.out,<-h8.out];clear hP;go_wp2_with fail;refine(tG B tb _ _ (by omega) H6.out).mono ?_;rintro e w1 ⟨r,rfl,a7,H2,H5,h5⟩;replace H2:=H2 (by omega);have a4:=Kh (zB H7.out h5 (by simp;omega));have a3:=Kh (zC (zA (zH w (some tb)) a2.out) h5);have h3:=Kh H5;have a5:=h5.size;clear H5 h5 H6 H7
 have fin:∀(R:DfaV->Nat->Prop) (mo:Nat) (e:Ending) (w2:World),(∀m n,R m n->AnyD m n)->mo<=500->iU R B tb w1 letters mo e w2->∃(v:Value) (y0 y1:Int) (y2 y3:Option Addr) (n2 n3 c2 c3:Nat),e=.returned v/\v=.agg #[.int .i64 y0,.int .i64 y1,.slice y2 n2 c2,.slice y3 n3 c3]/\w2.cell? ⟨P,0,none⟩=some (.int .i64 0)/\w2.cell? ⟨P,1,none⟩=some (.int .i64 0)/\w2.cell? ⟨P,2,none⟩=some (.slice none 0 0)/\w2.cell? ⟨P,3,none⟩=some (.slice none 0 0)/\(∀k,w2.frozen? ⟨P,k,none⟩=false)/\iU AnyD B tb w letters 500 (.returned v) ((((w2.setCell ⟨P,0,none⟩ (.int .i64 y0)).setCell ⟨P,1,none⟩ (.int .i64 y1)).setCell ⟨P,2,none⟩ (.slice y2 n2 c2)).setCell ⟨P,3,none⟩ (.slice y3 n3 c3)):=by
  intro R mo e w2 hR b0 h;obtain⟨v,m,n,rfl,⟨o,hs,sf,cf,sn,cn,rfl,ho,hH⟩,H8,a8,hr,a0,H4⟩:=h;have h7:=zB a4.out H4 (by simp;omega);obtain⟨d0,d1,d2,d3⟩:=zE h7;obtain⟨a6,h9⟩:=vY h7 (.int .i64 m.letters) (.int .i64 m.start) (.slice sf m.final.length cf) (.slice sn m.next.length cn);refine⟨_,_,_,_,_,_,_,_,_,rfl,rfl,d0,d1,d2,d3,fun k=>zF h7 k,_,m,n,rfl,⟨o,hs,sf,cf,sn,cn,rfl,by have:=h8.out;omega,(hH.base (by have:=h8.out;omega)).far h9 h7 (by omega)⟩,H8,by omega,hR m n hr,a0.kept h9 (fun k e=>by have e:P=k:=Oj e;omega),zY (zC a3.out H4) h9 (by show _<=P;have:=h8.out;omega)⟩
 have h0:=Kh fin;clear fin;by_cases e1:r=1
 ·subst e1
  go_wp2_with fail;refine(qWC B tb w1 letters most h1 (by omega) a9 hm h3.out).mono ?_;intro e w2 h;obtain⟨v,y0,y1,y2,y3,n2,n3,q2,q3,rfl,rfl,c0,c1,c2,c3,fz,hD⟩:=h0.out OrdD most e w2 (fun _ _ h=>.inl h) hm h;have f0:=fz 0;have f1:=fz 1;have f2:=fz 2;have f3:=fz 3;have HD:=Kh hD;clear hD fz h;go_wp2;refine bodyPost_ret (v:=.agg #[.int .i64 y0,.int .i64 y1,.slice y2 n2 q2,.slice y3 n3 q3]) (by simp[results,Tryz.results7,go_sem,c0,c1,c2,c3]) rfl ?_;exact HD.out
 by_cases e2:r=2
 ·subst e2
  rcases Nat.lt_trichotomy most 4 with hm4|hm4|hm4
  ·have q1:(most:Int)<4:=by omega
   have q2:¬(4:Int)<most:=(by omega);have q3:(most:Int)<=4:=by omega
   have H3:min (most:Int) 4=(most:Int):=by omega
   have HC:=Kh (dO B tb w1 letters most h1 (by omega) a9 hm h3.out);go_wp2_with fail;refine HC.out.mono ?_;intro e w2 h;obtain⟨v,y0,y1,y2,y3,n2,n3,q2,q3,rfl,rfl,c0,c1,c2,c3,fz,hD⟩:=h0.out qIX most e w2 (fun _ _ h=>.inr (.inl h)) (by omega) h;have f0:=fz 0;have f1:=fz 1;have f2:=fz 2;have f3:=fz 3;have HD:=Kh hD;clear hD fz h;go_wp2;refine bodyPost_ret (v:=.agg #[.int .i64 y0,.int .i64 y1,.slice y2 n2 q2,.slice y3 n3 q3]) (by simp[results,Tryz.results7,go_sem,c0,c1,c2,c3]) rfl ?_;exact HD.out
  ·subst hm4
   have H3:min ((4:Nat):Int) 4=(4:Int):=by omega
   have HC:Hid (Calls Tryz.prog 18 #[.pointer (some ⟨tb,0,none⟩),.int .i64 (letters:Int),.int .i64 4] w1 (iU qIX B tb w1 letters 4)):=Kh (dO B tb w1 letters 4 h1 (by omega) (by omega) (by omega) h3.out);go_wp2_with fail;refine HC.out.mono ?_;intro e w2 h;obtain⟨v,y0,y1,y2,y3,n2,n3,q2,q3,rfl,rfl,c0,c1,c2,c3,fz,hD⟩:=h0.out qIX 4 e w2 (fun _ _ h=>.inr (.inl h)) (by omega) h;have f0:=fz 0;have f1:=fz 1;have f2:=fz 2;have f3:=fz 3;have HD:=Kh hD;clear hD fz h;go_wp2;refine bodyPost_ret (v:=.agg #[.int .i64 y0,.int .i64 y1,.slice y2 n2 q2,.slice y3 n3 q3]) (by simp[results,Tryz.results7,go_sem,c0,c1,c2,c3]) rfl ?_;exact HD.out
  have q1:¬(most:Int)<4:=by omega
  have q3:(4:Int)<most:=(by omega);have q4:(4:Int)<=most:=by omega
  have q5:¬(most:Int)<=4:=by omega
  have H3:min (most:Int) 4=(4:Int):=by omega
  have HC:Hid (Calls Tryz.prog 18 #[.pointer (some ⟨tb,0,none⟩),.int .i64 (letters:Int),.int .i64 4] w1 (iU qIX B tb w1 letters 4)):=Kh (dO B tb w1 letters 4 h1 (by omega) (by omega) (by omega) h3.out);go_wp2_with fail;refine HC.out.mono ?_;intro e w2 h;obtain⟨v,y0,y1,y2,y3,n2,n3,q2,q3,rfl,rfl,c0,c1,c2,c3,fz,hD⟩:=h0.out qIX 4 e w2 (fun _ _ h=>.inr (.inl h)) (by omega) h;have f0:=fz 0;have f1:=fz 1;have f2:=fz 2;have f3:=fz 3;have HD:=Kh hD;clear hD fz h;go_wp2;refine bodyPost_ret (v:=.agg #[.int .i64 y0,.int .i64 y1,.slice y2 n2 q2,.slice y3 n3 q3]) (by simp[results,Tryz.results7,go_sem,c0,c1,c2,c3]) rfl ?_;exact HD.out
 by_cases e3:r=3
 ·subst e3
  go_wp2_with fail;refine(qWL B tb w1 letters h1 h2 h3.out).mono ?_;intro e w2 h;obtain⟨v,y0,y1,y2,y3,n2,n3,q2,q3,rfl,rfl,c0,c1,c2,c3,fz,hD⟩:=h0.out DefD 7 e w2 (fun _ _ h=>.inr (.inr (.inl h))) (by omega) h;have f0:=fz 0;have f1:=fz 1;have f2:=fz 2;have f3:=fz 3;have HD:=Kh hD;clear hD fz h;go_wp2;refine bodyPost_ret (v:=.agg #[.int .i64 y0,.int .i64 y1,.slice y2 n2 q2,.slice y3 n3 q3]) (by simp[results,Tryz.results7,go_sem,c0,c1,c2,c3]) rfl ?_;exact HD.out
 go_wp2_with fail;refine(qKF B tb w1 letters most h1 (by omega) a9 hm h3.out).mono ?_;intro e w2 h;obtain⟨v,y0,y1,y2,y3,n2,n3,q2,q3,rfl,rfl,c0,c1,c2,c3,fz,hD⟩:=h0.out (fun _ _=>True) most e w2 (fun _ _ _=>.inr (.inr (.inr trivial))) hm h.r;have f0:=fz 0;have f1:=fz 1;have f2:=fz 2;have f3:=fz 3;have HD:=Kh hD;clear hD fz h;go_wp2;refine bodyPost_ret (v:=.agg #[.int .i64 y0,.int .i64 y1,.slice y2 n2 q2,.slice y3 n3 q3]) (by simp[results,Tryz.results7,go_sem,c0,c1,c2,c3]) rfl ?_;exact HD.out
open Go.Maps
theorem qZO {bs:List ByteArray}{k:Int}:patW bs k≠20:=by
 unfold patW
 split
 ·decide
 split
 ·decide
 split
 ·decide
 split
 ·decide
 split<;>decide
theorem qJT {k:Int}:∀ {ps:List (List ByteArray)},vV k ps≠20
 | []=>by rw[vV];decide
 | p::ps=>by
  rw[vV]
  split
  ·exact qJT
  ·exact qZO
theorem qOP {d:DfaV}:xK d≠20:=by
 unfold xK
 split
 ·decide
 split
 ·decide
 split
 ·decide
 split<;>decide
theorem xBM {d:DfaV}{ps:List (List ByteArray)}:ofE d ps≠20:=by
 unfold ofE
 split
 ·split
  ·decide
  exact qJT
 exact qOP
def xAU (d:DfaV)(ps:List (List ByteArray))(u1 u2:ByteArray)(E:Int):Prop:=E=20/\ofE d ps=0/\∃u v:List Nat,u1=strOfNums (lets u)/\u2=strOfNums (lets v)/\yO d.letters.toNat u/\yO d.letters.toNat v/\u.length<=4000/\v.length<=4000 /\
 (∀i,i<ps.length->acc (xI (ps.getD i []) d.letters) (st0 (xI (ps.getD i []) d.letters)) u=acc (xI (ps.getD i []) d.letters) (st0 (xI (ps.getD i []) d.letters)) v)/\acc d (st0 d) u=true/\acc d (st0 d) v=false
theorem qVO {w':World}{d:DfaV}{ps:List (List ByteArray)}{v:Value}{u1 u2:ByteArray}{E:Int}(h:OfOut w' d ps v u1 u2 E):(∃(ap:Option Addr) (n cp:Nat) (ac:Option Addr) (m cc:Nat) (r:Int),v=.agg #[.slice ap n cp,.slice ac m cc,.int .i64 r])/\(E≠20\/xAU d ps u1 u2 E):=by
 cases h with
 | bad h=>exact⟨⟨_,_,_,_,_,_,_,rfl⟩,.inl xBM⟩
 | over h ho=>exact⟨⟨_,_,_,_,_,_,_,rfl⟩,.inl (by decide)⟩
 | conf h hu hc u v h1 h2 h3 h4 h5 h6 h7=>exact⟨⟨_,_,_,_,_,_,_,rfl⟩,.inr ⟨rfl,h,u,v,rfl,rfl,h1,h2,h3,h4,h5,h6,h7⟩⟩
 | ok v g l L h hL hl4 hn hg h1 h2 h3 h4 h5 hc h6 =>
  obtain⟨ap,cp,ac,cc,e⟩:=bC hg;exact⟨⟨_,_,_,_,_,_,_,e⟩,.inl (by decide)⟩
def qTW (w:World)(d:DfaV)(kind most:Int)(e:Ending)(w':World):Prop:=∃(a b:Option Addr) (n1 c1 n2 c2:Nat) (r k m E:Int),e=.returned (.tuple #[.agg #[.slice a n1 c1,.slice b n2 c2,.int .i64 r],.int .i64 k,.int .i64 m,.int .i64 E])/\w.grownBy w' none/\eD (qOJ d) d kind most k m E /\
 (E=0->xK d=0/\fO (famL kind d.letters k m)=true/\famE kind d.letters k m=0/\∃u1 u2,OfOut w' d (famB (famL kind d.letters k m)) (.agg #[.slice a n1 c1,.slice b n2 c2,.int .i64 r]) u1 u2 0)
theorem qQS {w0 w:World}{sa:Option Addr}{n sc:Nat}{l:List (Int×Int)}(h:OrdI w0 w sa n sc l){i:Nat}(hi:i<n):∃g,sa=some ⟨g,0,none⟩/\n<=sc/\sc<=maxLen/\w.cell? ⟨g,i*2,none⟩=some (.int .i64 (l.getD i (0,0)).1)/\w.cell? ⟨g,i*2+1,none⟩=some (.int .i64 (l.getD i (0,0)).2):=by
 obtain⟨hn,ho,_⟩:=h;have h3:∀g j,(⟨g,0,none⟩:Addr).add j=⟨g,j,none⟩:=fun g j=>by unfold Addr.add;split<;>simp_all
 have h2:i<l.length:=by omega
 rcases ho.2 with ⟨h',h0⟩|⟨g,cap,cur,h1,hb,hg,hnc,hcm,_⟩
 ·omega
 simp only[Value.slice.injEq]at h1;obtain⟨rfl,-,rfl⟩:=h1;have c1:=ho.cells (g:=g) rfl _ _ (dD l i h2).1;have c2:=ho.cells (g:=g) rfl _ _ (dD l i h2).2;rw[h3]at c1 c2;rw[zG h2];exact⟨g,rfl,hnc,hcm,c1,c2⟩
theorem qIH (Bd:Nat)(w:World)(dv:Value)(d:DfaV)(kind most:Int)(a8:Bd<=w.heap.size)(hd:tM Bd w dv d)(a9:most<=2\/8<most):Calls Tryz.prog 8 #[dv,.int .i64 kind,.int .i64 most] w (qTW w d kind most):=by
 have a7:=hd;obtain⟨fv,nv,rfl,hf,hn⟩:=hd;obtain⟨fa,fc,rfl⟩:=hf.shape;rw[yV]at a7 hf⊢;obtain⟨na,nc,rfl⟩:=hn.shape;obtain⟨fl,H1⟩:=Nm d.final.length;obtain⟨nl,f9⟩:=Nm d.next.length;obtain⟨dl,e0⟩:=Nm d.letters;obtain⟨ds,g3⟩:=Nm d.start;have g9:=Kh e0;rw[<-H1,<-f9,<-e0,<-g3]at a7⊢;have HD:=Kh a7;obtain⟨b4,c9,c6,f7⟩:=aA w #[.int .i64 dl,.int .i64 ds,.slice fa fl fc,.slice na nl nc] 30 #[.slice none 0 0,.slice none 0 0,.int .i64 0] 35;obtain⟨wA,e3⟩:=Nm ((w.alloc (.cells #[.int .i64 dl,.int .i64 ds,.slice fa fl fc,.slice na nl nc] 30)).alloc (.cells #[.slice none 0 0,.slice none 0 0,.int .i64 0] 35));rw[<-e3]at b4 c9 c6 f7;obtain⟨c0,c1,c2,c3⟩:=zE b4;obtain⟨Q,hQ⟩:=Nm w.heap.size;obtain⟨P,hP⟩:=Nm (w.heap.size+1);have j1:=Kh hQ;have j4:Hid (P=Q+1):=Kh (by omega);have a1:Hid (w.heap.size<=P):=Kh (by omega);rw[<-hP]at c9;rw[<-hQ]at b4 c0 c1 c2 c3;obtain⟨k7,k5,j7,i7⟩:=K4 b4 c9 c6 e3;have i0:=Kh (a7.kept c6 (by simp));have i4:Bd<=wA.heap.size:=by omega
 have e4:=Kh (sK Bd wA _ d i4 i0.out);obtain⟨E,hE⟩:=Nm (xK d);rw[<-hE]at e4;have HE:=Kh hE;clear b4 c9 c6 e3 f7 hP hQ hf hn a7 H1 f9 e0 g3 hE;go_enter Tryz.func8,Tryz.ntmps8;go_upto_region 1 with fail;rw[<-i7.out,<-j1.out,<-j4.out];go_wp2_with fail;refine e4.out.mono ?_;rintro e w1 ⟨rfl,a6⟩;have e6:=Kh (zA j7.out a6);have H9:=Kh (zB k5.out a6);have k0:=Kh (zB k7.out a6);have j8:=Kh a6;clear a6 e4 c0 c1 c2 c3;by_cases hE0:E=0
 case neg =>
  have b5:=Kh hE0;have e1:(E != 0)=true:=by rw[bne_iff_ne];exact hE0
  clear hE0;have h5:=H9.out;obtain⟨f40,f41,f42,a3,v0,v1,v2⟩:=wK h5;go_wp2;obtain⟨w99,h8,g1,z1,q0,q1,q2⟩:=uP h5 (.slice none 0 0) (.slice none 0 0) (.int .i64 0);rw[<-h8];refine bodyPost_ret (v:=.tuple #[.agg #[.slice none 0 0,.slice none 0 0,.int .i64 0],.int .i64 (0),.int .i64 (0),.int .i64 (E)]) (by simp[results,Tryz.results8,go_sem,q0,q1,q2]) rfl ?_;exact⟨none,none,0,0,0,0,0,0,0,E,rfl,zY e6.out g1 (by show _<=P;have:=a1.out;omega),.inl ⟨by rw[<-HE.out];exact b5.out,rfl,rfl,HE.out⟩,fun h=>absurd h b5.out⟩
 subst hE0;have f8:xK d=0:=HE.out.symm;have H5:=Kh f8;clear f8;have b2:(kind<1\/7<kind\/most<0\/8<most)\/¬(kind<1\/7<kind\/most<0\/8<most):=by omega
 rcases b2 with hbad|hgood
 ·have f6:=Kh hbad
  have hc:kind<1\/(¬kind<1/\7<kind)\/(¬kind<1/\¬7<kind/\most<0)\/(¬kind<1/\¬7<kind/\¬most<0/\8<most):=(by omega);clear hbad;rcases hc with h1|⟨h1,h2⟩|⟨h1,h2,h3⟩|⟨h1,h2,h3,h4⟩
  all_goals
   have h5:=H9.out;obtain⟨f40,f41,f42,a3,v0,v1,v2⟩:=wK h5;go_wp2;obtain⟨w99,h8,g1,z1,q0,q1,q2⟩:=uP h5 (.slice none 0 0) (.slice none 0 0) (.int .i64 0);rw[<-h8];refine bodyPost_ret (v:=.tuple #[.agg #[.slice none 0 0,.slice none 0 0,.int .i64 0],.int .i64 (0),.int .i64 (0),.int .i64 (1)]) (by simp[results,Tryz.results8,go_sem,q0,q1,q2]) rfl ?_;exact⟨none,none,0,0,0,0,0,0,0,1,rfl,zY e6.out g1 (by show _<=P;have:=a1.out;omega),.inr (.inl ⟨H5.out,f6.out,rfl,rfl,rfl⟩),fun h=>absurd h (by decide)⟩
 have h1:¬kind<1:=by omega
 have h2:¬7<kind:=(by omega);have h3:¬most<0:=(by omega);have h4:¬8<most:=(by omega);obtain⟨mo,i1⟩:∃mo:Nat,most=(mo:Int):=⟨most.toNat,by omega⟩;subst i1;have d5:mo<=2:=by omega
 have h6:=Kh hgood;clear hgood a9;go_wp2_with fail;refine(qMX w1 kind mo (by omega)).mono ?_;rintro e w2 ⟨sa,n,sc,rfl,h0⟩;obtain⟨l,hl⟩:=Nm (ordL kind mo);rw[<-hl]at h0;have HL:=Kh hl;have j6:=Kh h0;have H2:=Kh h0.2.2
 have j0:Hid (∀i,i<n->fO (famL kind d.letters (l.getD i (0,0)).1 (l.getD i (0,0)).2)=true):=Kh (fun i hi=>by
  have a4:i<l.length:=by rw[<-h0.1];exact hi
  have d6:l.getD i (0,0)∈ordL kind 2:=by
   rw[zG a4];have h7:l[i]∈ordL kind mo:=(by rw[<-hl];exact List.getElem_mem a4);exact qEH d5 h7
  have hv:=bM H5.out;have:=hv.k1;have:=hv.k6;have:=hv.hk
  exact qAH kind (by simp;omega) d.letters (by simp;omega) _ d6)
 have g4:Hid (∀k m E,LeastR (qOJ d) kind d.letters (l.drop 0) k m E->LeastR (qOJ d) kind d.letters l k m E):=Kh (fun k m E h=>by rwa [List.drop_zero]at h);clear hl h0;go_wp2
 go_loopg [12,13,14,15,16,17,18,19,45] n (fun gh v12 v13 v14 v15 v16 v17 v18 v19 v45 wr=>∃i:Nat,gh+i=n/\v45=.int .i64 (i:Nat)/\w2.grownBy wr none/\Hid (∀k m E,LeastR (qOJ d) kind d.letters (l.drop i) k m E->LeastR (qOJ d) kind d.letters l k m E))
 case atStart=>exact⟨0,rfl,rfl,zH _ _,g4⟩
 clear g4;obtain⟨i,g0,rfl,hg,H0⟩:=hrel;have e8:=Kh g0;have HG:=Kh hg;have g7:=Kh (zA (zA e6.out H2.out) hg);have b8:=Kh (zB (zB H9.out H2.out) hg);have f3:=Kh (zB (zB k0.out H2.out) hg);have h0:=j6.out;clear g0 hg;by_cases hi:i<n
 ·have i2:(i:Int)<n:=by omega
  obtain⟨g,rfl,k1,k2,ce1,ce2⟩:=qQS h0 hi;have b1:=xG ce1 HG.out;have b0:=xG ce2 HG.out;obtain⟨p1,c5⟩:=Nm ((l.getD i (0,0)).1);obtain⟨p2,c4⟩:=Nm ((l.getD i (0,0)).2);rw[<-c5]at b1;rw[<-c4]at b0;have k3:sc<=9223372036854775807:=by unfold maxLen at k2;omega
  have a4:i<l.length:=by have:=h0.1;omega
  have a2:Hid (l.drop i=(p1,p2)::l.drop (i+1)):=Kh (by
   rw[List.drop_eq_getElem_cons a4,c5,c4,zG a4])
  have H6:Hid (fO (famL kind d.letters p1 p2)=true):=Kh (by rw[c5,c4];exact j0.out i hi);have b3:=heap_alloc_new wr (.cells #[.int .i64 p1,.int .i64 p2] 57);have d8:=Ga wr (.cells #[.int .i64 p1,.int .i64 p2] 57) none;obtain⟨w5,d2⟩:=Nm (wr.alloc (.cells #[.int .i64 p1,.int .i64 p2] 57));obtain⟨X,hX⟩:=Nm wr.heap.size;rw[<-d2]at b3 d8;rw[<-hX]at b3;obtain⟨i9,i6,d0⟩:=K3 d2 hX d8;have x0:=zJ b3 0;have x1:=zJ b3 1;simp only[sPd,sPe,sPf]at x0 x1;clear h0 ce1 ce2 c5 c4 d2 hX d8 b3;go_upto_region 9 with fail;rw[<-i9.out,<-i6.out];clear b1 b0;go_cut [13,14] (fun s13 s14 wx=>s13=.int .i64 p1/\s14=.int .i64 p2/\w5.grownBy wx none)
  case first =>
   go_region
   all_goals (try go_frame)
   all_goals
    go_wp2_with fail
    go_meet
    exact⟨rfl,rfl,by first|exact zK _ _ none|exact zN _ none⟩
  obtain⟨rfl,rfl,a0⟩:=hcut;have l0:=Kh a0;have e7:=Kh (zA (zA g7.out d0.out) a0);have f5:=Kh (zB (zB b8.out d0.out) a0);have b7:=Kh (zB (zB f3.out d0.out) a0);have f1:=Kh (zC (zC HG.out d0.out) a0);obtain⟨c0,c1,c2,c3⟩:=zE b7.out;clear a0 x0 x1;go_wp2_with fail;refine(qHY kind dl p1 p2 wc).mono ?_;rintro e w6 ⟨fs,fcap,svs,rfl,d3,d4,a5⟩;obtain⟨F,hF⟩:=Nm (famE kind dl p1 p2);rw[<-hF];have HF:Hid (F=famE kind d.letters p1 p2):=Kh (by rw[hF,g9.out]);have H3:=Kh (zB f5.out a5);have f4:=Kh (zB b7.out a5);have f0:=Kh (zA e7.out a5);have b6:=Kh (zC f1.out a5);obtain⟨fl6,H1⟩:=Nm ((famL kind dl p1 p2).length);rw[<-H1];rw[<-H1]at d3;rw[g9.out]at d4 H1;have g2:FamD w6 (.slice fs fl6 fcap) (famL kind d.letters p1 p2):=⟨H6.out,svs,d3,d4,fs,fcap,by rw[H1]⟩;have j3:=Kh g2.pats;have i3:fl6<=300:=by have:=(rH H6.out).1;rw[wJ]at this;omega
  have j9:=Kh H1;clear hF d3 d4 a5 g2 H1 c0 c1 c2 c3;by_cases hF0:F=0
  case neg =>
   have e1:(F != 0)=true:=by rw[bne_iff_ne];exact hF0
   have g6:=Kh hF0;clear hF0;have h5:=H3.out;obtain⟨f40,f41,f42,a3,v0,v1,v2⟩:=wK h5;go_wp2;obtain⟨w99,h8,g1,z1,q0,q1,q2⟩:=uP h5 (.slice none 0 0) (.slice none 0 0) (.int .i64 0);rw[<-h8];refine bodyPost_ret (v:=.tuple #[.agg #[.slice none 0 0,.slice none 0 0,.int .i64 0],.int .i64 (0),.int .i64 (0),.int .i64 (F)]) (by simp[results,Tryz.results8,go_sem,q0,q1,q2]) rfl ?_;exact⟨none,none,0,0,0,0,0,0,0,F,rfl,zY f0.out g1 (by show _<=P;have:=a1.out;omega),.inr (.inr ⟨H5.out,h6.out,by show LeastR _ _ _ (ordL kind mo) _ _ _;rw[<-HL.out];refine H0.out _ _ _ ?_;rw[a2.out,HF.out];exact .fam (p:=(p1,p2)) (by rw[<-HF.out];exact g6.out)⟩),fun h=>absurd h g6.out⟩
  subst hF0;have g5:=Kh (qKW w6.heap.size w6 _ _ d (famB (famL kind d.letters p1 p2)) (Nat.le_refl _) ((i0.out.kept (zC (zC j8.out H2.out) b6.out) (by simp)).mono (by have:=f0.out.size;omega)) j3.out (by rw[wJ,<-j9.out];omega));obtain⟨c0,c1,c2,c3⟩:=zE f4.out;go_wp2_with fail;refine g5.out.mono ?_;rintro e w7 ⟨v7,s1,s2,E,rfl,h9,d7⟩;have H4:=h9 w7 (GrownBut.refl _ _);obtain⟨⟨ap,n1,cp,ac,n2,cc,rt,rfl⟩,-⟩:=qVO H4;have H7:=Kh H4;have j5:=Kh h9;have c8:=heap_alloc_new w7 (.cells #[.slice ap n1 cp,.slice ac n2 cc,.int .i64 rt] 35);have c7:=Ga w7 (.cells #[.slice ap n1 cp,.slice ac n2 cc,.int .i64 rt] 35) none;obtain⟨w8,d1⟩:=Nm (w7.alloc (.cells #[.slice ap n1 cp,.slice ac n2 cc,.int .i64 rt] 35));obtain⟨Y,hY⟩:=Nm w7.heap.size;rw[<-d1]at c8 c7;rw[<-hY]at c8;obtain⟨i8,i5,k4,e9⟩:=K4 d1 hY c8 c7;have H8:=Kh (zC d7 c7);have g8:=Kh (zA f0.out H8.out);have f2:=Kh (zC b6.out H8.out);have b9:=Kh (zB H3.out H8.out);have j2:Hid (P≠Y):=Kh (by have:=zM H3.out;have:=d7.size;omega);clear H4 h9 d7 c8 c7 d1 hY g5 c0 c1 c2 c3;go_upto_region 14 with fail;rw[<-i8.out,<-i5.out];by_cases hE:E=0
  ·subst hE
   have k8:=j2.out;obtain⟨y0,y1,y2⟩:=zQ k4.out;have h5:=b9.out;obtain⟨f40,f41,f42,a3,v0,v1,v2⟩:=wK h5;go_wp2;obtain⟨w99,h8,g1,z1,q0,q1,q2⟩:=uP h5 (.slice ap n1 cp) (.slice ac n2 cc) (.int .i64 rt);rw[<-h8];refine bodyPost_ret (v:=.tuple #[.agg #[.slice ap n1 cp,.slice ac n2 cc,.int .i64 rt],.int .i64 (p1),.int .i64 (p2),.int .i64 (0)]) (by simp[results,Tryz.results8,go_sem,q0,q1,q2]) rfl ?_
   have d9:qTW w d kind (mo:Int) (.returned (.tuple #[.agg #[.slice ap n1 cp,.slice ac n2 cc,.int .i64 rt],.int .i64 p1,.int .i64 p2,.int .i64 0])) w99:=by
    refine⟨ap,ac,n1,cp,n2,cc,rt,p1,p2,0,rfl,zY g8.out g1 (by show _<=P;have:=a1.out;omega),.inr (.inr ⟨H5.out,h6.out,?_⟩),fun _=>⟨H5.out,H6.out,HF.out.symm,_,_,j5.out _ (((GrownBut.refl w7 _).step e9.out (by simp)).step g1 (fun j e=>.inl (show j<w6.heap.size by have e:P=j:=Oj e;have:=zM H3.out;omega)))⟩⟩;show LeastR _ _ _ (ordL kind mo) _ _ _;rw[<-HL.out];refine H0.out _ _ _ ?_;rw[a2.out];exact .ok (p:=(p1,p2)) HF.out.symm ⟨_,_,_,_,H7.out⟩
   exact d9
  by_cases hE20:E=20
  ·subst hE20
   go_wp2;go_roundg (n-(i+1))
   case measure=>have:=e8.out;omega
   exact⟨i+1,by have:=e8.out;omega,by go_num,f2.out,Kh (fun k m E h=>H0.out k m E (by rw[a2.out];exact .next (p:=(p1,p2)) HF.out.symm ⟨_,_,_,_,H7.out⟩ h))⟩
  have e1:(E == 0)=false:=by rw[beq_eq_false_iff_ne];exact hE
  have e2:(E != 20)=true:=by rw[bne_iff_ne];exact hE20
  have b5:=Kh hE;have e5:=Kh hE20;clear hE hE20;have h5:=b9.out;obtain⟨f40,f41,f42,a3,v0,v1,v2⟩:=wK h5;go_wp2;obtain⟨w99,h8,g1,z1,q0,q1,q2⟩:=uP h5 (.slice none 0 0) (.slice none 0 0) (.int .i64 0);rw[<-h8];refine bodyPost_ret (v:=.tuple #[.agg #[.slice none 0 0,.slice none 0 0,.int .i64 0],.int .i64 (0),.int .i64 (0),.int .i64 (E)]) (by simp[results,Tryz.results8,go_sem,q0,q1,q2]) rfl ?_;exact⟨none,none,0,0,0,0,0,0,0,E,rfl,zY g8.out g1 (by show _<=P;have:=a1.out;omega),.inr (.inr ⟨H5.out,h6.out,by show LeastR _ _ _ (ordL kind mo) _ _ _;rw[<-HL.out];refine H0.out _ _ _ ?_;rw[a2.out];exact .bad (p:=(p1,p2)) HF.out.symm ⟨_,_,_,_,H7.out⟩ b5.out e5.out⟩),fun h=>absurd h b5.out⟩
 have i2:¬(i:Int)<n:=by omega
 have k9:i=n:=by have:=e8.out;omega
 have a2:Hid (l.drop i=[]):=Kh (List.drop_eq_nil_of_le (by have:=h0.1;omega));clear h0;have h5:=b8.out;obtain⟨f40,f41,f42,a3,v0,v1,v2⟩:=wK h5;go_wp2;obtain⟨w99,h8,g1,z1,q0,q1,q2⟩:=uP h5 (.slice none 0 0) (.slice none 0 0) (.int .i64 0);rw[<-h8];refine bodyPost_ret (v:=.tuple #[.agg #[.slice none 0 0,.slice none 0 0,.int .i64 0],.int .i64 (0),.int .i64 (0),.int .i64 (9)]) (by simp[results,Tryz.results8,go_sem,q0,q1,q2]) rfl ?_;exact⟨none,none,0,0,0,0,0,0,0,9,rfl,zY g7.out g1 (by show _<=P;have:=a1.out;omega),.inr (.inr ⟨H5.out,h6.out,by show LeastR _ _ _ (ordL kind mo) _ _ _;rw[<-HL.out];refine H0.out _ _ _ ?_;rw[a2.out];exact .nil⟩),fun h=>absurd h (by decide)⟩
def qIW (w:World)(d:DfaV)(kind most:Int)(e:Ending)(w':World):Prop:=∃k m E:Int,e=.returned (.tuple #[.int .i64 k,.int .i64 m,.int .i64 E])/\w.grownBy w' none/\eD (uY d) d kind most k m E
def LPre (R:List (List ByteArray)->Int->Prop)(kind letters:Int)(l pre:List (Int×Int)):Prop:=pre <+: l/\∀suf k m E,l=pre++suf->LeastR R kind letters suf k m E->LeastR R kind letters l k m E
section
variable {R:List (List ByteArray)->Int->Prop} {kind letters:Int} {l pre:List (Int×Int)}
theorem LPre.nil:LPre R kind letters l []:=⟨List.nil_prefix,fun suf k m E h hr=>by rw[h];exact hr⟩
theorem LPre.here (h:LPre R kind letters l pre){p:Int×Int}(hp:pre++[p] <+: l){k m E:Int}(hr:∀r,LeastR R kind letters (p::r) k m E):LeastR R kind letters l k m E:=by
 obtain⟨r,e⟩:=hp;exact h.2 (p::r) k m E (by rw[<-e,List.append_assoc];rfl) (hr r)
theorem LPre.next (h:LPre R kind letters l pre){p:Int×Int}(hp:pre++[p] <+: l)(h0:famE kind letters p.1 p.2=0)(hR:R (famB (famL kind letters p.1 p.2)) 20):LPre R kind letters l (pre++[p]) :=
 ⟨hp,fun suf k m E e hr=>h.2 (p::suf) k m E (by rw[e,List.append_assoc];rfl) (.next h0 hR hr)⟩
theorem LPre.done (h:LPre R kind letters l l):LeastR R kind letters l 0 0 9:=h.2 [] 0 0 9 (by simp) .nil
end
theorem qVI {f b n:Nat}(hf:f<=b)(hb:b<n):ordO f b++[((b:Int),0)] <+: ordO f n:=by
 rw[<-jZ hf]
 induction n with
 | zero=>omega
 | succ n ih =>
  by_cases h:b=n
  ·subst h;exact List.prefix_refl _
  rw[jZ (f:=f) (b:=n) (by omega)];exact(ih (by omega)).trans (List.prefix_append _ _)
theorem qVL {s n : Nat}(h : s ≤ n): ordC s <+: ordC n := by
  induction n with
  | zero => have : s = 0 := by omega
            subst this; exact List.prefix_refl _
  | succ n ih =>
    by_cases e : s = n + 1
    · subst e; exact List.prefix_refl _
    · rw [mO]; exact (ih (by omega)).trans (List.prefix_append _ _)
theorem qVK {s b:Nat}(h1:max 1 (s-4)<=b)(h:b<=s):ordK s (b+1) <+: ordK s (s+1):=by
 obtain⟨j,rfl⟩:∃j,s=b+j:=⟨s-b,by omega⟩
 have:∀j t,max 1 (t-4)<=b->ordK t (b+1) <+: ordK t (b+j+1):=fun j t ht=>by
  induction j with
  | zero=>exact List.prefix_refl _
  | succ j ih=>rw[show b+(j+1)+1=(b+j+1)+1 by omega,iA (s:=t) (b:=b+j+1) (by omega)];exact ih.trans (List.prefix_append _ _)
 exact this j _ h1
theorem qQT {s b n:Nat}(hs:1<=s)(a9:s<=n)(h1:max 1 (s-4)<=b)(h:b<=s):(ordC (s-1)++ordK s b)++[((b:Int),(s:Int)-(b:Int))] <+: ordC n:=by
 rw[List.append_assoc,<-iA h1];have e:=mO (s-1);rw[show s-1+1=s by omega,show s-1+2=s+1 by omega]at e;refine List.IsPrefix.trans ?_ (qVL a9);rw[e];obtain⟨r,hr⟩:=qVK h1 h;exact⟨r,by rw[List.append_assoc,hr]⟩
theorem qMF (Bd:Nat)(w:World)(dv:Value)(d:DfaV)(kind most:Int)(a8:Bd<=w.heap.size)(hd:tM Bd w dv d)(a9:most<=2\/8<most):Calls Tryz.prog 9 #[dv,.int .i64 kind,.int .i64 most] w (qIW w d kind most):=by
 have b9:=hd;obtain⟨fv,nv,rfl,hf,hn⟩:=hd;obtain⟨fa,fc,rfl⟩:=hf.shape;rw[yV]at b9 hf⊢;obtain⟨na,nc,rfl⟩:=hn.shape;obtain⟨fl,h9⟩:=Nm d.final.length;obtain⟨nl,e4⟩:=Nm d.next.length;obtain⟨dl,d0⟩:=Nm d.letters;obtain⟨ds,e9⟩:=Nm d.start;have f5:=Kh d0;rw[<-h9,<-e4,<-d0,<-e9]at b9⊢;obtain⟨wA,d1⟩:=Nm (w.alloc (.cells #[.int .i64 dl,.int .i64 ds,.slice fa fl fc,.slice na nl nc] 30));have b1:=Ga w (.cells #[.int .i64 dl,.int .i64 ds,.slice fa fl fc,.slice na nl nc] 30) none;have H8:=heap_alloc_new w (.cells #[.int .i64 dl,.int .i64 ds,.slice fa fl fc,.slice na nl nc] 30);obtain⟨Q,hQ⟩:=Nm w.heap.size;rw[<-d1]at b1 H8;rw[<-hQ]at H8;obtain⟨c0,c1,c2,c3⟩:=zE H8;obtain⟨g1,g5,g4,g0⟩:=K4 hQ H8 b1 d1;have d9:=Kh (b9.kept b1 (by simp));have d2:=Kh (jL Bd wA _ d (by have:=b1.size;omega) d9.out);obtain⟨E,hE⟩:=Nm (xK d);rw[<-hE]at d2;have HE:=Kh hE;clear H8 b1 d1 hQ hf hn b9 h9 e4 d0 e9 hE;go_enter Tryz.func9,Tryz.ntmps9;go_upto_region 1 with fail;rw[<-g0.out,<-g1.out];go_wp2_with fail;refine d2.out.mono ?_;rintro e w1 ⟨rfl,b8⟩;have a5:=Kh (zA g4.out b8);have c4:=Kh (zB g5.out b8);have f4:=Kh b8;clear b8 d2 c0 c1 c2 c3;by_cases hE0:E=0
 case neg =>
  have g2:=Kh hE0;have e1:(E != 0)=true:=by rw[bne_iff_ne];exact hE0
  clear hE0;go_wp2;refine bodyPost_ret (v:=.tuple #[.int .i64 0,.int .i64 0,.int .i64 E]) (by simp[results,Tryz.results9,go_sem]) rfl ?_;exact⟨0,0,E,rfl,a5.out,.inl ⟨by rw[<-HE.out];exact g2.out,rfl,rfl,HE.out⟩⟩
 subst hE0;have e3:xK d=0:=HE.out.symm;have d3:=Kh e3;clear e3;have H1:(kind<1\/7<kind\/most<0\/8<most)\/¬(kind<1\/7<kind\/most<0\/8<most):=by omega
 rcases H1 with hbad|hgood
 ·have e0:=Kh hbad
  have hc:kind<1\/(¬kind<1/\7<kind)\/(¬kind<1/\¬7<kind/\most<0)\/(¬kind<1/\¬7<kind/\¬most<0/\8<most):=(by omega);clear hbad;rcases hc with h1|⟨h1,h2⟩|⟨h1,h2,h3⟩|⟨h1,h2,h3,h4⟩
  all_goals
   go_wp2;refine bodyPost_ret (v:=.tuple #[.int .i64 0,.int .i64 0,.int .i64 1]) (by simp[results,Tryz.results9,go_sem]) rfl ?_;exact⟨0,0,1,rfl,a5.out,.inr (.inl ⟨d3.out,e0.out,rfl,rfl,rfl⟩)⟩
 have h1:¬kind<1:=by omega
 have h2:¬7<kind:=(by omega);have h3:¬most<0:=(by omega);have h4:¬8<most:=(by omega);obtain⟨mo,f7⟩:∃mo:Nat,most=(mo:Int):=⟨most.toNat,by omega⟩;subst f7;have c8:mo<=2:=by omega
 have b5:=Kh hgood;clear hgood a9;obtain⟨l,hl⟩:=Nm (ordL kind mo);have HL:=Kh hl;have h6:Hid (∀(w':World) (k m E:Int),w.grownBy w' none->LeastR (uY d) kind d.letters l k m E->qIW w d kind (mo:Int) (.returned (.tuple #[.int .i64 k,.int .i64 m,.int .i64 E])) w'):=Kh (fun w' k m E hg h=>⟨k,m,E,rfl,hg,.inr (.inr ⟨d3.out,b5.out,by show LeastR _ _ _ (ordL kind mo) _ _ _;rw[<-HL.out];exact h⟩)⟩)
 have f1:Hid (∀p:Int×Int,p∈l->fO (famL kind d.letters p.1 p.2)=true):=Kh (fun p hp=>by
  have hv:=bM d3.out;have:=hv.k1;have:=hv.k6;have:=hv.hk
  exact qAH kind (by simp;omega) d.letters (by simp;omega) _ (qEH c8 (by rw[<-HL.out];exact hp)))
 clear hl;by_cases hk7:kind=7
 ·have f3:Hid (l=ordC mo):=Kh (by rw[HL.out,ordL,if_pos hk7])
  have e7:(kind != 7)=false:=by rw[hk7];rfl
  have e8:(kind == 1)=false:=by rw[hk7];rfl
  clear hk7;have b3:Hid (LPre (uY d) kind d.letters l (ordC 0)):=Kh LPre.nil;go_wp2
  go_loopg [11,12,13,14,15] mo (fun gh v11 v12 v13 v14 v15 wr=>∃s:Nat,gh+s=mo+1/\1<=s/\v11=.int .i64 (s:Nat)/\w1.grownBy wr none/\Hid (LPre (uY d) kind d.letters l (ordC (s-1))))
  case atStart=>exact⟨1,rfl,Nat.le_refl _,rfl,zH _ _,b3⟩
  clear b3;obtain⟨s,b0,f6,rfl,hg,H9⟩:=hrel;have a6:=Kh b0;have a0:=Kh hg;clear b0 hg;by_cases hs:s<=mo
  ·have c6:(s:Int)<=mo:=by omega
   have c7:max 1 (s-4)=1:=by omega
   have a4:Hid (LPre (uY d) kind d.letters l (ordC (s-1)++ordK s 1)):=Kh (by
    have e:ordK s 1=[]:=by rw[ordK,c7];rfl
    rw[e,List.append_nil];exact H9.out)
   have g3:=Kh c7;clear c7 H9;go_wp2
   go_loopg [12,13,14,15] s (fun gh v12 v13 v14 v15 wr=>∃b:Nat,gh+b=s+1/\1<=b/\v12=.int .i64 (b:Nat)/\w1.grownBy wr none/\Hid (LPre (uY d) kind d.letters l (ordC (s-1)++ordK s b)))
   case atStart=>exact⟨1,rfl,Nat.le_refl _,rfl,a0.out,a4⟩
   clear a0 a4;obtain⟨b,e5,H8,rfl,hg,H0⟩:=hrel;have d7:=Kh e5;have HG:=Kh hg;clear e5 hg;by_cases hb:b<=s
   ·have f9:(b:Int)<=s:=by omega
    have H3:Hid ((ordC (s-1)++ordK s b)++[(((b:Nat):Int),((s:Nat):Int)-((b:Nat):Int))] <+: l):=Kh (by rw[f3.out];exact qQT f6 hs (by rw[g3.out];exact H8) hb);have h5:Hid (fO (famL kind d.letters ((b:Nat):Int) (((s:Nat):Int)-((b:Nat):Int)))=true):=Kh (f1.out (((b:Nat):Int),((s:Nat):Int)-((b:Nat):Int)) (H3.out.subset (by simp)));have g7:¬(4:Int)<(s:Int)-b:=(by omega);go_upto_region 19 with fail;have a3:Hid (Calls Tryz.prog 11 #[.int .i64 kind,.int .i64 dl,.int .i64 (((b:Nat):Int)),.int .i64 (((s:Nat):Int)-((b:Nat):Int))] wr (sW wr (famE kind d.letters (((b:Nat):Int)) (((s:Nat):Int)-((b:Nat):Int))) (famL kind d.letters (((b:Nat):Int)) (((s:Nat):Int)-((b:Nat):Int))))):=Kh (by rw[<-f5.out];exact kT kind dl (((b:Nat):Int)) (((s:Nat):Int)-((b:Nat):Int)) wr);obtain⟨F,hF⟩:=Nm (famE kind d.letters (((b:Nat):Int)) (((s:Nat):Int)-((b:Nat):Int)));obtain⟨PS,H4⟩:=Nm (famL kind d.letters (((b:Nat):Int)) (((s:Nat):Int)-((b:Nat):Int)));rw[<-hF,<-H4]at a3;rw[<-H4]at h5;have HF:=Kh hF;have a4:=Kh H4;obtain⟨c0,c1,c2,c3⟩:=zE (zB c4.out HG.out);have d6:=Kh (zA a5.out HG.out);clear hF H4;go_wp2_with fail;refine a3.out.mono ?_;rintro e w6 ⟨fs,fcap,svs,rfl,H5,a7,H7⟩;have a1:=Kh (zA d6.out H7);have h7:=Kh (zC HG.out H7);obtain⟨fl6,h9⟩:=Nm PS.length;rw[<-h9];rw[<-h9]at H5;have b2:FamD w6 (.slice fs fl6 fcap) PS:=⟨h5.out,svs,H5,a7,fs,fcap,by rw[h9]⟩;have d4:=Kh b2.pats;have c9:fl6<=300:=by have:=(rH h5.out).1;rw[wJ]at this;omega
    have d8:=Kh h9;clear H5 a7 H7 b2 h9 c0 c1 c2 c3 a3;by_cases hF0:F=0
    case neg =>
     have e1:(F != 0)=true:=by rw[bne_iff_ne];exact hF0
     have d5:=Kh hF0;have h0:Hid (LeastR (uY d) kind d.letters l 0 0 F):=Kh (H0.out.here H3.out (fun r=>by rw[HF.out];exact .fam (p:=(((b:Nat):Int),((s:Nat):Int)-((b:Nat):Int))) (by rw[<-HF.out];exact d5.out)));clear hF0;go_wp2;refine bodyPost_ret (v:=.tuple #[.int .i64 0,.int .i64 0,.int .i64 F]) (by simp[results,Tryz.results9,go_sem]) rfl ?_;exact h6.out _ 0 0 F a1.out h0.out
    subst hF0;have b7:=Kh (qJM w6.heap.size w6 _ _ d (famB PS) (Nat.le_refl _) ((d9.out.kept (zC f4.out h7.out) (by simp)).mono (by have:=a1.out.size;omega)) d4.out (by rw[wJ,<-d8.out];omega) (fun q hq _=>by have:=(rH h5.out).2 q hq;omega));obtain⟨c0,c1,c2,c3⟩:=zE (zB c4.out h7.out);go_wp2_with fail;refine b7.out.mono ?_;rintro e w7 ⟨cn,E,rfl,H6,H2⟩;have h8:Hid (uY d (famB (famL kind d.letters (((b:Nat):Int)) (((s:Nat):Int)-((b:Nat):Int)))) E):=Kh (by rw[<-a4.out];exact⟨_,H2⟩);have b6:=Kh (zA a1.out H6);have a2:=Kh (zC h7.out H6);clear H2 H6 b7 c0 c1 c2 c3;by_cases hE:E=0
    ·subst hE
     have h0:Hid (LeastR (uY d) kind d.letters l (((b:Nat):Int)) (((s:Nat):Int)-((b:Nat):Int)) 0):=Kh (H0.out.here H3.out (fun r=>.ok (p:=(((b:Nat):Int),((s:Nat):Int)-((b:Nat):Int))) HF.out.symm h8.out));go_wp2;refine bodyPost_ret (v:=.tuple #[.int .i64 (((b:Nat):Int)),.int .i64 (((s:Nat):Int)-((b:Nat):Int)),.int .i64 0]) (by simp[results,Tryz.results9,go_sem]) rfl ?_;exact h6.out _ (((b:Nat):Int)) (((s:Nat):Int)-((b:Nat):Int)) 0 b6.out h0.out
    by_cases hE20:E=20
    ·subst hE20
     have b4:Hid (LPre (uY d) kind d.letters l (ordC (s-1)++ordK s (b+1))):=Kh (by rw[iA (by omega),<-List.append_assoc];exact H0.out.next H3.out HF.out.symm h8.out);go_wp2;go_roundg (s-b)
     case measure=>have:=d7.out;omega
     exact⟨b+1,by have:=d7.out;omega,by omega,by go_num,a2.out,b4⟩
    have e1:(E == 0)=false:=by rw[beq_eq_false_iff_ne];exact hE
    have e2:(E != 20)=true:=by rw[bne_iff_ne];exact hE20
    have h0:Hid (LeastR (uY d) kind d.letters l 0 0 E):=Kh (H0.out.here H3.out (fun r=>.bad (p:=(((b:Nat):Int),((s:Nat):Int)-((b:Nat):Int))) HF.out.symm h8.out hE hE20));clear hE hE20;go_wp2;refine bodyPost_ret (v:=.tuple #[.int .i64 0,.int .i64 0,.int .i64 E]) (by simp[results,Tryz.results9,go_sem]) rfl ?_;exact h6.out _ 0 0 E b6.out h0.out
   have f9:¬(b:Int)<=s:=by omega
   have f0:b=s+1:=by have:=d7.out;omega
   have b4:Hid (LPre (uY d) kind d.letters l (ordC (s+1-1))):=Kh (by
    have e:=mO (s-1);rw[show s-1+1=s by omega,show s-1+2=s+1 by omega]at e
    rw[Nat.add_sub_cancel,e,<-f0];exact H0.out)
   clear f0;go_wp2;go_roundg (mo-s)
   case measure=>have:=a6.out;omega
   exact⟨s+1,by have:=a6.out;omega,by omega,by go_num,HG.out,b4⟩
  have c6:¬(s:Int)<=mo:=by omega
  have c5:s=mo+1:=by have:=a6.out;omega
  have h0:Hid (LeastR (uY d) kind d.letters l 0 0 9):=Kh (by
   have h:=H9.out;rw[c5,Nat.add_sub_cancel,<-f3.out]at h
   exact h.done)
  have hg:=zA a5.out a0.out;go_wp2;refine bodyPost_ret (v:=.tuple #[.int .i64 0,.int .i64 0,.int .i64 9]) (by simp[results,Tryz.results9,go_sem]) rfl ?_;exact h6.out _ 0 0 9 hg h0.out
 obtain⟨f,hf⟩:=Nm ((if kind=1 then 0 else 1):Nat);have f2:Hid (l=ordO f (mo+1)):=Kh (by rw[HL.out,ordL,if_neg hk7,hf]);have g8:f<=1:=by rw[hf];split<;>omega
 have e7:(kind != 7)=true:=by rw[bne_iff_ne];exact hk7
 have H1:((kind == 1)=true/\((f:Nat):Int)=0)\/((kind == 1)=false/\((f:Nat):Int)=1):=by
  by_cases h1:kind=1
  ·rw[if_pos h1]at hf;exact .inl ⟨by rw[h1];rfl,by rw[hf];rfl⟩
  rw[if_neg h1]at hf;exact .inr ⟨by rw[beq_eq_false_iff_ne];exact h1,by rw[hf];rfl⟩
 clear hf hk7;have b3:Hid (LPre (uY d) kind d.letters l (ordO f f)):=Kh (by rw[ordO,Nat.sub_self];exact LPre.nil);rcases H1 with ⟨e2,q2⟩|⟨e2,q2⟩
 all_goals
  have Q2:=Kh q2;clear q2;go_wp2
  go_loopg [11,12,13,14,15] (mo+1-f) (fun gh v11 v12 v13 v14 v15 wr=>∃s:Nat,gh+s=mo+1/\f<=s/\v11=.int .i64 (s:Nat)/\w1.grownBy wr none/\Hid (LPre (uY d) kind d.letters l (ordO f s)))
  case atStart=>exact⟨f,by omega,Nat.le_refl _,by rw[Q2.out],zH _ _,b3⟩
  clear b3;obtain⟨s,b0,e6,rfl,hg,H0⟩:=hrel;have a6:=Kh b0;have a0:=Kh hg;clear b0 hg;by_cases hs:s<=mo
  ·have c6:(s:Int)<=mo:=by omega
   go_wp2
   go_loopg [12,13,14,15] 1 (fun gh v12 v13 v14 v15 wr=>(gh=1/\v12=.int .i64 (f:Nat)/\w1.grownBy wr none/\Hid (LPre (uY d) kind d.letters l (ordO f s)))\/(gh=0/\v12=.int .i64 ((s+1:Nat):Int)/\w1.grownBy wr none/\Hid (LPre (uY d) kind d.letters l (ordO f (s+1)))))
   case atStart=>exact .inl ⟨rfl,by rw[Q2.out],a0.out,H0⟩
   clear a0;rcases hrel with ⟨rfl,rfl,hg,HPR2⟩|⟨rfl,rfl,hg,HPR2⟩
   ·have HG:=Kh hg
    clear hg;have H3:Hid (ordO f s++[(((s:Nat):Int),0)] <+: l):=Kh (by rw[f2.out];exact qVI e6 (by omega));have h5:Hid (fO (famL kind d.letters ((s:Nat):Int) 0)=true):=Kh (f1.out (((s:Nat):Int),0) (H3.out.subset (by simp)));have f8:((f:Nat):Int)<=s:=by omega
    clear Q2;go_upto_region 19 with fail;have a3:Hid (Calls Tryz.prog 11 #[.int .i64 kind,.int .i64 dl,.int .i64 (((s:Nat):Int)),.int .i64 (0)] wr (sW wr (famE kind d.letters (((s:Nat):Int)) (0)) (famL kind d.letters (((s:Nat):Int)) (0)))):=Kh (by rw[<-f5.out];exact kT kind dl (((s:Nat):Int)) (0) wr);obtain⟨F,hF⟩:=Nm (famE kind d.letters (((s:Nat):Int)) (0));obtain⟨PS,H4⟩:=Nm (famL kind d.letters (((s:Nat):Int)) (0));rw[<-hF,<-H4]at a3;rw[<-H4]at h5;have HF:=Kh hF;have a4:=Kh H4;obtain⟨c0,c1,c2,c3⟩:=zE (zB c4.out HG.out);have d6:=Kh (zA a5.out HG.out);clear hF H4;go_wp2_with fail;refine a3.out.mono ?_;rintro e w6 ⟨fs,fcap,svs,rfl,H5,a7,H7⟩;have a1:=Kh (zA d6.out H7);have h7:=Kh (zC HG.out H7);obtain⟨fl6,h9⟩:=Nm PS.length;rw[<-h9];rw[<-h9]at H5;have b2:FamD w6 (.slice fs fl6 fcap) PS:=⟨h5.out,svs,H5,a7,fs,fcap,by rw[h9]⟩;have d4:=Kh b2.pats;have c9:fl6<=300:=by have:=(rH h5.out).1;rw[wJ]at this;omega
    have d8:=Kh h9;clear H5 a7 H7 b2 h9 c0 c1 c2 c3 a3;by_cases hF0:F=0
    case neg =>
     have e1:(F != 0)=true:=by rw[bne_iff_ne];exact hF0
     have d5:=Kh hF0;have h0:Hid (LeastR (uY d) kind d.letters l 0 0 F):=Kh (H0.out.here H3.out (fun r=>by rw[HF.out];exact .fam (p:=(((s:Nat):Int),0)) (by rw[<-HF.out];exact d5.out)));clear hF0;go_wp2;refine bodyPost_ret (v:=.tuple #[.int .i64 0,.int .i64 0,.int .i64 F]) (by simp[results,Tryz.results9,go_sem]) rfl ?_;exact h6.out _ 0 0 F a1.out h0.out
    subst hF0;have b7:=Kh (qJM w6.heap.size w6 _ _ d (famB PS) (Nat.le_refl _) ((d9.out.kept (zC f4.out h7.out) (by simp)).mono (by have:=a1.out.size;omega)) d4.out (by rw[wJ,<-d8.out];omega) (fun q hq _=>by have:=(rH h5.out).2 q hq;omega));obtain⟨c0,c1,c2,c3⟩:=zE (zB c4.out h7.out);go_wp2_with fail;refine b7.out.mono ?_;rintro e w7 ⟨cn,E,rfl,H6,H2⟩;have h8:Hid (uY d (famB (famL kind d.letters (((s:Nat):Int)) (0))) E):=Kh (by rw[<-a4.out];exact⟨_,H2⟩);have b6:=Kh (zA a1.out H6);have a2:=Kh (zC h7.out H6);clear H2 H6 b7 c0 c1 c2 c3;by_cases hE:E=0
    ·subst hE
     have h0:Hid (LeastR (uY d) kind d.letters l (((s:Nat):Int)) (0) 0):=Kh (H0.out.here H3.out (fun r=>.ok (p:=(((s:Nat):Int),0)) HF.out.symm h8.out));go_wp2;refine bodyPost_ret (v:=.tuple #[.int .i64 (((s:Nat):Int)),.int .i64 (0),.int .i64 0]) (by simp[results,Tryz.results9,go_sem]) rfl ?_;exact h6.out _ (((s:Nat):Int)) (0) 0 b6.out h0.out
    by_cases hE20:E=20
    ·subst hE20
     have b4:Hid (LPre (uY d) kind d.letters l (ordO f (s+1))):=Kh (by rw[jZ e6];exact H0.out.next H3.out HF.out.symm h8.out);go_wp2;go_roundg 0
     case measure=>omega
     exact .inr ⟨rfl,by go_num,a2.out,b4⟩
    have e1:(E == 0)=false:=by rw[beq_eq_false_iff_ne];exact hE
    have e2:(E != 20)=true:=by rw[bne_iff_ne];exact hE20
    have h0:Hid (LeastR (uY d) kind d.letters l 0 0 E):=Kh (H0.out.here H3.out (fun r=>.bad (p:=(((s:Nat):Int),0)) HF.out.symm h8.out hE hE20));clear hE hE20;go_wp2;refine bodyPost_ret (v:=.tuple #[.int .i64 0,.int .i64 0,.int .i64 E]) (by simp[results,Tryz.results9,go_sem]) rfl ?_;exact h6.out _ 0 0 E b6.out h0.out
   have g6:¬((s+1:Nat):Int)<=(s:Nat):=by omega
   have HG:=Kh hg;clear hg;go_wp2;go_roundg (mo+1-(s+1))
   case measure=>have:=a6.out;omega
   exact⟨s+1,by omega,by omega,by go_num,HG.out,HPR2⟩
  have c6:¬(s:Int)<=mo:=by omega
  have c5:s=mo+1:=by have:=a6.out;omega
  have h0:Hid (LeastR (uY d) kind d.letters l 0 0 9):=Kh (by
   have h:=H0.out;rw[c5,<-f2.out]at h
   exact h.done)
  have hg:=zA a5.out a0.out;go_wp2;refine bodyPost_ret (v:=.tuple #[.int .i64 0,.int .i64 0,.int .i64 9]) (by simp[results,Tryz.results9,go_sem]) rfl ?_;exact h6.out _ 0 0 9 hg h0.out
theorem qQD:psF.length=7:=by decide +kernel
theorem qQC:psP.length=2:=by decide +kernel
theorem xBF:∀p∈psFL,∀u∈p,u.length<=4096:=by decide
theorem xBE:∀p∈psPL,∀u∈p,u.length<=4096:=by decide
theorem qTP:acc dK 0 [0,1]=true/\acc dK 0 [1,0]=false/\acc dK 0 [1,1]=false:=by decide +kernel
theorem knF {w':World}{v:Value}{u1 u2:ByteArray}{E:Int}(h:OfOut w' dK psF v u1 u2 E):E=0/\∃g,mB w'.heap.size w' v g/\∀s,zU s 2=true->diaH g s=acc dK 0 (zI s):=by
 cases h with
 | bad h=>exact absurd ofEF h
 | over h ho=>exact(oF xBB ho).elim
 | conf h hu hc=>exact(qZT (by rw[<-qQD];exact hc)).elim
 | ok _ g l L h hL hl4 hn hg h1 h2 h3 h4 h5 hc h6=>exact⟨rfl,g,hg,fun s hs=>qJY h h1 h2 h3 h4 (by have:=hc.len_le;omega) h5 hs⟩
theorem knP {w':World}{v:Value}{u1 u2:ByteArray}{E:Int}(h:OfOut w' dK psP v u1 u2 E):E=20/\v=.agg #[.slice none 0 0,.slice none 0 0,.int .i64 0]/\∃u v,u1=strOfNums (lets u)/\u2=strOfNums (lets v)/\yO 2 u/\yO 2 v/\u.length<=4000/\v.length<=4000/\acc dK 0 u=true/\acc dK 0 v=false:=by
 cases h with
 | bad h=>exact absurd ofEP h
 | over h ho=>exact(oF xBA ho).elim
 | conf h hu hc u v h1 h2 h3 h4 h5 h6 h7=>exact⟨rfl,rfl,u,v,rfl,rfl,h1,h2,h3,h4,h6,h7⟩
 | ok _ g l L h hL hl4 hn=>exact(hn (by rw[qQC];exact xDJ)).elim
theorem qHV (w:World)(hL:SomeLen w):Calls Tryz.prog 10 #[] w fun e w'=>e=.returned (.bool true)/\w.grownBy w' none:=by
 obtain⟨w5,d4,e2,f0,b8⟩:=xCM w;have H8:=Ga w5 (.cells #[.int .i64 2,.int .i64 0,.slice (some ⟨w.heap.size,0,none⟩) 3 3,.slice (some ⟨w.heap.size+1+1+1+1,0,none⟩) 3 3] 30) none;have H6:=heap_alloc_new w5 (.cells #[.int .i64 2,.int .i64 0,.slice (some ⟨w.heap.size,0,none⟩) 3 3,.slice (some ⟨w.heap.size+1+1+1+1,0,none⟩) 3 3] 30);obtain⟨w6,a9⟩:=Nm (w5.alloc (.cells #[.int .i64 2,.int .i64 0,.slice (some ⟨w.heap.size,0,none⟩) 3 3,.slice (some ⟨w.heap.size+1+1+1+1,0,none⟩) 3 3] 30));rw[<-a9]at H8 H6;obtain⟨fb,b7⟩:=Nm w.heap.size;obtain⟨nb,b4⟩:=Nm (w.heap.size+1+1+1+1);obtain⟨P,hP⟩:=Nm (w.heap.size+1+1+1+1+1);obtain⟨f5,e3,f9,f7,HP⟩:=K5 d4 a9 b7 b4 hP;rw[<-b4,<-b7]at b8 H6 e3;rw[show w5.heap.size=P by omega]at H6;have e9:=Kh H6;have HD:=Kh (b8.kept H8 (by simp));have e6:=Kh (zA e2 H8);have HZ:Hid (w5.heap.size<=w6.heap.size):=Kh H8.size;have HL:=Kh hL;obtain⟨c0,c1,c2,c3⟩:=zE H6;clear d4 e2 f0 b8 H8 H6 a9 b7 b4 hP;go_enter Tryz.func10,Tryz.ntmps10;go_upto_region 2 with fail;rw[<-f5.out,<-HP.out,<-f7.out,<-f9.out,<-e3.out]
 have e8:Hid (∀W:World,Calls Tryz.prog 11 #[.int .i64 5,.int .i64 2,.int .i64 1,.int .i64 0] W (sW W 0 psFL)):=Kh (fun W=>by
  have h:=qGX 5 2 1 0 W (by decide);rw[show famE 5 ((2:Nat):Int) ((1:Nat):Int) ((0:Nat):Int)=0 from xDH,show famL 5 ((2:Nat):Int) ((1:Nat):Int) ((0:Nat):Int)=psFL from famF]at h
  exact h)
 have e7:Hid (∀W:World,Calls Tryz.prog 11 #[.int .i64 6,.int .i64 2,.int .i64 1,.int .i64 0] W (sW W 0 psPL)):=Kh (fun W=>by
  have h:=qGX 6 2 1 0 W (by decide);rw[show famE 6 ((2:Nat):Int) ((1:Nat):Int) ((0:Nat):Int)=0 from xDG,show famL 6 ((2:Nat):Int) ((1:Nat):Int) ((0:Nat):Int)=psPL from xDF]at h
  exact h)
 have H2:Hid (∀(W:World) (pv:Value) (ps:List (List ByteArray)),w6.grownBy W none->vE W.heap.size W pv ps->ps.length<=4096->Calls Tryz.prog 24 #[.agg #[.int .i64 2,.int .i64 0,.slice (some ⟨fb,0,none⟩) 3 3,.slice (some ⟨nb,0,none⟩) 3 3],pv] W (xCX W dK ps)):=Kh (fun W pv ps hW hp h4=>xAM W.heap.size W _ pv dK ps (Nat.le_refl _) ((HD.out.kept hW (by simp)).mono (by have:=HZ.out;have:=hW.size;omega)) hp h4);go_wp2_with fail;refine(e8.out _).mono ?_;rintro e w7 ⟨sa,sc,svs,rfl,h7,H7,b6⟩;have c5:=Kh (kV h7 H7 xBF);have e5:=Kh b6;have g3:=Kh (zB e9.out b6);obtain⟨c0,c1,c2,c3⟩:=zE g3.out;have f3:psFL.length=7:=rfl;rw[f3]at c5⊢;clear h7 H7 b6 e8;go_wp2_with fail;refine(H2.out _ _ psF e5.out c5.out (by rw[qQD];omega)).mono ?_;rintro e w8 ⟨v8,u1,u2,E8,rfl,h0,e1⟩;obtain⟨rfl,g,H1,hh⟩:=knF h0;obtain⟨ap,cp,ac,cc,rfl⟩:=bC H1;have a5:=Kh H1;have HH:=Kh hh;have e4:=Kh (zA e5.out e1);obtain⟨m1,e0⟩:=Nm g.pats.length;obtain⟨m2,d9⟩:=Nm g.chos.length;obtain⟨rt,h7⟩:=Nm g.root;rw[<-e0,<-d9,<-h7]at a5⊢;have a6:=Ga w8 (.cells #[.slice ap m1 cp,.slice ac m2 cc,.int .i64 rt] 35) none;have a7:=heap_alloc_new w8 (.cells #[.slice ap m1 cp,.slice ac m2 cc,.int .i64 rt] 35);obtain⟨w9,a8⟩:=Nm (w8.alloc (.cells #[.slice ap m1 cp,.slice ac m2 cc,.int .i64 rt] 35));obtain⟨R,hR⟩:=Nm w8.heap.size;rw[<-a8]at a6 a7;rw[<-hR]at a7;obtain⟨f4,f6,g2,c7⟩:=K4 a8 hR a7 a6;have f8:=Kh (zA e4.out a6);clear h0 e1 H1 hh e0 d9 h7 a6 a7 a8 hR c0 c1 c2 c3 c5;go_upto_region 4 with fail;rw[<-f4.out,<-f6.out];go_wp2_with fail;refine(e7.out _).mono ?_;rintro e w10 ⟨sb,sd,svs2,rfl,h7,H7,h6⟩;have c4:=Kh (kV h7 H7 xBE);have a2:=Kh (zC c7.out h6);have a4:=Kh h6;have H4:=Kh (zA f8.out h6);obtain⟨c0,c1,c2,c3⟩:=zE (zB e9.out H4.out);have b5:psPL.length=2:=rfl;rw[b5]at c4⊢;clear h7 H7 h6 e7;go_wp2_with fail;refine(H2.out _ _ psP H4.out c4.out (by rw[qQC];omega)).mono ?_;rintro e w11 ⟨v11,s1,s2,E11,rfl,h0,h5⟩;obtain⟨rfl,rfl,u,v,b3,b2,d8,d6,b1,b0,d7,d5⟩:=knP h0
 have g1:Hid (∀W:World,Calls Tryz.prog 28 #[.string s1] W fun e w'=>e=.returned (.bool true)/\W=w'):=Kh (fun W=>by
  have:=qKQ W u d8 b1
  rwa [<-b3,d7]at this)
 have g0:Hid (∀W:World,Calls Tryz.prog 28 #[.string s2] W fun e w'=>e=.returned (.bool false)/\W=w'):=Kh (fun W=>by
  have:=qKQ W v d6 b0
  rwa [<-b2,d5]at this)
 have g8:s1.size<=4000:=by rw[b3,strOfNums_size];simpa [lets] using b1
 have g7:s2.size<=4000:=by rw[b2,strOfNums_size];simpa [lets] using b0
 have a1:=Kh (zC a2.out h5);have H3:=Kh h5;have d2:=Kh (zA H4.out h5);clear h0 h5 b3 b2 d8 d6 b1 b0 d7 d5 c0 c1 c2 c3 c4 H2;obtain⟨w12,H0⟩:=Nm (w11.alloc (.cells #[.slice none 0 0,.slice none 0 0,.int .i64 0] 35));have h2:=Ga w11 (.cells #[.slice none 0 0,.slice none 0 0,.int .i64 0] 35) none;rw[<-H0]at h2;have b9:=Kh H0;have h9:=Kh (zC a1.out h2);have d1:=Kh (zA d2.out h2)
 have c6:Hid (∀(W:World) (s:ByteArray) (b:Bool),w8.grownBy W none->s.size<=maxLen->diaH g s=b->Calls Tryz.prog 27 #[.agg #[.slice ap m1 cp,.slice ac m2 cc,.int .i64 rt],.string s] W fun e w'=>e=.returned (.bool b)/\W.grownBy w' none):=Kh (fun W s b hW hs hb=>by
  have:=qNZ w8.heap.size W _ g s hW.size (a5.out.kept hW (by simp)) hs (HL.out.kept (zA (zA e6.out e4.out) hW) (by simp))
  rwa [hb]at this)
 have g6:Hid (diaH g ⟨#[97,98]⟩=true):=Kh (by rw[HH.out _ (by decide)];exact qTP.1);have g5:Hid (diaH g ⟨#[98,97]⟩=false):=Kh (by rw[HH.out _ (by decide)];exact qTP.2.1);have g4:Hid (diaH g ⟨#[98,98]⟩=false):=Kh (by rw[HH.out _ (by decide)];exact qTP.2.2);have hm:(2:Nat)<=maxLen:=by unfold maxLen;omega
 have a3:Hid (w9.grownBy w12 none):=Kh (zC (zC a4.out H3.out) h2);have H5:=Kh (zB g2.out (a3.out));clear H0 h2;go_upto_region 6 with fail;rw[<-b9.out];obtain⟨x0,x1,x2⟩:=zQ H5.out;go_wp2_with fail;refine(c6.out _ ⟨#[97,98]⟩ true h9.out hm g6.out).mono ?_;rintro e w13 ⟨rfl,h1⟩;have h8:=Kh (zC h9.out h1);have d0:=Kh (zA d1.out h1);obtain⟨x0,x1,x2⟩:=zQ (zB H5.out h1);have d3:=Kh (zB H5.out h1);clear h1;go_wp2_with fail;refine(c6.out _ ⟨#[98,97]⟩ false h8.out hm g5.out).mono ?_;rintro e w14 ⟨rfl,h3⟩;have a0:=Kh (zC h8.out h3);have c9:=Kh (zA d0.out h3);obtain⟨x0,x1,x2⟩:=zQ (zB d3.out h3);clear h3;go_wp2_with fail;refine(c6.out _ ⟨#[98,98]⟩ false a0.out hm g4.out).mono ?_;rintro e w15 ⟨rfl,H9⟩;have c8:=Kh (zA c9.out H9);clear H9 x0 x1 x2;go_wp2_with fail;refine(g1.out _).mono ?_;rintro e w15 ⟨rfl,rfl⟩;go_wp2_with fail;refine(g0.out _).mono ?_;rintro e w15 ⟨rfl,rfl⟩;have f2:(s1.size:Int)<=4000:=by omega
 have f1:(s2.size:Int)<=4000:=by omega
 go_wp2;go_ret;exact⟨rfl,zA e6.out c8.out⟩
end Go.Proofs.YtcoimliafiammaaGreat
namespace Go.Proofs.YtcoimliafiammaaGreat
open Go.RowKit
theorem qUP {d:DfaV}{q:Nat}{l:List Nat}{j:Nat}(h:j<l.length):run d q (l.take (j+1))=nx d (run d q (l.take j)) (l.getD j 0):=by
 rw[zT (d:=0) h,qBC]
end Go.Proofs.YtcoimliafiammaaGreat
