/- Part 23 of the proof. -/
import Derived.Test.YtiknckajkdlppaaGreatQb22
import Derived.Deep.Cut
set_option linter.unusedVariables false
set_option linter.unusedSimpArgs false
set_option maxRecDepth 100000
set_option maxHeartbeats 16000000
namespace Go.Proofs.YtiknckajkdlppaaGreat
open Go.RowKit
variable{letters most b m q cI cP cA k:Nat}{e:Ending}{Q:Exit->Act->World->Prop}{v1 v2 v3 v4 v6 v7 v8 v9 d7 d8 d9 c0 e2 e3 e4 e5 e6 e7 e9 d0 d1 d2 d3 d4 d5 d6 c2 c3 c4 c5 c6 c7 c8 c9 b0 b1 b2 b3 b4 b5 b6 b7 b8 b9 a0 a1 a2 a3 a4 a5 a6 a7 a8:Value}{sI sP sA:Option Addr}{is ps l:List Int}{bs:List Bool}{x:Int}
def qPL (WL:List (List Nat))(W:List Nat)(a:Nat)(x:Int):Prop:=0<=x/\x<WL.length/\∃j,j<=W.length/\WL.getD x.toNat []=(W++[a]).drop j/\∀j',j'<j->(W++[a]).drop j' ∉ WL
def DefD (m:DfaV)(n:Nat):Prop:=m.start=0/\∀k:Nat,m.letters=k->∃most,1<=most/\most<=2/\n=(rR k most).length/\∀q a,q<n->a<k->qPL (rR k most) ((rR k most).getD q []) a (ent m.next q a)
theorem qCN (h1:1<=letters)(h2:letters<=2)(h3:1<=most)(h4:most<=2):(rR letters most).length<=7/\1<=(rR letters most).length/\(∀u∈rR letters most,u.length<=2/\∀c∈u,c<2)/\∀a,a<letters->[a]∈rR letters most :=
 qPS (P:=fun letters most=>(rR letters most).length<=7/\1<=(rR letters most).length/\(∀u∈rR letters most,u.length<=2/\∀c∈u,c<2)/\∀a,a<letters->[a]∈rR letters most) h1 h2 h3 h4
  ⟨by decide +kernel,by decide +kernel,by decide +kernel,by decide +kernel⟩
theorem qOA {u v:List Nat}(hu:∀c∈u,c<100)(hv:∀c∈v,c<100)(h:strOfNums (lets u)=strOfNums (lets v)):u=v:=by
 have h2:(strOfNums (lets u)).data.toList=(strOfNums (lets v)).data.toList:=by rw[h]
 rw[strOfNums_data,strOfNums_data,lets,lets,List.map_map,List.map_map]at h2
 have key:∀(u v:List Nat),(∀c∈u,c<100)->(∀c∈v,c<100)->u.map ((fun(n:Int)=>UInt8.ofNat n.toNat) ∘ fun(a:Nat)=>97+(a:Int))=v.map ((fun(n:Int)=>UInt8.ofNat n.toNat) ∘ fun(a:Nat)=>97+(a:Int))->u=v:=by
  intro u
  induction u with
  | nil=>intro v _ _ h;cases v with
   | nil=>rfl
   | cons=>simp at h
  | cons x u ih =>
   intro v hu hv h;cases v with
   | nil=>simp at h
   | cons y v =>
    simp only[List.map_cons,List.cons.injEq,Function.comp]at h;have hx:=hu x List.mem_cons_self;have hy:=hv y List.mem_cons_self;have e:=congrArg UInt8.toNat h.1;rw[UInt8.toNat_ofNat',UInt8.toNat_ofNat']at e;have e1:((97+(x:Int)).toNat) % 2 ^ 8=97+x:=yo
    have e2:((97+(y:Int)).toNat) % 2 ^ 8=97+y:=yo
    rw[e1,e2]at e;have:=ih v (fun c hc=>hu c (List.mem_cons_of_mem _ hc)) (fun c hc=>hv c (List.mem_cons_of_mem _ hc)) h.2;rw[this,show x=y by omega]
 exact key u v hu hv h2
theorem qHU {a b:ByteArray}(h:a.toList=b.toList):a=b:=by
 rw[ByteArray.toList_eq,ByteArray.toList_eq]at h;exact ByteArray.ext (Array.toList_inj.1 h)
theorem Arr.keptOwn {w w':World}{g e e' base n:Nat}{xs ys:List Value}{v:Value}(h:Arr w g e xs)(ho:w.ownsRow base e' 1 v n ys)(a9:e'≠e)(hg:w.grownBy w' v.ownBlock):Arr w' g e xs :=
 h.kept hg (fun er=>by
  obtain⟨cur,rest,hgc,_⟩:=h
  exact zR ho hgc a9 er)
theorem qNU (B tb:Nat)(w:World)(letters:Nat)(h1:1<=letters)(h2:letters<=2)(hT:wJ B w tb):Calls Tryz.prog 17 #[.pointer (some ⟨tb,0,none⟩),.int .i64 (letters:Int)] w (iG DefD B tb w letters 7):=by
 have n6:=hT.lt;have s8:=hT.ge;obtain⟨wA,f7⟩:=Nm ((w.alloc (.cells #[.int .i64 0,.int .i64 0,.slice none 0 0,.slice none 0 0] 29)).alloc (.cells #[.int .i64 letters,.int .i64 0,.slice none 0 0,.slice none 0 0] 29));obtain⟨b6,c5,c4,i8⟩:=rK w #[.int .i64 0,.int .i64 0,.slice none 0 0,.slice none 0 0] #[.int .i64 letters,.int .i64 0,.slice none 0 0,.slice none 0 0] 29;rw[<-f7]at b6 c5 c4 i8;obtain⟨P,hP⟩:=Nm w.heap.size;have H7:=Kh hP;rw[<-hP]at b6 c5 i8 n6;have k7:=hT.kept c4 yq;obtain⟨q8,q7,q2,p4,p7⟩:=Ke b6 c5 c4 f7 k7;clear b6 c5 c4 f7 k7 hT;go_enter Tryz.func17,Tryz.ntmps17;go_upto_region 2 with fail;rw[<-p4.out,<-H7.out];clear hP;go_wp2_with fail;refine(uS B tb _ _ yo p7.out).mono ?_;rintro e w1 ⟨r,rfl,n8,d7,k9,k0⟩;replace d7:=d7 yo;obtain⟨most,rfl⟩:∃n:Nat,r=(n:Int)-1:=⟨(r+1).toNat,yo⟩;have d9:1<=most:=yo
 have d8:most<=2:=yo
 have r8:(1:Int)+((most:Int)-1)=most:=yo
 have m0:=Kh k9;have c0:=Kh k0;have a8:=Kh (qCN h1 h2 d9 d8);clear n8 d7 k9 k0;go_wp2_with fail;refine(qGY w1 letters most h1 h2 d9 d8).mono ?_;rintro e w2 ⟨sl,cl,rfl,h7,b2⟩;obtain⟨WL,f6⟩:=Nm (rR letters most);rw[<-f6]at h7 a8⊢;obtain⟨N,hN⟩:=Nm WL.length;have H8:=Kh hN;have p1:N<=7:=by rw[hN];exact a8.out.1
 have p2:1<=N:=by rw[hN];exact a8.out.2.1
 rw[<-hN]at h7⊢;obtain⟨lb,rfl,s0,o1,l0⟩:=yV h7 yo;have r9:=(h7.lt lb rfl).1;have r4:=c0.out.size;have s2:cl<=9223372036854775807:=(by unfold maxLen at o1;omega)
 have n3:=Kh l0;have k2:=zD (zD q7.out c0.out (by simp;omega)) b2;have l1:Half (P+1) w2 (P+1) letters 0 [] [] [] none 0 none 0:=⟨k2,World.ownsRow_nil _ _ _ _,World.ownsRow_nil _ _ _ _,OwnsT.nil⟩;have H2:=Kh l1;have HB:=Kh (zD (zD q8.out c0.out (by simp;omega)) b2);have l9:=Kh (m0.out.kept b2 yq);have m8:=Kh (zE (zI (zE (zX w (some tb)) q2.out) c0.out) b2);have b7:=Kh f6;clear h7 b2 l0 k2 l1 m0 c0 hN f6;go_wp2
 go_loopg [8,9,10,11,12,13,14,24] N (fun gh v8 v9 v10 v11 v12 v13 v14 i wr=>∃(q:Nat) (fs:List Bool) (t:List (List Int)) (hs:List Value) (sf:Option Addr) (cf:Nat) (sn:Option Addr) (cn:Nat),gh+q=N/\i=.int .i64 q/\fs.length=q/\t.length=q/\pJ t N letters/\(∀q' a,q'<q->a<letters->qPL WL (WL.getD q' []) a (ent t q' a))/\Half (P+1) wr (P+1) letters 0 fs t hs sf cf sn cn/\wJ B wr tb/\wr.heap[P]?=some (.cells #[.int .i64 0,.int .i64 0,.slice none 0 0,.slice none 0 0] 29 (0,0))/\Arr wr lb 9 (uV WL)/\w.grownBy wr (some tb))
 case atStart=>exact⟨0,[],[],[],none,0,none,0,yo,rfl,rfl,rfl,(fun r hr=>by simp at hr),(fun q' a h=>by omega),H2.out,l9.out,HB.out,n3.out,m8.out⟩
 obtain⟨q,fs,t,hs,sf,cf,sn,cn,hg,rfl,rfl,a5,j2,k1,hH,k5,b5,l2,j7⟩:=hrel;obtain⟨HG,HH,c8,h0,i1,m2⟩:=Kf hg hH k5 b5 j7 j2;obtain⟨i6,m9,H6⟩:=Kc l2 k1 a5;clear hg hH k5 b5 j7 j2 l2 k1 a5 H2 l9 HB n3 m8;by_cases hq:fs.length<N
 ·have r7:(fs.length:Int)<N:=yo
  have f4:=i6.out.strL fs.length (by rw[<-H8.out];exact hq);obtain⟨W,hW⟩:=Nm (WL.getD fs.length []);rw[<-hW]at f4;obtain⟨X,hX⟩:=Nm (strOfNums (lets W));rw[<-hX]at f4;have l5:=Kh hW;have HX:=Kh hX;clear hX hW;obtain⟨w5,d5⟩:=Nm wr.drew;have a6:wr.grownBy w5 none:=(by rw[d5];exact zY wr none);have l6:=Kh d5;have i0:=Kh (HH.out.grow a6);have g6:=Kh (c8.out.kept a6 yq);have m7:=Kh (zE i1.out a6);have n1:=Kh (zD h0.out a6);have r1:=Kh (i6.out.kept a6 yq);obtain⟨d0,d1,d2,d3⟩:=zM i0.out.box;have C2:=Kh d2;clear d5 a6 d0 d1 d2 d3 HH c8 i1 h0 i6;go_upto_region 6 with fail;clear f4;refine wp_region_noPanic ?_;refine yI (G:=xM 8 (fun _=>True) (fun W=>W.cell? ⟨P+1,2,none⟩=some (.slice sf fs.length cf))) yk ?_;rw[<-l6.out];refine zP 0 ?_;refine xD 1 ?_;refine zP 2 ?_;refine jg 3 fun K hK=>?_;go_simp
  go_at_call 5
  refine(uS B tb _ _ yo g6.out).mono ?_;rintro e w6 ⟨b,rfl,s3,b6,k8,b1⟩;have c7:=i0.out.tape g6.out b1;obtain⟨d0,d1,d2,d3⟩:=zM c7.box;have C2:=Kh d2;refine hK.out _ _ ⟨trivial,fun _=>C2.out⟩ ?_;clear hK K d0 d1 d2 d3
  try simp only[Act.put,sPa,sPb,sPc]
  refine zP 4 ?_;refine jg 5 fun K hK=>?_;go_simp;have H1:=c7.grow (Ga w6 (.cells #[.bool (decide (b=1))] 4) none);have j8:=heap_alloc_new w6 (.cells #[.bool (decide (b=1))] 4);obtain⟨d0,d1,d2,d3⟩:=zM H1.box;refine hK.out _ _ ⟨trivial,fun _=>d2⟩ ?_;clear hK K d0 d1 d2 d3
  try simp only[Act.put,sPa,sPb,sPc]
  have r3:P+2<=w6.heap.size:=by have:=zS c7.box;omega
  refine jg 6 fun K hK=>?_;refine mB rfl (.tmp 29) (.tmp 33) 26 rfl xK (P+1) _ _ _ rfl H1.ownF _ _ _ rfl j8 rfl ?g1 ?g2 ?g3 ?_
  case g1=>unfold maxLen;omega
  case g2=>omega
  case g3=>rw[zW];omega
  intro sa' sc' w8 H5 a1;have a2:=zD H1.box a1 (fun e=>zR H1.ownF H1.box jd e);obtain⟨d0,d1,d2,d3⟩:=zM a2;have f2:=zB a2 2;refine hK.out _ _ ⟨trivial,fun _=>d2⟩ ?_;clear hK K
  try simp only[Act.put,sPa,sPb,sPc]
  have C2:=Kh d2;refine zP 7 ?_;refine jg 8 fun K hK=>?_;go_simp;refine hK.out _ _ ⟨trivial,fun h=>by simp at h⟩ ?_;clear hK K d0 d1 d2 d3 f2 a2
  try simp only[Act.put,sPa,sPb,sPc]
  refine uY yk ?_ _;refine NoPanic.normal ?_;obtain⟨hF,o4⟩:=H1.pushF H5 a1 rfl;have f8:=((k8.kept (Ga w6 (.cells #[.bool (decide (b=1))] 4) none) yq).kept a1 (fun k e=>by have:=(H1.ownF.lt k e).1;omega)).kept (zH w8 ⟨P+1,2,none⟩ (.slice sa' (fs.length+1) sc')) (fun k e=>by have e:P+1=k:=Oj e;omega);have f5:=zD (zD (zD (zD n1.out b1 (by simp;omega)) (Ga w6 (.cells #[.bool (decide (b=1))] 4) none)) a1 (fun e=>by have:=(H1.ownF.lt _ e).1;omega)) (zH w8 ⟨P+1,2,none⟩ (.slice sa' (fs.length+1) sc'));have e9:w.grownBy (w8.setCell ⟨P+1,2,none⟩ (.slice sa' (fs.length+1) sc')) (some tb):=zE (zE (zE (zI m7.out b1) (Ga w6 (.cells #[.bool (decide (b=1))] 4) none)) a1 (fun k e=>by have:=(H1.ownF.lt k e).1;have:=H7.out;omega)) (zH w8 ⟨P+1,2,none⟩ (.slice sa' (fs.length+1) sc')) (fun k e=>by have e:P+1=k:=Oj e;have:=H7.out;omega);have g0:=(((r1.out.kept b1 (by simp;omega)).kept (Ga w6 (.cells #[.bool (decide (b=1))] 4) none) yq).keptOwn H1.ownF jd a1).kept (zH w8 ⟨P+1,2,none⟩ (.slice sa' (fs.length+1) sc')) (by simp;omega);obtain⟨w9,j0⟩:=Nm (w8.setCell ⟨P+1,2,none⟩ (.slice sa' (fs.length+1) sc'));rw[<-j0]at hF f8 f5 e9 g0⊢;obtain⟨HF,g5,n0,m6,n2⟩:=Ke hF f8 f5 e9 g0;clear g0 j0 o4 hF f8 f5 e9 H5 a1 j8 H1 c7 k8 b1 C2 i0 g6 m7 n1 l6;have a3:W.length<=2/\∀c∈W,c<2:=by rw[l5.out];exact a8.out.2.2.1 _ (wT (by rw[<-H8.out];exact hq))
  have s7:=a3.1;have p5:=Kh a3.2;clear a3;go_wp2
  go_loopg [9,10,11,12,13,14] letters (fun gh ov i v11 v12 v13 v14 wx=>∃(a:Nat) (row:List Int) (sr:Option Addr) (cr:Nat),gh+a=letters/\i=.int .i64 a/\row.length=a/\ov=.slice sr row.length cr/\(∀a',a'<a->qPL WL W a' (row.getD a' 0))/\wx.ownsRow w9.heap.size 3 1 (.slice sr row.length cr) row.length (ints row)/\w9.grownBy wx none)
  case atStart=>exact⟨0,[],none,0,yo,rfl,rfl,rfl,(fun a' h=>by omega),World.ownsRow_nil _ _ _ _,zX _ _⟩
  obtain⟨a,row,sr,cr,hg,rfl,rfl,rfl,j3,h7,j6⟩:=hrel;obtain⟨b9,H3,a4,g7⟩:=Kd hg h7 j6 j3;clear hg h7 j6 j3;by_cases ha:row.length<letters
  ·have s4:(row.length:Int)<letters:=yo
   have p3:IntKind.i64.wrap (97+(row.length:Int))=97+(row.length:Int):=IntWalk.i64_in _ yo;have o9:IntKind.u8.wrap (97+(row.length:Int))=97+(row.length:Int):=IntWalk.u8_in _ yo;obtain⟨Y,hY⟩:=Nm (strOfNums [97+(row.length:Int)]);have o6:∀(W:World) (g:Nat),W.cell? ⟨g,0,none⟩=some (.int .u8 (97+(row.length:Int)))->(convert 67 9 (.slice (some ⟨g,0,none⟩) 1 1)).run Tryz.prog W=.ok (.string Y) W:=fun W g h=>by rw[hY];exact mD 67 5 Tryz.underlying67 Tryz.underlying5 9 Tryz.underlying9 h
   have o8:∀W0:World,(Op.stringOp .add X Y).run Tryz.prog W0=.ok (.string (X++Y)) W0:=fun W0=>run_string_add_sum W0 X Y (by
    rw[hY,HX.out,strOfNums_size,strOfNums_size];simp[lets];omega)
   have l4:Hid (X++Y=strOfNums (lets (W++[row.length]))):=Kh (by rw[HX.out,hY,gV];simp[lets]);have e7:=Ga wr (.cells #[.int .u8 (97+(row.length:Int))] 5) none;have g8:=Kh (yY H3.out e7 yq);have c9:=Kh (zE a4.out e7);clear hY e7;go_wp2;clear o6 o8 p3 o9;obtain⟨wb,i9⟩:=Nm (wr.alloc (.cells #[.int .u8 (97+(row.length:Int))] 5))
   try rw[<-i9]at g8 c9⊢
   clear i9
   have HV:Hid (∀c∈W++[row.length],c<100):=Kh (fun c hc=>by
    rcases List.mem_append.1 hc with hc|hc
    ·have:=p5.out c hc;omega
    rw[List.mem_singleton]at hc;omega)
   have l7:Hid ((W++[row.length]).length=W.length+1):=Kh yq
   have H9:Hid ((W++[row.length]).drop W.length∈WL):=Kh (by
    rw[List.drop_append_of_le_length (Nat.le_refl _),List.drop_length,List.nil_append]
    exact a8.out.2.2.2 _ ha)
   obtain⟨V,hV⟩:=Nm (W++[row.length]);rw[<-hV]at HV l7 l4 H9;have l8:=Kh hV;clear hV;have d6:=c9.out.size
   go_loopg [11,12,13,14] (W.length+1) (fun gh v11 v12 v13 v14 wy=>wy=wb/\((∃j,v12=.int .i64 (-1)/\j<=W.length/\gh+j=W.length+1/\v11=.string (strOfNums (lets (V.drop j)))/\∀j',j'<j->V.drop j' ∉ WL)\/(∃(x:Nat) (y:ByteArray),v12=.int .i64 (x:Int)/\v11=.string y/\qPL WL W row.length x)))
   case atStart=>exact⟨rfl,.inl ⟨0,rfl,yo,yo,by rw[l4.out];rfl,fun j' h=>by omega⟩⟩
   obtain⟨d4,n7⟩:=hrel;subst d4;rcases n7 with ⟨j,rfl,hj,hgj,rfl,hno⟩|⟨x,y,rfl,rfl,hdef⟩
   ·have m5:=Kh hgj;have m3:=Kh hno
    clear hgj hno;obtain⟨Z,hZ⟩:=Nm (strOfNums (lets (V.drop j)));have k4:Z.size=W.length+1-j:=by rw[hZ,strOfNums_size];simp[lets,l7.out]
    rw[<-hZ];have HZ:=Kh hZ;have s6:1<=Z.size:=yo
    have s5:Z.size<=3:=yo
    have s9:=Kh k4;clear hZ k4;go_wp2;have r0:=Kh (n2.out.kept c9.out yq)
    go_loopg [12,13,14,52] N (fun gh v12 v13 v14 i wz=>wz=wr/\∃(k:Nat) (m:Int),gh+k=N/\i=.int .i64 k/\v12=.int .i64 m/\((m = -1/\∀k',k'<k->WL.getD k' []≠V.drop j)\/(0<=m/\m<N/\WL.getD m.toNat []=V.drop j)))
    case atStart=>exact⟨rfl,0,-1,yo,rfl,rfl,.inl ⟨rfl,fun k' h=>by omega⟩⟩
    obtain⟨d4,k,m,j9,rfl,rfl,hm⟩:=hrel;subst d4;have b8:=Kh j9;have HM:=Kh hm;clear j9 hm;by_cases hk:k<N
    ·have e6:(k:Int)<N:=yo
     have o7:=r0.out.strL k (by rw[<-H8.out];exact hk);obtain⟨K2,f9⟩:=Nm (strOfNums (lets (WL.getD k [])));rw[<-f9]at o7;have m4:=Kh f9;clear f9;by_cases hx:WL.getD k []=V.drop j
     ·have o5:=Kh hx
      have p0:(K2.toList == Z.toList)=true:=by rw[m4.out,HZ.out,hx];simp
      clear hx;go_wp2;go_roundg (N-(k+1))
      case measure=>have:=b8.out;omega
      exact⟨rfl,k+1,k,yo,by go_num,rfl,.inr ⟨yo,yo,by simpa using o5.out⟩⟩
     have n9:=Kh hx
     have p0:(K2.toList == Z.toList)=false:=by
      rw[beq_eq_false_iff_ne];intro e;refine hx (qOA (fun c hc=>?_) (fun c hc=>HV.out c (List.mem_of_mem_drop hc)) (by rw[<-m4.out,<-HZ.out];exact qHU e));have:=(a8.out.2.2.1 _ (wT (d:=[]) (by rw[<-H8.out];exact hk))).2 c hc;omega
     clear hx;go_wp2;go_roundg (N-(k+1))
     case measure=>have:=b8.out;omega
     refine⟨rfl,k+1,m,yo,by go_num,rfl,?_⟩;rcases HM.out with ⟨e1,e2⟩|e1
     ·refine .inl ⟨e1,fun k' h=>?_⟩
      rcases Nat.lt_or_ge k' k with h2|h2
      ·exact e2 k' h2
      have:k'=k:=yo
      subst this;exact n9.out
     exact .inr e1
    have o2:k=N:=by have:=b8.out;omega
    have q0:=Kh HM.out;go_wp2
    have hcut:Hid (Z.extract 1 Z.size=strOfNums (lets (V.drop (j+1)))):=Kh (by
     apply ByteArray.ext;apply Array.toList_inj.1;rw[HZ.out,ByteArray.data_extract,Array.toList_extract,strOfNums_data,strOfNums_data,List.extract_eq_take_drop,strOfNums_size];rw[List.take_of_length_le yq];rw[show V.drop (j+1)=(V.drop j).drop 1 by rw[List.drop_drop]]
     simp[lets,List.map_drop])
    rcases q0.out with ⟨e1,e2⟩|⟨e1,e2,e3⟩
    ·go_roundg (W.length+1-(j+1))
     case measure=>have:=m5.out;omega
     have a0:V.drop j ∉ WL:=fun hm=>by
      obtain⟨k',e6,e4⟩:=List.getElem_of_mem hm;exact e2 k' (by rw[o2,H8.out];exact e6) (by rw[<-e4];simp[List.getD_eq_getElem?_getD,e6])
     have s1:j<W.length:=by
      rcases Nat.lt_or_ge j W.length with h|h
      ·exact h
      have e5:j=W.length:=yo
      rw[e5]at a0;exact absurd H9.out a0
     exact⟨rfl,.inl ⟨j+1,by rw[e1],yo,yo,by rw[hcut.out],fun j' h=>by
      rcases Nat.lt_or_ge j' j with h2|h2
      ·exact m3.out j' h2
      have:j'=j:=yo
      subst this;exact a0⟩⟩
    go_roundg (W.length+1-(j+1))
    case measure=>have:=m5.out;omega
    refine⟨rfl,.inr ⟨m.toNat,Z.extract 1 Z.size,by rw[Int.toNat_of_nonneg e1],rfl,?_⟩⟩;rw[Int.toNat_of_nonneg e1];exact⟨e1,by rw[<-H8.out];exact e2,j,hj,by rw[e3,l8.out],fun j' h=>by rw[<-l8.out];exact m3.out j' h⟩
   have q4:=Kh hdef;have r5:¬(x:Int) = -1:=yo
   clear hdef;go_wp2_with (first|(at_builtin;refine app1 rfl _ _ _ rfl yJ w9.heap.size _ row.length (ints row) rfl g8.out _ rfl rfl ?c1 ?c2 ?c3 ?_)|fail)
   case c1=>unfold maxLen;omega
   case c2=>omega
   case c3=>exact d6
   intro sr' cr' w10 H0 b3 j5;have g9:=Kh H0;have i3:=Kh (zE c9.out b3 (fun k e=>(g8.out.lt k e).1));clear H0 b3;go_wp2;go_roundg (letters-(row.length+1))
   case measure=>have:=b9.out;omega
   refine⟨row.length+1,row++[(x:Int)],sr',cr',yo,by go_num,yq,yq,fun a' h=>?_,?_,i3.out⟩
   ·rcases Nat.lt_or_ge a' row.length with h2|h2
    ·rw[List.getD_eq_getElem?_getD,List.getElem?_append_left h2,<-List.getD_eq_getElem?_getD]
     exact g7.out a' h2
    have e:a'=row.length:=yo
    subst e;rw[List.getD_eq_getElem?_getD,List.getElem?_append_right (Nat.le_refl _)];simpa using q4.out
   rw[show ints (row++[(x:Int)])=ints row++[.int .i64 (x:Int)] by simp[ints],List.length_append,List.length_singleton];exact g9.out
  have j1:row.length=letters:=by have:=b9.out;omega
  have hH:=HF.out.grow a4.out;have p6:=Kh (g5.out.kept a4.out yq);have q9:=Kh (n2.out.kept a4.out yq);have n4:P+1<=w9.heap.size:=Nat.le_of_lt (zS HF.out.box);have a9:=xO H3.out n4
  have b4:∀i (hi:i<hs.length),∀k,hs[i].ownBlock=some k->(Value.slice sr row.length cr).ownBlock≠some k:=fun i hi k hk e=>by
   have h1:=(HF.out.rows.lt hi hk).2;have h2:=(H3.out.lt k e).1;omega
  have i4:=Kh b4;obtain⟨d0,d1,d2,d3⟩:=zM hH.box;have r2:=zS hH.box;have o0:=g5.out.lt;obtain⟨H4,p8,m1⟩:=Kc hH a9 j1;have q1:=Kh (zE m6.out a4.out);have q5:=Kh (zD n0.out a4.out);clear hH a9 j1 b4 d0 d1 d2 H3 a4 HF g5 m6 n0;have p9:=Kh H4.out.ownN;go_wp2_with (first|(at_builtin;refine app1 rfl _ _ _ rfl xT (P+1) _ t.length hs rfl p9.out _ rfl rfl ?c1 ?c2 ?c3 ?_)|fail)
  case c1=>have:=H6.out;unfold maxLen;omega
  case c2=>have:=H6.out;omega
  case c3=>omega
  intro sn' cn' w11 h9 h8 j4;have a2:=zD H4.out.box h8 (fun e=>zR H4.out.ownN H4.out.box jd e);obtain⟨d0,d1,d2,d3⟩:=zM a2;have f2:=zB a2 3;obtain⟨hN,o3⟩:=H4.out.pushN h9 h8 p8.out i4.out rfl;have k6:=(p6.out.kept h8 (fun k e=>by have:=(H4.out.ownN.lt k e).1;omega)).kept (zH w11 ⟨P+1,3,none⟩ (.slice sn' (t.length+1) cn')) (fun k e=>by have e:P+1=k:=Oj e;omega);have k3:=zD (zD q5.out h8 (fun e=>by have:=(H4.out.ownN.lt _ e).1;omega)) (zH w11 ⟨P+1,3,none⟩ (.slice sn' (t.length+1) cn'));have l3:=(q9.out.keptOwn H4.out.ownN jd h8).kept (zH w11 ⟨P+1,3,none⟩ (.slice sn' (t.length+1) cn')) (by simp;omega);have b0:w.grownBy (w11.setCell ⟨P+1,3,none⟩ (.slice sn' (t.length+1) cn')) (some tb):=zE (zE q1.out h8 (fun k e=>by have:=(H4.out.ownN.lt k e).1;have:=H7.out;omega)) (zH w11 ⟨P+1,3,none⟩ (.slice sn' (t.length+1) cn')) (fun k e=>by have e:P+1=k:=Oj e;have:=H7.out;omega);obtain⟨b8,g4,i5,i2,i7⟩:=Ke hN k6 k3 b0 l3;clear o3 a2 hN k6 k3 b0 l3 h9 h8;go_wp2;go_roundg (N-(fs.length+1))
  case measure=>have:=HG.out;omega
  refine⟨fs.length+1,fs++[decide (b=1)],t++[row],_,sa',sc',sn',cn',yo,by go_num,yq,by simp[H6.out],?_,?_,b8.out,g4.out,i5.out,i7.out,i2.out⟩
  ·intro r hr
   rcases List.mem_append.1 hr with hr|hr
   ·exact m2.out r hr
   rw[List.mem_singleton]at hr;subst hr;refine⟨m1.out,fun x hx=>?_⟩;obtain⟨a,c6,rfl⟩:=List.getElem_of_mem hx;have hd:=g7.out a c6;have e:r.getD a 0=r[a]:=by simp[List.getD_eq_getElem?_getD,c6]
   rw[e]at hd;exact⟨hd.1,by rw[H8.out];exact hd.2.1⟩
  intro q' a h3 h4;unfold ent;rcases Nat.lt_or_ge q' fs.length with h5|h5
  ·have h6:q'<t.length:=by rw[H6.out];exact h5
   rw[List.getD_eq_getElem?_getD (l:=t++[row]),List.getElem?_append_left h6,<-List.getD_eq_getElem?_getD];exact m9.out q' a h5 h4
  have h6:q'=t.length:=by have:=H6.out;omega
  subst h6;rw[List.getD_eq_getElem?_getD (l:=t++[row]),List.getElem?_append_right (Nat.le_refl _),H6.out,<-l5.out];simpa using g7.out a (by rw[m1.out];exact h4)
 have a7:fs.length=N:=by have:=HG.out;omega
 have hB:=HH.out;have a5:=H6.out;have q3:=Kh a7;have q6:=Kh hB;obtain⟨d0,d1,d2,d3⟩:=zM HH.out.box;obtain⟨e0,e1,e2,e3⟩:=zM h0.out;have f0:=zB h0.out 0;have f1:=zB h0.out 1;have f2:=zB h0.out 2;have f3:=zB h0.out 3;clear hB a7 a5;go_wp2;refine bodyPost_ret (v:=.agg #[.int .i64 letters,.int .i64 0,.slice sf fs.length cf,.slice sn t.length cn]) (by simp[results,Tryz.results17,go_sem,e0,e1,e2,e3]) rfl ?_;obtain⟨r6,e8⟩:=vS h0.out (.int .i64 letters) (.int .i64 0) (.slice sf fs.length cf) (.slice sn t.length cn);have n5:=c8.out.lt;have a7:=q3.out;have a5:=H6.out;refine⟨_,⟨letters,0,fs,t⟩,N,rfl,⟨P+1,hs,sf,cf,sn,cn,rfl,by have:=H7.out;omega,(q6.out.base (by have:=H7.out;omega)).far e8 h0.out yo⟩,m2.out.vd h1 yo p2 yo a7 (a5.trans a7) yo yo,p1,⟨rfl,fun k hk=>?_⟩,c8.out.kept e8 (fun k e=>by have e:P=k:=Oj e;omega),yM i1.out e8 (by show _<=P;have:=H7.out;omega)⟩;have hk:letters=k:=Int.ofNat.inj hk;subst hk;refine⟨most,d9,d8,by rw[<-b7.out];exact H8.out,fun q a hq3 c6=>?_⟩;rw[<-b7.out];exact m9.out q a (by rw[a7];exact hq3) c6
def AnyD (m:DfaV)(n:Nat):Prop:=OrdD m n\/qEL m n\/DefD m n\/True
theorem aW.r {B tb:Nat}{w:World}{w':World}(h:aW B tb w letters most e w'):iG (fun _ _=>True) B tb w letters most e w':=by
 obtain⟨v,m,n,h1,h2,h3,h4,h6,h7⟩:=h;exact⟨v,m,n,h1,h2,h3,h4,trivial,h6,h7⟩
theorem qNW (B tb:Nat)(w:World)(letters most:Nat)(h1:1<=letters)(h2:letters<=2)(a9:1<=most)(hm:most<=500)(hT:wJ B w tb):Calls Tryz.prog 6 #[.pointer (some ⟨tb,0,none⟩),.int .i64 (letters:Int),.int .i64 (most:Int)] w (iG AnyD B tb w letters 500):=by
 have H9:=hT.lt;have b1:=hT.ge;obtain⟨P,hP⟩:=Nm w.heap.size;have h8:=Kh hP;obtain⟨wA,H0⟩:=Nm (w.alloc (.cells #[.int .i64 0,.int .i64 0,.slice none 0 0,.slice none 0 0] 29));have h6:=heap_alloc_new w (.cells #[.int .i64 0,.int .i64 0,.slice none 0 0,.slice none 0 0] 29);have h4:=Ga w (.cells #[.int .i64 0,.int .i64 0,.slice none 0 0,.slice none 0 0] 29) none;have H1:=zW w (.cells #[.int .i64 0,.int .i64 0,.slice none 0 0,.slice none 0 0] 29);rw[<-H0]at h6 h4 H1;rw[<-hP]at h6 H1 H9;have H6:=Kh (hT.kept h4 yq);obtain⟨H7,a2,a1⟩:=Kc h6 h4 H0;clear h6 h4 H0 hT;go_enter Tryz.func6,Tryz.ntmps6;go_upto_region 1 with fail;rw[<-a1.out,<-h8.out];clear hP;go_wp2_with fail;refine(uS B tb _ _ yo H6.out).mono ?_;rintro e w1 ⟨r,rfl,a7,H2,H5,h5⟩;replace H2:=H2 yo;have a4:=Kh (zD H7.out h5 (by simp;omega));have a3:=Kh (zI (zE (zX w (some tb)) a2.out) h5);have h3:=Kh H5;have a5:=h5.size;clear H5 h5 H6 H7
 have fin:∀(R:DfaV->Nat->Prop) (mo:Nat) (e:Ending) (w2:World),(∀m n,R m n->AnyD m n)->mo<=500->iG R B tb w1 letters mo e w2->∃(v:Value) (y0 y1:Int) (y2 y3:Option Addr) (n2 n3 c2 c3:Nat),e=.returned v/\v=.agg #[.int .i64 y0,.int .i64 y1,.slice y2 n2 c2,.slice y3 n3 c3]/\w2.cell? ⟨P,0,none⟩=some (.int .i64 0)/\w2.cell? ⟨P,1,none⟩=some (.int .i64 0)/\w2.cell? ⟨P,2,none⟩=some (.slice none 0 0)/\w2.cell? ⟨P,3,none⟩=some (.slice none 0 0)/\(∀k,w2.frozen? ⟨P,k,none⟩=false)/\iG AnyD B tb w letters 500 (.returned v) ((((w2.setCell ⟨P,0,none⟩ (.int .i64 y0)).setCell ⟨P,1,none⟩ (.int .i64 y1)).setCell ⟨P,2,none⟩ (.slice y2 n2 c2)).setCell ⟨P,3,none⟩ (.slice y3 n3 c3)):=by
  intro R mo e w2 hR b0 h;obtain⟨v,m,n,rfl,⟨o,hs,sf,cf,sn,cn,rfl,ho,hH⟩,H8,a8,hr,a0,H4⟩:=h;have h7:=zD a4.out H4 (by simp;omega);obtain⟨d0,d1,d2,d3⟩:=zM h7;obtain⟨a6,h9⟩:=vS h7 (.int .i64 m.letters) (.int .i64 m.start) (.slice sf m.final.length cf) (.slice sn m.next.length cn);refine⟨_,_,_,_,_,_,_,_,_,rfl,rfl,d0,d1,d2,d3,fun k=>zB h7 k,_,m,n,rfl,⟨o,hs,sf,cf,sn,cn,rfl,by have:=h8.out;omega,(hH.base (by have:=h8.out;omega)).far h9 h7 yo⟩,H8,yo,hR m n hr,a0.kept h9 (fun k e=>by have e:P=k:=Oj e;omega),yM (zI a3.out H4) h9 (by show _<=P;have:=h8.out;omega)⟩
 have h0:=Kh fin;clear fin;by_cases e1:r=1
 ·subst e1
  go_wp2_with fail;refine(qNP B tb w1 letters most h1 yo a9 hm h3.out).mono ?_;intro e w2 h;obtain⟨v,y0,y1,y2,y3,n2,n3,q2,q3,rfl,rfl,c0,c1,c2,c3,fz,hD⟩:=h0.out OrdD most e w2 (fun _ _ h=>.inl h) hm h;have f0:=fz 0;have f1:=fz 1;have f2:=fz 2;have f3:=fz 3;have HD:=Kh hD;clear hD fz h;go_wp2;refine bodyPost_ret (v:=.agg #[.int .i64 y0,.int .i64 y1,.slice y2 n2 q2,.slice y3 n3 q3]) (by simp[results,Tryz.results6,go_sem,c0,c1,c2,c3]) rfl ?_;exact HD.out
 by_cases e2:r=2
 ·subst e2
  rcases Nat.lt_trichotomy most 4 with hm4|hm4|hm4
  ·have q1:(most:Int)<4:=yo
   have q2:¬(4:Int)<most:=yo;have q3:(most:Int)<=4:=yo
   have H3:min (most:Int) 4=(most:Int):=yo
   have HC:=Kh (eB B tb w1 letters most h1 yo a9 hm h3.out);go_wp2_with fail;refine HC.out.mono ?_;intro e w2 h;obtain⟨v,y0,y1,y2,y3,n2,n3,q2,q3,rfl,rfl,c0,c1,c2,c3,fz,hD⟩:=h0.out qEL most e w2 (fun _ _ h=>.inr (.inl h)) yo h;have f0:=fz 0;have f1:=fz 1;have f2:=fz 2;have f3:=fz 3;have HD:=Kh hD;clear hD fz h;go_wp2;refine bodyPost_ret (v:=.agg #[.int .i64 y0,.int .i64 y1,.slice y2 n2 q2,.slice y3 n3 q3]) (by simp[results,Tryz.results6,go_sem,c0,c1,c2,c3]) rfl ?_;exact HD.out
  ·subst hm4
   have H3:min ((4:Nat):Int) 4=(4:Int):=yo
   have HC:Hid (Calls Tryz.prog 16 #[.pointer (some ⟨tb,0,none⟩),.int .i64 (letters:Int),.int .i64 4] w1 (iG qEL B tb w1 letters 4)):=Kh (eB B tb w1 letters 4 h1 yo yo yo h3.out);go_wp2_with fail;refine HC.out.mono ?_;intro e w2 h;obtain⟨v,y0,y1,y2,y3,n2,n3,q2,q3,rfl,rfl,c0,c1,c2,c3,fz,hD⟩:=h0.out qEL 4 e w2 (fun _ _ h=>.inr (.inl h)) yo h;have f0:=fz 0;have f1:=fz 1;have f2:=fz 2;have f3:=fz 3;have HD:=Kh hD;clear hD fz h;go_wp2;refine bodyPost_ret (v:=.agg #[.int .i64 y0,.int .i64 y1,.slice y2 n2 q2,.slice y3 n3 q3]) (by simp[results,Tryz.results6,go_sem,c0,c1,c2,c3]) rfl ?_;exact HD.out
  have q1:¬(most:Int)<4:=yo
  have q3:(4:Int)<most:=yo;have q4:(4:Int)<=most:=yo
  have q5:¬(most:Int)<=4:=yo
  have H3:min (most:Int) 4=(4:Int):=yo
  have HC:Hid (Calls Tryz.prog 16 #[.pointer (some ⟨tb,0,none⟩),.int .i64 (letters:Int),.int .i64 4] w1 (iG qEL B tb w1 letters 4)):=Kh (eB B tb w1 letters 4 h1 yo yo yo h3.out);go_wp2_with fail;refine HC.out.mono ?_;intro e w2 h;obtain⟨v,y0,y1,y2,y3,n2,n3,q2,q3,rfl,rfl,c0,c1,c2,c3,fz,hD⟩:=h0.out qEL 4 e w2 (fun _ _ h=>.inr (.inl h)) yo h;have f0:=fz 0;have f1:=fz 1;have f2:=fz 2;have f3:=fz 3;have HD:=Kh hD;clear hD fz h;go_wp2;refine bodyPost_ret (v:=.agg #[.int .i64 y0,.int .i64 y1,.slice y2 n2 q2,.slice y3 n3 q3]) (by simp[results,Tryz.results6,go_sem,c0,c1,c2,c3]) rfl ?_;exact HD.out
 by_cases e3:r=3
 ·subst e3
  go_wp2_with fail;refine(qNU B tb w1 letters h1 h2 h3.out).mono ?_;intro e w2 h;obtain⟨v,y0,y1,y2,y3,n2,n3,q2,q3,rfl,rfl,c0,c1,c2,c3,fz,hD⟩:=h0.out DefD 7 e w2 (fun _ _ h=>.inr (.inr (.inl h))) yo h;have f0:=fz 0;have f1:=fz 1;have f2:=fz 2;have f3:=fz 3;have HD:=Kh hD;clear hD fz h;go_wp2;refine bodyPost_ret (v:=.agg #[.int .i64 y0,.int .i64 y1,.slice y2 n2 q2,.slice y3 n3 q3]) (by simp[results,Tryz.results6,go_sem,c0,c1,c2,c3]) rfl ?_;exact HD.out
 go_wp2_with fail;refine(qFG B tb w1 letters most h1 yo a9 hm h3.out).mono ?_;intro e w2 h;obtain⟨v,y0,y1,y2,y3,n2,n3,q2,q3,rfl,rfl,c0,c1,c2,c3,fz,hD⟩:=h0.out (fun _ _=>True) most e w2 (fun _ _ _=>.inr (.inr (.inr trivial))) hm h.r;have f0:=fz 0;have f1:=fz 1;have f2:=fz 2;have f3:=fz 3;have HD:=Kh hD;clear hD fz h;go_wp2;refine bodyPost_ret (v:=.agg #[.int .i64 y0,.int .i64 y1,.slice y2 n2 q2,.slice y3 n3 q3]) (by simp[results,Tryz.results6,go_sem,c0,c1,c2,c3]) rfl ?_;exact HD.out
def emp (w:World):World:={ w with heap:=#[] }
theorem qBT {w w':World}{row:Option Nat}(h:w.grownBy w' row):(emp w).grownBy w' none :=
 ⟨h.os,h.tape,h.output,Nat.zero_le _,fun k hk=>absurd hk (by simp[emp])⟩
structure CdS (A B o tb ty:Nat)(wS:World)(rs:List RowS)(c:Array Value)(w:World):Prop where
 box:BoxS B (fun _=>False) o ty (emp wS) w rs c w
 tape:wJ A w tb
 tlt:tb<wS.heap.size/\wS.heap.size<=B/\wS.heap.size<=o
 grown:wS.grownBy w (some tb)
section
variable {A B o tb ty:Nat} {wS w w':World} {rs:List RowS} {c:Array Value}
theorem CdS.grow (h:CdS A B o tb ty wS rs c w)(hg:w.grownBy w' none):CdS A B o tb ty wS rs c w' :=
 ⟨(h.box.grow hg).rebase,h.tape.kept hg yq,h.tlt,zI h.grown (vM hg)⟩
theorem CdS.next (h:CdS A B o tb ty wS rs c w)(hg:w.grownBy w' (some tb))(hT:wJ A w' tb):CdS A B o tb ty wS rs c w':=by
 have ht:=h.tlt
 have h0:∀r∈rs,r.v.ownBlock≠some tb:=fun r hr e=>by
  have h1:=((h.box.own hr).lt tb e).1;rw[(h.box.typ r hr).1]at h1;omega
 refine⟨⟨h.box.mem.far hg h0,h.box.typ,zD h.box.box hg (fun e=>by have e:=Oj e;omega),fun h=>h,h.box.size,h.box.old,Nat.le_trans h.box.base hg.size,?_,wG.refl _ _,Nat.le_refl _⟩,hT,ht,zI h.grown hg⟩;exact qBT (zI h.grown hg)
theorem CdS.app (h:CdS A B o tb ty wS rs c w){j:Nat}{r:RowS}(hr:rs[j]?=some r){v':Value}{n':Nat}{us:List Value}(ho:w'.ownsRow r.base r.e r.sz v' n' (r.xs++us))(hg:w.grownBy w' r.v.ownBlock)(hm:nW w w' r.v v'):CdS A B o tb ty wS (rs.set j ⟨r.base,r.e,v',n',r.xs++us,r.sz⟩) c w':=by
 have ht:=h.tlt;have hB:=h.box.appAt hr ho hg hm
 have h0:∀k,r.v.ownBlock=some k->B<=k:=fun k hk=>by
  have h1:=((h.box.own (List.mem_of_getElem? hr)).lt k hk).1;rw[(h.box.typ r (List.mem_of_getElem? hr)).1]at h1;exact h1
 refine⟨hB.rebase,h.tape.kept hg (fun k e=>?_),ht,zE h.grown hg (fun k e=>Nat.le_trans ht.2.1 (h0 k e))⟩;have h1:=h0 k e;have h2:=h.tape.ge;omega
theorem CdS.set (h:CdS A B o tb ty wS rs c w)(f:Nat)(u:Value):CdS A B o tb ty wS rs (c.setIfInBounds f u) (w.setCell ⟨o,f,none⟩ u):=by
 have ht:=h.tlt;have hg:=zH w ⟨o,f,none⟩ u;refine⟨(h.box.set f u).rebase,h.tape.kept hg (fun k e=>?_),ht,yM h.grown hg (by show _<=o;omega)⟩;have e:o=k:=Oj e;have h2:=h.tape.ge;omega
end
open Go.Maps
theorem qRN {e1:Value}{A B o tb:Nat}{wS w:World}(h:CdS A B o tb 35 wS [⟨B,3,.slice sI m cI,m,ints is,1⟩,⟨B,3,.slice sP m cP,m,ints ps,1⟩,⟨B,4,.slice sA q cA,q,bls bs,1⟩] #[.slice sI m cI,.slice sP m cP,.slice sA q cA] w)(hm:m<=100)(a9:∀(z14 z15 z16 z17 z18 z19 z20 z21 z22 z23 z24 z25 z26 z27 z28:Value) (sI2 sP2:Option Addr) (cI2 cP2:Nat) (y z:Int) (w':World),0<=y->y<3->0<=z->z<3->CdS A B o tb 35 wS [⟨B,3,.slice sI2 (m+1) cI2,(m+1),ints (is++[y]),1⟩,⟨B,3,.slice sP2 (m+1) cP2,(m+1),ints (ps++[1+z]),1⟩,⟨B,4,.slice sA q cA,q,bls bs,1⟩] #[.slice sI2 (m+1) cI2,.slice sP2 (m+1) cP2,.slice sA q cA] w'->Q .normal ⟨((Value.pointer (some ⟨tb,0,none⟩))::v1::v2::v3::v4::(Value.pointer (some ⟨o,0,none⟩))::v6::v7::v8::v9::d7::d8::d9::c0::z14::z15::z16::z17::z18::z19::z20::z21::z22::z23::z24::z25::z26::z27::z28::c2::c3::c4::c5::c6::c7::c8::c9::b0::b1::b2::b3::b4::b5::b6::b7::b8::b9::a0::a1::a2::a3::a4::a5::a6::a7::a8::[]).toArray,[]⟩ w'):Code.wp Tryz.prog (reg Tryz.f8 6) Q ⟨((Value.pointer (some ⟨tb,0,none⟩))::v1::v2::v3::v4::(Value.pointer (some ⟨o,0,none⟩))::v6::v7::v8::v9::d7::d8::d9::c0::e1::e2::e3::e4::e5::e6::e7::e9::d0::d1::d2::d3::d4::d5::d6::c2::c3::c4::c5::c6::c7::c8::c9::b0::b1::b2::b3::b4::b5::b6::b7::b8::b9::a0::a1::a2::a3::a4::a5::a6::a7::a8::[]).toArray,[]⟩ w:=by
 conv=>arg 2;whnf
 obtain⟨w7,H1⟩:=Nm w.drew;have H5:w.grownBy w7 none:=by rw[H1];exact zY w none
 have H8:=Kh H1;have H:=Kh (h.grow H5);have HE:=Kh a9
 have C:Hid (w7.cell? ⟨o,0,none⟩=some (.slice sI m cI)/\w7.cell? ⟨o,1,none⟩=some (.slice sP m cP)):=Kh (by
  have q:=xZ H.out.box.box
  exact⟨q.1,q.2.1⟩)
 clear H1 H5 h a9;refine wp_region_noPanic ?_;refine yI (G:=xM 14 (fun _=>True) (fun W=>W.cell? ⟨o,0,none⟩=some (.slice sI m cI)/\W.cell? ⟨o,1,none⟩=some (.slice sP m cP))) yk ?_;rw[<-H8.out];refine xD 0 ?_;refine xD 1 ?_;refine xD 2 ?_;refine xD 6 ?_;refine xD 7 ?_;refine zP 8 ?_;refine jg 3 fun K hK=>?_;go_simp
 go_at_call 5
 refine(uS A tb w7 3 yo H.out.tape).mono ?_;rintro e w8 ⟨y,rfl,H7,H0,h8,h7⟩;replace H0:=H0 yo;have H:=Kh (H.out.next h7 h8);clear h8 h7
 have C:Hid (w8.cell? ⟨o,0,none⟩=some (.slice sI m cI)/\w8.cell? ⟨o,1,none⟩=some (.slice sP m cP)):=Kh (by
  have q:=xZ H.out.box.box
  exact⟨q.1,q.2.1⟩)
 refine hK.out _ _ ⟨trivial,fun _=>C.out⟩ ?_;clear hK K
 try simp only[Act.put,sPd,sPe,sPf,sPa,sPb,sPc]
 have h4:=Ga w8 (.cells #[.int .i64 y] 3) none;have h2:=heap_alloc_new w8 (.cells #[.int .i64 y] 3);obtain⟨X1,hX⟩:=Nm w8.heap.size;obtain⟨w9,h3⟩:=Nm (w8.alloc (.cells #[.int .i64 y] 3));rw[<-h3]at h4 h2;rw[<-hX]at h2;have H3:=Kh h3;have H2:=Kh hX;have H:=Kh (H.out.grow h4);have H4:=Kh h2
 have C:Hid (w9.cell? ⟨o,0,none⟩=some (.slice sI m cI)/\w9.cell? ⟨o,1,none⟩=some (.slice sP m cP)):=Kh (by
  have q:=xZ H.out.box.box
  exact⟨q.1,q.2.1⟩)
 clear h4 h2 hX h3;refine jg 4 fun K hK=>?_;go_simp;rw[<-H3.out,<-H2.out];refine hK.out _ _ ⟨trivial,fun _=>C.out⟩ ?_;clear hK K
 try simp only[Act.put,sPd,sPe,sPf,sPa,sPb,sPc]
 have h1:=H.out.box.own (r:=⟨B,3,.slice sI m cI,m,ints is,1⟩) yq;simp only at h1;have hz:=H.out.box.base;refine jg 5 fun K hK=>?_;refine tP rfl (.tmp 15) (.tmp 18) 22 rfl yJ.toN B (.slice sI m cI) m _ rfl h1 [.int .i64 y] X1 rfl (0,0) rfl H4.out ?z1 ?z2 ?z3 hz ?_
 case z1=>intro v hv;simp only[List.mem_cons,List.not_mem_nil,or_false]at hv;subst hv;rfl
 case z2=>unfold maxLen;omega
 case z3=>omega
 intro sI2 cI2 w10 h0 h6 h5;have H:=Kh (H.out.app (j:=0) rfl h0 h6 h5);clear h1 h0 h6 h5 hz
 have C:Hid (w10.cell? ⟨o,0,none⟩=some (.slice sI m cI)/\w10.cell? ⟨o,1,none⟩=some (.slice sP m cP)):=Kh (by
  have q:=xZ H.out.box.box
  exact⟨q.1,q.2.1⟩)
 refine hK.out _ _ ⟨trivial,fun _=>C.out⟩ ?_;clear hK K
 try simp only[Act.put,sPd,sPe,sPf,sPa,sPb,sPc]
 refine xD 13 ?_;refine jg 9 fun K hK=>?_;go_simp
 go_at_call 5
 refine(uS A tb w10 3 yo H.out.tape).mono ?_;rintro e w11 ⟨z,rfl,H6,h9,h8,h7⟩;replace h9:=h9 yo;have H:=Kh (H.out.next h7 h8);clear h8 h7
 have C:Hid (w11.cell? ⟨o,0,none⟩=some (.slice sI m cI)/\w11.cell? ⟨o,1,none⟩=some (.slice sP m cP)):=Kh (by
  have q:=xZ H.out.box.box
  exact⟨q.1,q.2.1⟩)
 refine hK.out _ _ ⟨trivial,fun _=>C.out⟩ ?_;clear hK K
 try simp only[Act.put,sPd,sPe,sPf,sPa,sPb,sPc]
 have e8:IntKind.i64.wrap (1+z)=1+z:=wK yo;refine zP 10 ?_;have h4:=Ga w11 (.cells #[.int .i64 (1+z)] 3) none;have h2:=heap_alloc_new w11 (.cells #[.int .i64 (1+z)] 3);obtain⟨X2,hX⟩:=Nm w11.heap.size;obtain⟨w12,h3⟩:=Nm (w11.alloc (.cells #[.int .i64 (1+z)] 3));rw[<-h3]at h4 h2;rw[<-hX]at h2;have H3:=Kh h3;have H2:=Kh hX;have H:=Kh (H.out.grow h4);have H4:=Kh h2
 have C:Hid (w12.cell? ⟨o,0,none⟩=some (.slice sI m cI)/\w12.cell? ⟨o,1,none⟩=some (.slice sP m cP)):=Kh (by
  have q:=xZ H.out.box.box
  exact⟨q.1,q.2.1⟩)
 clear h4 h2 hX h3;refine jg 11 fun K hK=>?_;go_simp;rw[<-H3.out,<-H2.out];refine hK.out _ _ ⟨trivial,fun _=>C.out⟩ ?_;clear hK K
 try simp only[Act.put,sPd,sPe,sPf,sPa,sPb,sPc]
 have h1:=H.out.box.own (r:=⟨B,3,.slice sP m cP,m,ints ps,1⟩) yq;simp only at h1;have hz:=H.out.box.base;refine jg 12 fun K hK=>?_;refine tP rfl (.tmp 21) (.tmp 25) 22 rfl yJ.toN B (.slice sP m cP) m _ rfl h1 [.int .i64 (1+z)] X2 rfl (0,0) rfl H4.out ?z1 ?z2 ?z3 hz ?_
 case z1=>intro v hv;simp only[List.mem_cons,List.not_mem_nil,or_false]at hv;subst hv;rfl
 case z2=>unfold maxLen;omega
 case z3=>omega
 intro sP2 cP2 w13 h0 h6 h5;have H:=Kh (H.out.app (j:=1) rfl h0 h6 h5);clear h1 h0 h6 h5 hz
 have C:Hid (w13.cell? ⟨o,0,none⟩=some (.slice sI m cI)/\w13.cell? ⟨o,1,none⟩=some (.slice sP m cP)):=Kh (by
  have q:=xZ H.out.box.box
  exact⟨q.1,q.2.1⟩)
 refine hK.out _ _ ⟨trivial,fun _=>C.out⟩ ?_;clear hK K
 try simp only[Act.put,sPd,sPe,sPf,sPa,sPb,sPc]
 have c1:=C.out;have f1:=zB H.out.box.box 0;have cc:=(xZ H.out.box.box).1;have H:=Kh (H.out.set 0 (.slice sI2 (m+1) cI2));refine jg 14 fun K hK=>?_;go_simp;refine hK.out _ _ ⟨trivial,fun h=>by simp at h⟩ ?_;clear hK K
 try simp only[Act.put,sPd,sPe,sPf,sPa,sPb,sPc]
 clear c1 f1 cc;refine jg 15 fun K hK=>?_;go_simp;refine hK.out _ _ ⟨trivial,fun h=>by simp at h⟩ ?_;clear hK K
 try simp only[Act.put,sPd,sPe,sPf,sPa,sPb,sPc]
 have c1:=(xZ H.out.box.box);have f1:=zB H.out.box.box 1;have cc:=(xZ H.out.box.box).2.1;have H:=Kh (H.out.set 1 (.slice sP2 (m+1) cP2));refine jg 16 fun K hK=>?_;go_simp;refine hK.out _ _ ⟨trivial,fun h=>by simp at h⟩ ?_;clear hK K
 try simp only[Act.put,sPd,sPe,sPf,sPa,sPb,sPc]
 clear c1 f1 cc;have H:=H.out;simp only[List.set_cons_zero,List.set_cons_succ,List.setIfInBounds_toArray]at H;rw[show ints is++[Value.int .i64 y]=ints (is++[y]) by simp[ints],show ints ps++[Value.int .i64 (1+z)]=ints (ps++[1+z]) by simp[ints]]at H;refine uY yk ?_ _;refine NoPanic.normal ?_;exact HE.out _ _ _ _ _ _ _ _ _ _ _ _ _ _ _  sI2 sP2 cI2 cP2 y z _ H7 H0 H6 h9 H
theorem qNV {e8:Value}{A B o tb:Nat}{wS w:World}(h:CdS A B o tb 35 wS [⟨B,3,.slice sI m cI,m,ints is,1⟩,⟨B,3,.slice sP m cP,m,ints ps,1⟩,⟨B,4,.slice sA q cA,q,bls bs,1⟩] #[.slice sI m cI,.slice sP m cP,.slice sA q cA] w)(hq:q<=4000)(a9:∀(z47 z48 z49 z50 z51 z52 z53 z54:Value) (sA2:Option Addr) (cA2:Nat) (b:Bool) (w':World),CdS A B o tb 35 wS [⟨B,3,.slice sI m cI,m,ints is,1⟩,⟨B,3,.slice sP m cP,m,ints ps,1⟩,⟨B,4,.slice sA2 (q+1) cA2,(q+1),bls (bs++[b]),1⟩] #[.slice sI m cI,.slice sP m cP,.slice sA2 (q+1) cA2] w'->Q .normal ⟨((Value.pointer (some ⟨tb,0,none⟩))::v1::v2::v3::v4::(Value.pointer (some ⟨o,0,none⟩))::v6::v7::v8::v9::d0::d1::d2::d3::d4::d5::d6::d7::d8::d9::c0::c2::c3::c4::c5::c6::c7::c8::c9::b0::b1::b2::b3::b4::b5::b6::b7::b8::b9::a0::a1::a2::a3::a4::a5::a6::a7::z47::z48::z49::z50::z51::z52::z53::z54::a8::[]).toArray,[]⟩ w'):Code.wp Tryz.prog (reg Tryz.f8 11) Q ⟨((Value.pointer (some ⟨tb,0,none⟩))::v1::v2::v3::v4::(Value.pointer (some ⟨o,0,none⟩))::v6::v7::v8::v9::d0::d1::d2::d3::d4::d5::d6::d7::d8::d9::c0::c2::c3::c4::c5::c6::c7::c8::c9::b0::b1::b2::b3::b4::b5::b6::b7::b8::b9::a0::a1::a2::a3::a4::a5::a6::a7::e2::e3::e4::e5::e6::e7::e8::e9::a8::[]).toArray,[]⟩ w:=by
 conv=>arg 2;whnf
 obtain⟨w7,h4⟩:=Nm w.drew;have H0:w.grownBy w7 none:=by rw[h4];exact zY w none
 have H4:=Kh h4;have H:=Kh (h.grow H0);have HE:=Kh a9
 have C:Hid (w7.cell? ⟨o,2,none⟩=some (.slice sA q cA)):=Kh (by
  have q:=xZ H.out.box.box
  exact q.2.2)
 clear h4 H0 h a9;refine wp_region_noPanic ?_;refine yI (G:=xM 8 (fun _=>True) (fun W=>W.cell? ⟨o,2,none⟩=some (.slice sA q cA))) yk ?_;rw[<-H4.out];refine xD 0 ?_;refine xD 1 ?_;refine xD 2 ?_;refine jg 3 fun K hK=>?_;go_simp
 go_at_call 5
 refine(uS A tb w7 2 yo H.out.tape).mono ?_;rintro e w8 ⟨y,rfl,H6,h6,H1,h9⟩;replace h6:=h6 yo;have H:=Kh (H.out.next h9 H1);clear H1 h9
 have C:Hid (w8.cell? ⟨o,2,none⟩=some (.slice sA q cA)):=Kh (by
  have q:=xZ H.out.box.box
  exact q.2.2)
 refine hK.out _ _ ⟨trivial,fun _=>C.out⟩ ?_;clear hK K
 try simp only[Act.put,sPd,sPe,sPf,sPa,sPb,sPc]
 obtain⟨b,hb⟩:=Nm ((y == 1));have H8:(y == 1)=b:=hb.symm;have H7:decide (y=1)=b:=by rw[hb];rfl
 clear hb;refine xD 4 ?_;have h5:=Ga w8 (.cells #[.bool b] 4) none;have h2:=heap_alloc_new w8 (.cells #[.bool b] 4);obtain⟨X1,hX⟩:=Nm w8.heap.size;obtain⟨w9,h3⟩:=Nm (w8.alloc (.cells #[.bool b] 4));rw[<-h3]at h5 h2;rw[<-hX]at h2;have H3:=Kh h3;have H2:=Kh hX;have H:=Kh (H.out.grow h5);have H5:=Kh h2
 have C:Hid (w9.cell? ⟨o,2,none⟩=some (.slice sA q cA)):=Kh (by
  have q:=xZ H.out.box.box
  exact q.2.2)
 clear h5 h2 hX h3;refine jg 5 fun K hK=>?_;go_simp;rw[<-H3.out,<-H2.out];refine hK.out _ _ ⟨trivial,fun _=>C.out⟩ ?_;clear hK K
 try simp only[Act.put,sPd,sPe,sPf,sPa,sPb,sPc]
 have h1:=H.out.box.own (r:=⟨B,4,.slice sA q cA,q,bls bs,1⟩) yq;simp only at h1;have hz:=H.out.box.base;refine jg 6 fun K hK=>?_;refine tP rfl (.tmp 48) (.tmp 52) 26 rfl xK.toN B (.slice sA q cA) q _ rfl h1 [.bool b] X1 rfl (0,0) rfl H5.out ?z1 ?z2 ?z3 hz ?_
 case z1=>intro v hv;simp only[List.mem_cons,List.not_mem_nil,or_false]at hv;subst hv;rfl
 case z2=>unfold maxLen;omega
 case z3=>omega
 intro sA2 cA2 w10 h0 h8 h7;have H:=Kh (H.out.app (j:=2) rfl h0 h8 h7);clear h1 h0 h8 h7 hz
 have C:Hid (w10.cell? ⟨o,2,none⟩=some (.slice sA q cA)):=Kh (by
  have q:=xZ H.out.box.box
  exact q.2.2)
 refine hK.out _ _ ⟨trivial,fun _=>C.out⟩ ?_;clear hK K
 try simp only[Act.put,sPd,sPe,sPf,sPa,sPb,sPc]
 refine xD 7 ?_;have c1:=C.out;have f1:=zB H.out.box.box 2;have cc:=(xZ H.out.box.box).2.2;have H:=Kh (H.out.set 2 (.slice sA2 (q+1) cA2));refine jg 8 fun K hK=>?_;go_simp;refine hK.out _ _ ⟨trivial,fun h=>by simp at h⟩ ?_;clear hK K
 try simp only[Act.put,sPd,sPe,sPf,sPa,sPb,sPc]
 clear c1 f1 cc;have H:=H.out;simp only[List.set_cons_zero,List.set_cons_succ,List.setIfInBounds_toArray]at H;rw[show bls bs++[Value.bool b]=bls (bs++[b]) by simp[bls]]at H;refine uY yk ?_ _;refine NoPanic.normal ?_;exact HE.out _ _ _ _ _ _ _ _  sA2 cA2 b _ H
theorem cY {is ps is' ps':List Int}:∀ {a:Nat},(∀b,b<a->is.getD b 0=is'.getD b 0/\ps.getD b 0=ps'.getD b 0)->uD is ps a=uD is' ps' a
 | 0,_=>rfl
 | a+1,h=>by
  rw[uD,uD,cY (fun b hb=>h b yo),(h a yo).1,(h a yo).2]
theorem lO (hb:b<l.length):(l++[x]).getD b 0=l.getD b 0:=by
 rw[List.getD_eq_getElem?_getD,List.getElem?_append_left hb,<-List.getD_eq_getElem?_getD]
theorem qW (hb:b=l.length):(l++[x]).getD b 0=x:=by
 subst hb;simp[List.getD_eq_getElem?_getD]
structure DealC (is ps:List Int)(a c:Nat):Prop where
 l1:is.length=a
 l2:ps.length=a
 comb:uD is ps a=some c
 le:c<=5 ^ a
 bd:∀b,b<a->(0<=is.getD b 0/\is.getD b 0<3)/\1<=ps.getD b 0/\ps.getD b 0<=3
theorem DealC.add {a c y z:Nat}(h:DealC is ps a c)(ha:a<3)(hy:y<3)(hz:1<=z/\z<=3):DealC (is++[(y:Int)]) (ps++[(z:Int)]) (a+1) (c*(y+z)) where
 l1:=by simp[h.l1]
 l2:=by simp[h.l2]
 le:=by rw[Nat.pow_succ];exact Nat.mul_le_mul h.le yo
 comb:=by
  have h0:c*(y+z)<=5 ^ a*5:=Nat.mul_le_mul h.le yo;rw[<-Nat.pow_succ]at h0;have hp:5 ^ (a+1)<=5 ^ 3:=Nat.pow_le_pow_right yo yo
  have hc:uD (is++[(y:Int)]) (ps++[(z:Int)]) a=some c:=by
   rw[cY (is':=is) (ps':=ps) (fun b hb=>⟨lO (by rw[h.l1];exact hb),lO (by rw[h.l2];exact hb)⟩)];exact h.comb
  rw[iT hc (qW h.l1.symm) (qW h.l2.symm),if_neg yo]
 bd:=fun b hb=>by
  rcases Nat.lt_or_ge b a with h1|h1
  ·rw[lO (by rw[h.l1];exact h1),lO (by rw[h.l2];exact h1)];exact h.bd b h1
  ·have e:b=a:=yo
   rw[qW (by rw[h.l1];exact e),qW (by rw[h.l2];exact e)];omega
theorem DealC.ok {c:Nat}(h:DealC is ps k c)(h1:1<=k)(h3:k<=3)(hb:bs.length=c):CntOk ⟨is,ps,bs⟩ :=
 ⟨by rw[h.l1];exact h1,by rw[h.l1];omega,by rw[h.l1,h.l2],fun b hb=>by have:=h.bd b (by rw[<-h.l1];exact hb);exact⟨this.1.1,this.2.1⟩,by
  show uD is ps is.length=some bs.length
  rw[h.l1,hb];exact h.comb⟩
def qFV (A tb k:Nat)(w:World)(e:Ending)(w':World):Prop :=
 ∃c v,e=.returned v/\pK w'.heap.size w' v c/\CntOk c/\(c.idx.length=k/\c.acc.length<=5 ^ k)/\wJ A w' tb/\w.grownBy w' (some tb)
def qEN (A tb k:Nat)(w:World)(e:Ending)(w':World):Prop :=
 ∃(is ps:List Int) (bs:List Bool) (sI:Option Addr) (cI:Nat) (sP:Option Addr) (cP:Nat) (sA:Option Addr) (cA n B:Nat),e=.returned (.agg #[.slice sI k cI,.slice sP k cP,.slice sA n cA]) /\
  EMem (fun _=>False) w' [⟨B,3,.slice sI k cI,k,ints is,1⟩,⟨B,3,.slice sP k cP,k,ints ps,1⟩,⟨B,4,.slice sA n cA,n,bls bs,1⟩]/\w.heap.size<=B/\CntOk ⟨is,ps,bs⟩/\(is.length=k/\bs.length<=5 ^ k)/\wJ A w' tb/\w.grownBy w' (some tb)
theorem qEN.made {A tb:Nat}{w w':World}(h:qEN A tb k w e w'):qFV A tb k w e w':=by
 obtain⟨is,ps,bs,sI,cI,sP,cP,sA,cA,n,B,rfl,hM,hB,h0,hl,hT,hg⟩:=h;have h1:=hM.own ⟨B,3,.slice sI k cI,k,ints is,1⟩ yq;have h2:=hM.own ⟨B,3,.slice sP k cP,k,ints ps,1⟩ yq;have h3:=hM.own ⟨B,4,.slice sA n cA,n,bls bs,1⟩ yq;exact⟨⟨is,ps,bs⟩,_,rfl,⟨_,_,_,rfl,(RowT.of_owns h1).row,(RowT.of_owns h2).row,(RowT.of_owns h3).row⟩,h0,hl,hT,hg⟩
theorem qDX (A tb k:Nat)(w:World)(h1:1<=k)(h3:k<=3)(hT:wJ A w tb):Calls Tryz.prog 8 #[.pointer (some ⟨tb,0,none⟩),.int .i64 (k:Int)] w (qEN A tb k w):=by
 have H6:=hT.lt;obtain⟨w1,h4⟩:=Nm (w.alloc (.cells #[.slice none 0 0,.slice none 0 0,.slice none 0 0] 35));have g1:w.grownBy w1 none:=by rw[h4];exact Ga w _ none
 have n1:=heap_alloc_new w (.cells #[.slice none 0 0,.slice none 0 0,.slice none 0 0] 35);have H0:w1.heap.size=w.heap.size+1:=by rw[h4];simp
 rw[<-h4]at n1;obtain⟨w2,h6⟩:=Nm (w1.alloc (.cells #[.slice none 0 0,.slice none 0 0,.slice none 0 0] 35));have g2:w1.grownBy w2 none:=by rw[h6];exact Ga w1 _ none
 have n2:=heap_alloc_new w1 (.cells #[.slice none 0 0,.slice none 0 0,.slice none 0 0] 35);obtain⟨R,hR⟩:=Nm w.heap.size;obtain⟨o,ho⟩:=Nm w1.heap.size;rw[<-h6,<-ho]at n2;rw[<-hR]at n1;have H9:o=R+1:=yo
 have a9:BoxS w2.heap.size (fun _=>False) o 35 (emp w1) w2 [] #[.slice none 0 0,.slice none 0 0,.slice none 0 0] w2:=⟨⟨fun r hr=>by simp at hr,List.Pairwise.nil,fun r hr=>by simp at hr,fun k hk=>hk.elim⟩,fun r hr=>by simp at hr,n2,fun h=>h,Nat.zero_le _,Nat.zero_le _,Nat.le_refl _,qBT g2,wG.refl _ _,Nat.le_refl _⟩;obtain⟨B,hB⟩:=Nm w2.heap.size;have a5:wJ A w2 tb:=(hT.kept g1 yq).kept g2 yq
 have hS:CdS A B o tb 35 w1 [⟨B,3,.slice none 0 0,0,ints [],1⟩,⟨B,3,.slice none 0 0,0,ints [],1⟩,⟨B,4,.slice none 0 0,0,bls [],1⟩] #[.slice none 0 0,.slice none 0 0,.slice none 0 0] w2:=by
  rw[hB];exact⟨((a9.nil (e:=3) (sz:=1) jd).nil (e:=3) (sz:=1) jd).nil (e:=4) (sz:=1) jd,a5,⟨yo,g2.size,yo⟩,vM g2⟩
 have c4:Hid (∀W:World,w1.grownBy W (some tb)->W.heap[R]?=some (.cells #[.slice none 0 0,.slice none 0 0,.slice none 0 0] 35 (0,0))):=Kh (fun W hg=>zD n1 hg (fun e=>by have e:=Oj e;omega));obtain⟨c2,c1,b0,d4,b2,HS⟩:=Kf h4 h6 hR ho g1 hS;have c3:=Kh H6;have c8:=Kh hT.ge;have c5:=Kh H9;clear H9 h4 h6 hR ho g1 g2 n1 n2 H0 a9 hB a5 hS hT H6;go_enter Tryz.func8,Tryz.ntmps8;go_upto_region 2 with fail;rw[<-c2.out,<-b0.out,<-c1.out,<-c5.out];go_wp2
 go_loopg [6,7] k (fun gh a6 a7 wr=>∃(a c:Nat) (is ps:List Int) (sI sP:Option Addr) (cI cP:Nat),gh+a=k/\a7=.int .i64 a/\a6=.int .i64 (c:Int)/\DealC is ps a c/\CdS A B o tb 35 w1 [⟨B,3,.slice sI a cI,a,ints is,1⟩,⟨B,3,.slice sP a cP,a,ints ps,1⟩,⟨B,4,.slice none 0 0,0,bls [],1⟩] #[.slice sI a cI,.slice sP a cP,.slice none 0 0] wr)
 case atStart=>exact⟨0,1,[],[],none,none,0,0,rfl,rfl,rfl,⟨rfl,rfl,rfl,jd,fun b hb=>by omega⟩,HS.out⟩
 clear HS;obtain⟨a,c,is,ps,sI,sP,cI,cP,a1,rfl,rfl,hd,h5⟩:=hrel;obtain⟨h7,HD,h0⟩:=Kc a1 hd h5;clear a1 hd h5;by_cases ha:a<k
 ·have c0:(a:Int)<k:=yo
  go_upto_region 6 with fail;refine qRN h0.out yo ?_;intro z14 z15 z16 z17 z18 z19 z20 z21 z22 z23 z24 z25 z26 z27 z28 sI2 sP2 cI2 cP2 y z w8 b5 b4 b3 H0 h8;obtain⟨yn,rfl⟩:∃n:Nat,y=(n:Int):=⟨y.toNat,yo⟩;obtain⟨zn,ez⟩:∃n:Nat,1+z=(n:Int):=⟨(1+z).toNat,yo⟩;rw[ez]at h8;have hD:=HD.out.add (y:=yn) (z:=zn) yo yo yo;have H8:=Kh h8;have c7:=Kh hD;obtain⟨p0,p1,p2⟩:=xZ h8.box.box;have H2:=h8.box.own (r:=⟨B,3,.slice sI2 (a+1) cI2,a+1,ints (is++[(yn:Int)]),1⟩) yq;have H1:=h8.box.own (r:=⟨B,3,.slice sP2 (a+1) cP2,a+1,ints (ps++[(zn:Int)]),1⟩) yq;simp only at H2 H1;obtain⟨ib,io,ic,ei,_,i1,i2,ir⟩:=(Row.of_owns H2).some_ (by rw[zL,List.length_append,HD.out.l1];simp);obtain⟨pb,po,pc,ep,_,p1',p2',pr⟩:=(Row.of_owns H1).some_ (by rw[zL,List.length_append,HD.out.l2];simp);rw[zL,List.length_append,List.length_singleton,HD.out.l1]at ei i1;rw[zL,List.length_append,List.length_singleton,HD.out.l2]at ep p1';simp only[Value.slice.injEq,true_and]at ei ep;obtain⟨rfl,rfl⟩:=ei;obtain⟨rfl,rfl⟩:=ep;have ci:=ir.int a (by rw[List.length_append,HD.out.l1];simp);have cp:=pr.int a (by rw[List.length_append,HD.out.l2];simp);rw[qW HD.out.l1.symm]at ci;rw[qW HD.out.l2.symm]at cp;obtain⟨s,hs⟩:=Nm (yn+zn);rw[<-hs]at hD;have a3:c<=2000:=qO HD.out.comb;have e1:IntKind.i64.wrap ((yn:Int)+(zn:Int))=(s:Int):=by rw[hs];exact wK yo
  obtain⟨e2,e3,-⟩:=oY (c:=c) (r:=s) a3 yo;obtain⟨d,a2⟩:=Nm (c*s);rw[<-a2]at hD e2;have c6:=Kh hD;have d2:(a:Int)<((a+1:Nat):Int):=yo;unfold maxLen at i2 p2';clear e3 a2 hs hD c7 H2 H1 ir pr h8 b5 b4 b3 H0 ez p2;go_wp2
  go_quiet (fail)
  clear e1 e2;go_wp2;go_roundg (k-(a+1))
  case measure=>have:=h7.out;omega
  exact⟨a+1,d,_,_,some ⟨ib,io,none⟩,some ⟨pb,po,none⟩,cI2,cP2,by have:=h7.out;omega,by go_num,by go_num,c6.out,H8.out.grow (zT _ _ none)⟩
 have b9:k=a:=by have:=h7.out;omega
 have c0:¬(a:Int)<k:=yo;subst b9;clear h7;go_wp2
 go_loopg [8] c (fun gh a8 wx=>∃(q:Nat) (bs:List Bool) (sA:Option Addr) (cA:Nat),gh+q=c/\a8=.int .i64 q/\bs.length=q/\CdS A B o tb 35 w1 [⟨B,3,.slice sI k cI,k,ints is,1⟩,⟨B,3,.slice sP k cP,k,ints ps,1⟩,⟨B,4,.slice sA q cA,q,bls bs,1⟩] #[.slice sI k cI,.slice sP k cP,.slice sA q cA] wx)
 case atStart=>exact⟨0,[],none,0,rfl,by go_num,rfl,h0.out⟩
 clear h0;obtain⟨q,bs,sA,cA,a0,rfl,a4,h5⟩:=hrel;obtain⟨H4,H5,h0⟩:=Kc a0 a4 h5;have a3:c<=2000:=qO HD.out.comb;clear a0 a4 h5;by_cases hq:q<c
 ·have b6:(q:Int)<c:=yo
  go_upto_region 11 with fail;refine qNV h0.out yo ?_;intro z47 z48 z49 z50 z51 z52 z53 z54 sA2 cA2 b w8 h8;have H8:=Kh h8;clear h8 h0;go_wp2;go_roundg (c-(q+1))
  case measure=>have:=H4.out;omega
  exact⟨q+1,_,_,_,by have:=H4.out;omega,by go_num,by simp[H5.out],H8.out⟩
 have H7:c=q:=by have:=H4.out;omega
 have b6:¬(q:Int)<c:=yo;have b1:=Kh H7;obtain⟨p0,p1,p2⟩:=xZ h0.out.box.box;have h2:=Kh (c4.out _ h0.out.grown);obtain⟨r0,r1,r2⟩:=xZ h2.out;have f0:=zB h2.out 0;have f1:=zB h2.out 1;have f2:=zB h2.out 2;clear H7;go_wp2;refine bodyPost_ret (v:=.agg #[.slice sI k cI,.slice sP k cP,.slice sA q cA]) (by simp[results,Tryz.results8,go_sem,r0,r1,r2]) rfl ?_;obtain⟨d0,H3⟩:=pU h2.out (.slice sI k cI) (.slice sP k cP) (.slice sA q cA)
 have hM:=h0.out.box.mem.far H3 (fun r hr e=>by
  obtain⟨_,h9⟩:=h0.out.box.typ r hr;have h8:=h0.out.box.own hr
  exact zR h8 h2.out (fun e=>h9 e) e)
 have c9:=c3.out;have d1:=b0.out;have d3:=c8.out;have b7:=HD.out.ok (bs:=bs) yo yo (by rw[H5.out,b1.out]);have b8:bs.length=c:=by rw[H5.out,b1.out]
 exact⟨is,ps,bs,sI,cI,sP,cP,sA,cA,q,B,rfl,hM,Nat.le_trans b2.out.size h0.out.tlt.2.1,b7,⟨HD.out.l1,by rw[b8];exact HD.out.le⟩,h0.out.tape.kept H3 (fun j e=>by have e:R=j:=Oj e;omega),yM (zI (vM b2.out) h0.out.grown) H3 (by show _<=R;omega)⟩
theorem qHL (A tb k:Nat)(w:World)(h1:1<=k)(h3:k<=3)(hT:wJ A w tb):
  Calls Tryz.prog 8 #[.pointer (some ⟨tb,0,none⟩),.int .i64 (k:Int)] w (qFV A tb k w):=(qDX A tb k w h1 h3 hT).mono fun _ _ h=>h.made
end Go.Proofs.YtiknckajkdlppaaGreat
namespace Go.Proofs.YtiknckajkdlppaaGreat
open Go.RowKit
def dQ:DfaV:=⟨1,0,[false,false,false,true],[[1],[2],[3],[3]]⟩
def elQ:List (List Nat):=[[0,1,2,3],[1,2,3,3],[2,3,3,3],[3,3,3,3]]
def gsQ:List (List Nat):=[[1,2,3,3]]
def prQ:List Int:=[-1,0,1,2]
def laQ:List Int:=[-1,0,0,0]
def riQ:List (List Nat):=[[1],[2],[3],[3]]
theorem qTS:wO gsQ (yO gsQ 4 gsQ.length) 4=((elQ,prQ,laQ),riQ):=by decide +kernel
theorem qFM:uR dQ=0:=by decide +kernel
theorem qSV:VD dQ 4 1:=qQJ qFM
def sQ:SynV:=⟨1,tabE prQ laQ riQ 4,vX prQ laQ 4,imgE gsQ elQ,accE dQ.final 0 elQ,lS 4 (mH (metL 4 [1,2,3]))⟩
theorem qSM:sQ.images=[1]:=by decide +kernel
theorem qLJ {d e:DfaV}(h:d.letters=e.letters/\d.start=e.start/\d.final=e.final/\d.next=e.next):d=e:=by
 obtain⟨a,b,c,x⟩:=d;obtain⟨a',b',c',x'⟩:=e;obtain⟨h1,h2,h3,h4⟩:=h;simp only at h1 h2 h3 h4;rw[h1,h2,h3,h4]
theorem qTZ:minD dQ 1=dQ:=qLJ (by decide +kernel)
theorem qSS:pH dQ 4 1=gsQ:=by decide +kernel
def tQ:List (List Int):=[[0,1,2,3],[1,2,3,3],[2,3,3,3],[3,3,3,3]]
theorem qPR:tabI sQ.tab=tQ:=by decide +kernel
theorem qUB:FinE gsQ 4 elQ prQ laQ riQ elQ.length:=qLD (by unfold IsT;decide) yo jd qTS (by unfold IsT;decide)
theorem qUA:GenI tQ [1] [1,2,3] where
 nd:=jd
 lt:=jd
 base:=jd
 gen:=fun x hx=>by
  have g1:Gen tQ [1] 1:=.base 1 yq
  have g2:Gen tQ [1] 2:=.mul 1 1 g1 g1
  have g3:Gen tQ [1] 3:=.mul 1 2 g1 g2
  simp only[List.mem_cons,List.not_mem_nil,or_false]at hx
  rcases hx with rfl|rfl|rfl
  ·exact g1
  ·exact g2
  ·exact g3
theorem qOS:pY tQ [1,2,3]:=by unfold pY;decide +kernel
theorem qQN:nK dQ sQ:=by
 refine⟨4,1,4,dQ,qSV,qTZ.symm,qSV,yo,?_⟩;rw[qSS];exact⟨elQ,prQ,laQ,riQ,[1,2,3],qUB,jd,rfl,rfl,rfl,rfl,rfl,by rw[qPR,qSM];exact qUA,by rw[qPR];exact qOS,rfl⟩
theorem qUD:autI sQ.I=dQ:=qLJ (by decide +kernel)
theorem qQK:sD sQ.I:=⟨by decide +kernel,sQ,by rw[qUD];exact qQN,rfl⟩
theorem qSY:nH sQ.I.tab=true:=by decide +kernel
theorem qTT:PowR sQ.I.tab ((imI sQ.I).getD 0 0) 4 3:=by unfold PowR;decide +kernel
theorem qPT {Ls js:List Nat}(h:PowsR sQ.I Ls js sQ.I.images.length):Ls=[4]/\js=[3]:=by
 have e1:sQ.I.images.length=1:=by decide +kernel
 rw[e1]at h;have h1:=h.pow 0 yo;obtain⟨h2,h3⟩:=h1.eq qTT;have l1:=h.l1;have l2:=h.l2
 match Ls,js,l1,l2,h2,h3 with
 | [a],[b],_,_,h2,h3=>simp at h2 h3;rw[h2,h3];exact⟨rfl,rfl⟩
def cQ:CntV:=⟨[3],[1],[false,false,false,true]⟩
theorem qUC {c:CntV}(h:gT sQ.I c):c=cQ:=by
 obtain⟨Ls,js,hp,h1,h2,h3,h4⟩:=h;obtain⟨rfl,rfl⟩:=qPT hp;obtain⟨ci,cp,ca⟩:=c;simp only at h1 h2 h3 h4;have e1:vD [3]=[3]:=jd
 have e2:vD (perL [4] [3])=[1]:=jd
 rw[e1]at h1;rw[e2]at h2;subst h1 h2;have e3:uD [3] [1] sQ.I.images.length=some 4:=by decide +kernel
 rw[e3]at h3;have e4:ca.length=4:=(Oj h3).symm;rw[e4]at h4;have e5:((List.range 4).map fun i=>sQ.I.accept.getD (valC sQ.I.tab (imI sQ.I) [4] sQ.I.images.length i 0) false)=[false,false,false,true]:=by decide +kernel
 rw[h4,e5];rfl
theorem qRS:¬qIB sQ.I:=by
 rintro ⟨Ls,js,hp,h⟩;obtain⟨rfl,rfl⟩:=qPT hp;have e3:uD (vD [3]) (vD (perL [4] [3])) sQ.I.images.length=some 4:=by decide +kernel
 rw[e3]at h;exact absurd h yq
theorem qKM:kF cQ ⟨#[97,97,97,97]⟩=true/\kF cQ ⟨#[97,97]⟩=false:=by decide +kernel
theorem qBX (B C:Nat)(w:World)(va vb:Value)(a b:CntV)(ha:pK B w va a)(hb:pK C w vb b):Calls Tryz.prog 13 #[va,vb] w fun e w'=>e=.returned (.bool (decide (a.idx=b.idx) && decide (a.per=b.per) && decide (a.acc=b.acc)))/\w.grownBy w' none:=by
 obtain⟨a1,a2,a3,rfl,H4,H0,h9⟩:=ha;obtain⟨b1,b2,b3,rfl,h8,h7,h6⟩:=hb;obtain⟨w1,h0⟩:=Nm (w.alloc (.cells #[a1,a2,a3] 35));have g1:w.grownBy w1 none:=by rw[h0];exact Ga w _ none
 have n1:=heap_alloc_new w (.cells #[a1,a2,a3] 35);have h2:w1.heap.size=w.heap.size+1:=by rw[h0];simp
 obtain⟨w2,h1⟩:=Nm (w1.alloc (.cells #[b1,b2,b3] 35));have g2:w1.grownBy w2 none:=by rw[h1];exact Ga w1 _ none
 have n2:=heap_alloc_new w1 (.cells #[b1,b2,b3] 35);rw[<-h0]at n1;rw[<-h1,h2]at n2;obtain⟨P,hP⟩:=Nm w.heap.size;rw[<-hP]at n1 n2;obtain⟨p0,p1,p2⟩:=xZ (zD n1 g2);obtain⟨q0,q1,q2⟩:=xZ n2;have hg:=zE g1 g2;have H1:=Kh (fun(W:World) (h:w.grownBy W none)=>qT B C W a1 b1 a.idx b.idx (H4.kept h yq) (h8.kept h yq));have H2:=Kh (fun(W:World) (h:w.grownBy W none)=>qT B C W a2 b2 a.per b.per (H0.kept h yq) (h7.kept h yq));have H3:=Kh (fun(W:World) (h:w.grownBy W none)=>fR B C W a3 b3 a.acc b.acc (h9.kept h yq) (h6.kept h yq));obtain⟨d1,h5⟩:=Nm (decide (a.idx=b.idx));obtain⟨d2,h4⟩:=Nm (decide (a.per=b.per));obtain⟨d3,h3⟩:=Nm (decide (a.acc=b.acc));rw[<-h5]at H1⊢;rw[<-h4]at H2⊢;rw[<-h3]at H3⊢;obtain⟨HG,H6,H5,HP⟩:=Kd hg h0 h1 hP;clear H4 H0 h9 h8 h7 h6 h0 h1 g1 g2 n1 n2 h2 hP hg h5 h4 h3;go_enter Tryz.func13,Tryz.ntmps13;go_upto_region 1 with fail;rw[<-H6.out,<-HP.out,<-H5.out];go_wp2_with fail;refine(H1.out w2 HG.out).mono ?_;rintro e w3 ⟨rfl,m3,rfl⟩;have HD:Hid (∀q,w.grownBy (w2.drewN q) none):=Kh (fun q=>zE HG.out (zT w2 q none));cases d1 with
 | false =>
  go_wp2;go_ret;exact⟨rfl,HD.out _⟩
 | true =>
  go_wp2_with fail;refine(H2.out _ (HD.out _)).mono ?_;rintro e w4 ⟨rfl,m4,rfl⟩;cases d2 with
  | false =>
   go_wp2;go_ret;exact⟨rfl,HD.out _⟩
  | true =>
   go_wp2_with fail;refine(H3.out _ (HD.out _)).mono ?_;rintro e w5 ⟨rfl,m5,rfl⟩;cases d3 with
   | false =>
    go_wp2;go_ret;exact⟨rfl,HD.out _⟩
   | true =>
    go_wp2;go_ret;exact⟨rfl,HD.out _⟩
theorem bC (B:Nat)(w:World)(v:Value)(c:CntV)(s:ByteArray)(h:pK B w v c)(hs:s.size<=maxLen):Calls Tryz.prog 33 #[v,.string s] w fun e w'=>e=.returned (.bool (kF c s))/\w.grownBy w' none:=by
 obtain⟨vi,vp,va,rfl,hi,hp,ha⟩:=id h;obtain⟨iA,iC,rfl⟩:=hi.shape;obtain⟨pA,pC,rfl⟩:=hp.shape;obtain⟨aA,aC,rfl⟩:=ha.shape;obtain⟨n,hn⟩:=Nm ((ints c.idx).length);obtain⟨pn,h6⟩:=Nm ((ints c.per).length);obtain⟨an,h9⟩:=Nm ((bls c.acc).length);rw[<-hn]at hi h;rw[<-h6]at hp h;rw[<-h9]at ha h;rw[<-hn,<-h6,<-h9];rw[zL]at hn h6;rw[yB]at h9;obtain⟨w1,H0⟩:=Nm (w.alloc (.cells #[.slice iA n iC,.slice pA pn pC,.slice aA an aC] 35));have H8:w.grownBy w1 none:=by rw[H0];exact Ga w _ none
 have H2:=heap_alloc_new w (.cells #[.slice iA n iC,.slice pA pn pC,.slice aA an aC] 35);obtain⟨P,hP⟩:=Nm w.heap.size;rw[<-H0,<-hP]at H2;obtain⟨q0,q1,q2⟩:=xZ H2;obtain⟨R,hR⟩:=Nm (kF c s);rw[<-hR];have b5:Hid (cntE c≠0->R=false):=Kh (fun h=>by rw[hR];exact qKO h);have b4:Hid (vY s (n:Int)=false->R=false):=Kh (fun h=>by rw[hR];exact qGZ (by rw[<-hn];exact h));have H5:Hid (cntE c=0->vY s (n:Int)=true->R=c.acc.getD (atTo c (tD n (xH s)) n) false):=Kh (fun h h2=>by rw[hR,hn];exact qKN h (by rw[<-hn];exact h2));have HV:=Kh (qHN B w1 _ c (h.kept H8));have HI:Hid (∀W:World,w.grownBy W none->Row B W (.slice iA n iC) (ints c.idx)):=Kh (fun W hg=>hi.kept hg yq);have HP:Hid (∀W:World,w.grownBy W none->Row B W (.slice pA pn pC) (ints c.per)):=Kh (fun W hg=>hp.kept hg yq);have HA:Hid (∀W:World,w.grownBy W none->Row B W (.slice aA an aC) (bls c.acc)):=Kh (fun W hg=>ha.kept hg yq);obtain⟨i0,d2,g1,g5,HN,g4⟩:=Kf H8 H2 H0 hP hn h6;have b6:=Kh h9;obtain⟨E,hE⟩:=Nm (cntE c);rw[<-hE]at HV b5 H5;have HE:=Kh hE;clear h hi hp ha hn h6 h9 H8 H2 H0 hP hR hE;go_enter Tryz.func33,Tryz.ntmps33;go_upto_region 1 with fail;rw[<-g1.out,<-g5.out];go_wp2_with fail;refine HV.out.mono ?_;rintro e w2 ⟨rfl,H1⟩;have h7:=Kh (zE i0.out H1);obtain⟨q0,q1,q2⟩:=xZ (zD d2.out H1);have i4:=Kh (zD d2.out H1);clear H1 HV;by_cases hE0:E=0
 case neg =>
  have e1:(E != 0)=true:=by rw[bne_iff_ne];exact hE0
  have HF:=Kh (b5.out hE0);clear hE0;go_wp2;go_ret;exact⟨yQ HF.out.symm,h7.out⟩
 have e1:(E != 0)=false:=by rw[bne_eq_false_iff_eq];exact hE0
 have h1:Hid (CntOk c):=Kh (qPV.1 (by rw[<-HE.out];exact hE0));have i3:=Kh hE0;clear hE0;have b3:=Kh (bG s (n:Int) w2 hs);obtain⟨wv,H7⟩:=Nm (vY s (n:Int));rw[<-H7]at b3 b4 H5;have a5:=Kh H7;clear H7;go_wp2_with fail;refine b3.out.mono ?_;rintro e w3 ⟨rfl,rfl⟩;clear b3;cases wv with
 | false =>
  have HF:=Kh (b4.out rfl);go_wp2;go_ret;exact⟨yQ HF.out.symm,h7.out⟩
 | true =>
  have d0:=Kh (qAA a5.out.symm);have g3:=Kh (H5.out i3.out rfl);have e5:=d0.out.2.2;have c3:1<=n:=by rw[HN.out];exact h1.out.k1
  have j0:n<=6:=by rw[HN.out];exact h1.out.k6
  clear b5 b4 H5;obtain⟨ib,io,ic,ei,_,i1,i2,ir⟩:=(HI.out _ h7.out).some_ (by rw[zL,<-HN.out];exact c3);obtain⟨pb,po,pc,ep,_,p1,p2,pr⟩:=(HP.out _ h7.out).some_ (by rw[zL,h1.out.pl,<-HN.out];exact c3)
  have c7:1<=c.acc.length:=by
   have:=qLS h1.out.pos [] _ _ (Nat.le_refl _) h1.out.size;omega
  obtain⟨ab,ao,ac,ea,_,a1,a2,ar⟩:=(HA.out _ h7.out).some_ (by rw[yB];exact c7);simp only[Value.slice.injEq]at ei ep ea;obtain⟨rfl,d8,rfl⟩:=ei;obtain⟨rfl,d7,rfl⟩:=ep;obtain⟨rfl,d6,rfl⟩:=ea;rw[zL,<-HN.out]at i1;rw[zL,h1.out.pl,<-HN.out]at p1;rw[yB,<-b6.out]at a1;have h6:n=pn:=by rw[g4.out,h1.out.pl,HN.out]
  unfold maxLen at i2 p2 a2;obtain⟨IR,PR,AR⟩:=Kc ir pr ar;subst h6;clear ir pr ar d8 d7 d6 c7;obtain⟨wo,rfl⟩:=Nm (w2:World);go_upto_region 4 with (first|(at_make;refine pL rfl _ _ _ rfl yJ rfl _ _ _ _ n rfl rfl rfl rfl ?b1 ?b2 ?_;(case b1=>omega);(case b2=>(unfold maxLen;omega));intro w4 H4 c4 d5)|fail);rw[<-yW,<-qHO]at H4;obtain⟨g,hg⟩:=Nm wo.heap.size;rw[<-hg]at H4⊢;have g8:Hid (wo.heap.size<=g):=Kh (by rw[hg];exact Nat.le_refl _);have d4:Hid (Arr w4 g 3 (nats (tD n ((xH s).take 0)))):=Kh H4;have g9:=Kh c4;clear H4 c4 d5 hg q0 q1 q2;go_wp2
  go_loopg [6,27] s.size (fun gh a6 a27 wr=>∃j:Nat,gh+j=s.size/\a27=.int .i64 j/\Arr wr g 3 (nats (tD n ((xH s).take j)))/\wo.grownBy wr none)
  case atStart=>exact⟨0,rfl,rfl,d4.out,g9.out⟩
  clear d4;obtain⟨j,h8,rfl,h0,h3⟩:=hrel;obtain⟨h5,d3,g7⟩:=Kc h8 h0 h3;clear h8;by_cases hj:j<s.size
  ·have e8:(j:Int)<s.size:=yo
   obtain⟨b0,a0,j3,i6,i9,a3,c2⟩:=qED d0.out.2.1 hj;have ca:=h0.nat a0 (by rw[qP];exact a3);have fa:=h0.frozen a0;rw[bB a3]at ca;have f7:((xH s).take j).count a0<=2048:=Nat.le_trans List.count_le_length (by rw[List.length_take];omega);have f8:(a0:Int)<n:=yo;have H6:=Kh (h0.nat_set a0 (by rw[qP];exact a3) (((xH s).take j).count a0+1));rw[qDZ,show (xH s).take j++[a0]=(xH s).take (j+1) by rw[yH (d:=0) (by rw[sJ];exact hj),c2]]at H6;obtain⟨x,hx⟩:=Nm (((xH s).take j).count a0);rw[<-hx]at ca f7 H6;have j2:g<wr.heap.size:=h0.lt;clear h0 c2 hx h3;go_wp2;go_roundg (s.size-(j+1))
   case measure=>have:=h5.out;omega
   refine⟨j+1,by have:=h5.out;omega,by go_num,?_,?_⟩
   ·first|exact H6.out|(have:=H6.out;simpa using this)
   exact zE g7.out (zH wr ⟨g,a0,none⟩ _) (fun q e=>by have e:g=q:=Oj e;rw[<-e];exact g8.out)
  have e8:¬(j:Int)<s.size:=yo
  have i5:Hid (Arr wr g 3 (nats (tD n (xH s)))):=Kh (by
   rw[<-List.take_of_length_le (l:=xH s) (i:=j) (by rw[sJ];omega)];exact d3.out)
  have g6:=Kh (zE h7.out h3);have IRX:=Kh (IR.out.kept h3 yq);have PRX:=Kh (PR.out.kept h3 yq);have ARX:=Kh (AR.out.kept h3 yq);obtain⟨q0,q1,q2⟩:=xZ (zD i4.out h3);clear h0 h3 d3;obtain⟨wx,rfl⟩:=Nm (wr:World);go_wp2
  go_loopg [7,8,9,42] n (fun gh a7 a8 a9 a42 wr=>∃a q:Nat,gh+a=n/\a42=.int .i64 a/\a7=.int .i64 ((atTo c (tD n (xH s)) a:Nat):Int)/\wr=wx.drewN q)
  case atStart=>exact⟨0,0,rfl,rfl,rfl,rfl⟩
  obtain⟨a,q,h8,rfl,rfl,rfl⟩:=hrel;have h5:=Kh h8;clear h8;by_cases haN:a<n
  ·have f9:(a:Int)<n:=yo
   have H3:a<c.idx.length:=(by rw[<-HN.out];exact haN);obtain⟨i,p,ei,ep,j1,e6,i7⟩:=qRH h1.out H3;have ci:=IRX.out.int a H3;have cp:=PRX.out.int a (by rw[h1.out.pl];exact H3);rw[ei]at ci;rw[ep]at cp;have ca:=i5.out.nat a (by rw[qP];exact haN);obtain⟨N,a4⟩:=Nm ((tD n (xH s)).getD a 0)
   have j4:N<=2048:=by
    rw[a4,bB haN];exact Nat.le_trans List.count_le_length (by rw[sJ];exact e5)
   have h4:=qLP (ns:=tD n (xH s)) ei ep;have hK:=qTC h1.out (tD n (xH s)) (a:=a) yo;rw[<-a4]at ca h4;obtain⟨K,c8⟩:=Nm (atTo c (tD n (xH s)) a);rw[<-c8]at hK h4⊢;obtain⟨r,hr⟩:=Nm (i+p);rw[<-hr]at h4;have c1:r<=4000:=yo
   obtain⟨x,hx⟩:=Nm (asN N i p);rw[<-hx]at h4;have b9:x<=4000:=by have:=qCH (n:=N) (i:=i) e6;omega
   obtain⟨e1,e2,e3⟩:=oY hK c1;clear e2;obtain⟨m,hm⟩:=Nm (K*r);rw[<-hm]at e1 e3 h4;obtain⟨y,hy⟩:=Nm (m+x);rw[<-hy]at h4;obtain⟨d1,c9,g0,j5⟩:=Kd h4 hx b9 e3;have c0:(i:Int)+(p:Int)=(r:Int):=yo
   have b7:(m:Int)+(x:Int)=(y:Int):=yo
   have f1:IntKind.i64.wrap ((i:Int)+(p:Int))=(r:Int):=by rw[c0];exact wK yo
   have f2:IntKind.i64.wrap ((m:Int)+(x:Int))=(y:Int):=by rw[b7];exact wK yo
   clear a4 c8 hr hx hm hy h4 c0 b7 e3 hK c1 b9 ei ep H3;by_cases hlt:N<i
   ·have e7:(N:Int)<(i:Int):=yo
    have e9:¬(i:Int)<=(N:Int):=yo
    have e0:x=N:=by rw[c9.out,asN,if_pos hlt]
    subst e0;clear hlt;go_wp2
    go_quiet (fail)
    clear e1 f1 f2;go_wp2;go_roundg (n-(a+1))
    case measure=>have:=h5.out;omega
    exact⟨a+1,_,by have:=h5.out;omega,by go_num,by rw[d1.out],by first|rfl|exact World.drewN_drewN _ _ _⟩
   obtain⟨d,hd⟩:=Nm (N-i);obtain⟨t,ht⟩:=Nm (d % p);have d9:x=i+t:=by rw[c9.out,asN,if_neg hlt,ht,hd]
   have c6:(N:Int)-(i:Int)=(d:Int):=yo
   have e4:t<p:=(by rw[ht];exact Nat.mod_lt _ yo);have b8:(i:Int)+(t:Int)=(x:Int):=yo
   have f3:IntKind.i64.wrap ((N:Int)-(i:Int))=(d:Int):=by rw[c6];exact wK yo
   have f4:(d:Int).tmod (p:Int)=(t:Int):=by rw[ht];exact Int.ofNat_tmod d p
   have f5:IntKind.i64.wrap ((i:Int)+(t:Int))=(x:Int):=by rw[b8];exact wK (by have:=g0.out;omega)
   have f6:IntKind.i64.wrap (t:Int)=(t:Int):=wK yo;have i8:¬(p:Int)=0:=yo
   have e9:(i:Int)<=(N:Int):=yo
   clear hd ht d9 c6 e4 b8 hlt;go_wp2
   go_quiet (fail)
   go_wp2
   go_quiet (fail)
   clear e1 f1 f2 f3 f4 f5 f6;go_wp2;go_roundg (n-(a+1))
   case measure=>have:=h5.out;omega
   exact⟨a+1,_,by have:=h5.out;omega,by go_num,by rw[d1.out],by first|rfl|exact World.drewN_drewN _ _ _⟩
  have H9:a=n:=by have:=h5.out;omega
  have f9:¬(a:Int)<n:=yo
  have c5:atTo c (tD n (xH s)) a<an:=by
   rw[H9,b6.out];have hx:=h1.out.size;rw[<-HN.out]at hx;exact qLS h1.out.pos _ _ _ (by rw[HN.out];exact Nat.le_refl _) hx
  have g2:Hid (R=c.acc.getD (atTo c (tD n (xH s)) a) false):=Kh (by rw[H9];exact g3.out);have cz:=ARX.out.boolQ (atTo c (tD n (xH s)) a) (by rw[<-b6.out];exact c5);rw[<-g2.out]at cz;obtain⟨z,hz⟩:=Nm (atTo c (tD n (xH s)) a);rw[<-hz]at cz c5⊢;have f0:(z:Int)<an:=yo;clear hz H9;go_wp2;go_ret;exact⟨rfl,zE g6.out (zT wx _ none)⟩
end Go.Proofs.YtiknckajkdlppaaGreat
