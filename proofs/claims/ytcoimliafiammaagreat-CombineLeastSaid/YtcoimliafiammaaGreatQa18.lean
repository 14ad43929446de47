/- Part 18 of the proof. -/
import Derived.Test.YtcoimliafiammaaGreatQa17
set_option linter.unusedVariables false
set_option linter.unusedSimpArgs false
set_option maxRecDepth 100000
set_option maxHeartbeats 16000000
namespace Go.Proofs.YtcoimliafiammaaGreat
open Go.Maps Go.RowKit
theorem GrownBut.trans' {w w' a9:World}{F G:Nat->Prop}(h:GrownBut w w' F)(k:GrownBut w' a9 G)(hG:∀j,G j->F j\/w.heap.size<=j):GrownBut w a9 F :=
 ⟨k.os.trans h.os,k.tape.trans h.tape,k.output.trans h.output,Nat.le_trans h.size k.size,fun j hj hn=>(k.block j (Nat.lt_of_lt_of_le hj h.size) (fun hg=>(hG j hg).elim hn (fun e=>by omega))).trans (h.block j hj hn)⟩
def qYY (w:World)(ps:List (List ByteArray))(l:List ClaV)(e:Ending)(w':World):Prop :=
 ∃v g,e=.returned v/\(∀w2,GrownBut w' w2 (fun j=>j<w.heap.size)->mB w2.heap.size w2 v g)/\g.pats=ps/\wT ps.length g.chos g.chos.length/\0<=g.root/\g.root<=1+(g.chos.length:Int)/\(∀c∈l,decG g.chos (fun i=>c.m.getD i false) g.root=c.b)/\g.chos.length+1<=l.length/\w.grownBy w' none
theorem qSQ:ElemN Tryz.prog 32 65 1 (.agg #[.slice none 0 0]) 24:=⟨by kernel_rfl,by kernel_rfl,by rfl,by decide⟩
theorem qLX (B:Nat)(w:World)(v:Value)(p:List ByteArray)(h:Row B w v (txtV p))(hl:p.length<=100000):Calls Tryz.prog 69 #[v] w fun e w'=>∃sa sc,e=.returned (.slice sa p.length sc)/\w'.ownsRow w.heap.size 9 1 (.slice sa p.length sc) p.length (txtV p)/\w.grownBy w' none:=by
 rcases h with ⟨a,c,rfl,hx⟩|⟨b,off,cap,rfl,_,hc1,hc2,hra⟩
 ·have hp:p=[]:=by simpa [txtV] using hx
  subst hp;rcases a with _|a
  ·exact(Tryz.slices_Clone_string_nil 0 c w).mono fun e w' ⟨h1,h2⟩=>⟨none,0,h1,by rw[h2];exact World.ownsRow_nil _ _ _ _,by rw[h2];exact zH _ _⟩
  exact(Tryz.slices_Clone_string_zero a c w).mono fun e w' ⟨v',h1,h2,_,h3⟩=>by
   obtain⟨sa,sc,rfl⟩:=pJ h2;exact⟨sa,sc,h1,h2,kK h3⟩
 rw[yD];refine(Tryz.slices_Clone_string b off p.length cap p w (Nat.le_refl _) (by omega) (fun j hj=>?_)).mono ?_
 ·exact vL hra j hj
 rintro e w' ⟨v',rfl,h0,_,h4⟩;rw[List.take_of_length_le (Nat.le_refl _)]at h0;obtain⟨sa,sc,rfl⟩:=pJ h0;exact⟨sa,sc,rfl,h0,kK h4⟩
theorem qXM {M:Nat->List Bool}{A:Nat->Bool}{s np:Nat}{l:List ClaV}(h:ClsI M A s s l)(hM:∀i,(M i).length=np):ClsOk np l:=⟨fun c hc=>by obtain⟨i,_,e⟩:=h.met c hc;rw[<-e];exact hM i,h.nd⟩
theorem qIC (Bd:Nat)(w:World)(pv lv:Value)(ps:List (List ByteArray))(l:List ClaV)(a8:Bd<=w.heap.size)(hp:vE Bd w pv ps)(hl:ClsX (fun k=>k<w.heap.size) w lv l)(h0:0<l.length)(h4:l.length<=4000)(a9:ClsOk ps.length l)(h3:ps.length<=300)(h8:∀p∈ps,p.length<=100000):Calls Tryz.prog 51 #[pv,lv] w (qYY w ps l):=by
 obtain⟨pa,pc,rfl⟩:=hp.shape;obtain⟨la,lc,rfl⟩:=hl.shape;obtain⟨np,f0⟩:=Nm ps.length;have H6:=Kh f0;have HP:=Kh hp;rw[<-f0]at a9 h3 HP⊢;obtain⟨n,hn⟩:=Nm l.length;obtain⟨HN,HL,H0,H4,m9,H8⟩:=K6 hn hl h0 h4 a9 h8;rw[<-hn]at HL⊢;have l2:=@run_makeMap Tryz.prog;clear hp hl f0 hn h0 h4 a9 h8;go_enter Tryz.func51,Tryz.ntmps51;go_upto_region 1 with fail;obtain⟨wA,e3⟩:=Nm (w.alloc (.cells #[.slice none 0 0,.slice none 0 0,.int .i64 0] 35));have b2:=Ga w (.cells #[.slice none 0 0,.slice none 0 0,.int .i64 0] 35) none;have b5:=heap_alloc_new w (.cells #[.slice none 0 0,.slice none 0 0,.int .i64 0] 35);have k3:wA.heap.size=w.heap.size+1:=by rw[e3,zL]
 obtain⟨P,hP⟩:=Nm w.heap.size;rw[<-e3]at b2 b5⊢;rw[<-hP]at b5⊢;have m6:=Kh hP;obtain⟨mb,d0⟩:=Nm wA.heap.size;obtain⟨w1,c7⟩:=Nm (wA.alloc (.map #[] 0));have h6:=MapK.made 71 qCS choW wA;have d3:=Ga wA (.map #[] 0) none;have g7:w1.heap.size=mb+1:=by rw[c7,zL,d0]
 rw[<-c7]at h6 d3;rw[<-d0]at h6;have d7:=heap_alloc_new w1 (.cells #[.slice none 0 0,.map (some mb)] 116);have H1:=Ga w1 (.cells #[.slice none 0 0,.map (some mb)] 116) none;obtain⟨w2,c6⟩:=Nm (w1.alloc (.cells #[.slice none 0 0,.map (some mb)] 116));have k6:w2.heap.size=mb+2:=by rw[c6,zL,g7]
 obtain⟨o,ho⟩:=Nm w1.heap.size;rw[<-c6]at d7 H1;rw[<-ho]at d7;have n1:=Kh (zB (zB b5 d3) H1);have a0:wA.grownBy w2 none:=zA d3 H1;have f6:Hid (w.heap.size<=w2.heap.size):=Kh (by omega);have a2:w.grownBy w2 none:=zA b2 a0;have e6:(71:Nat)≠116:=by decide
 have e4:(71:Nat)≠35:=by decide
 have a4:(65:Nat)≠35:=by decide
 have j9:Hid (BldS wA w2.heap.size (fun k=>k<w.heap.size) o mb w2 [] w2):=Kh ⟨none,0,0,0,⟨⟨fun r hr=>by simp at hr;subst hr;exact World.ownsRow_nil _ _ _ _,List.pairwise_singleton _ _,fun r hr k hk=>by simp at hr;subst hr;simp[Value.ownBlock]at hk,fun k hk=>Nat.lt_of_lt_of_le hk a2.size⟩,fun r hr=>by simp at hr;subst hr;exact⟨rfl,e6⟩,d7,fun e=>by have e:o<w.heap.size:=e;omega,by omega,by omega,Nat.le_refl _,a0,uH.refl _ _,Nat.le_refl _⟩,h6.kept H1 (by simp),fun e=>by have e:mb<w.heap.size:=e;omega,by omega,Nat.le_refl _⟩;have H7:Hid (Calls Tryz.prog 68 #[.pointer (some ⟨o,0,none⟩),.slice la n lc,.int .i64 0] w2 (qYE wA w2.heap.size (fun k=>k<w.heap.size) o mb np w2 [] l 0)):=Kh (qIT wA w2.heap.size o mb np (by omega) l.length (fun k=>k<w.heap.size) w2 _ l [] 0 (Nat.le_refl _) H0.out (HL.out.grow a2) j9.out m9.out (fun c _ c' _ q hq=>by omega) (Nat.zero_le _) (fun i hi=>by simp at hi) List.nodup_nil (by have:=H4.out;simp;omega));obtain⟨m3,m2,m8⟩:=K3 c7 c6 d0;have m7:Hid (o=mb+1):=Kh (by omega);have j8:=Kh b5;have j7:=Kh b2;have n2:=b2.size;clear b5 b2 k3 hP d0 c7 h6 d3 g7 d7 H1 c6 k6 ho a2 a0 e3 j9;go_upto_region 2 with fail;rw[<-m8.out,<-m3.out,<-m7.out,<-m2.out];clear l2;go_wp2_with fail;refine H7.out.mono ?_;rintro e w3 ⟨cs,r,rfl,d6,f3⟩;have e0:=Kh f3;have d9:=Kh (zA j7.out d6.facts.1);have c0:=Kh (zB j8.out d6.facts.1);obtain⟨sa,cap,u,c,b4,h7,_,_⟩:=d6.cells;obtain⟨b0,b1⟩:=gK b4;have j5:=Kh h7;have n5:=f3.lo;obtain⟨q,rfl⟩:∃q:Nat,r=(q:Int):=⟨r.toNat,by omega⟩;obtain⟨m,hm⟩:=Nm cs.length;rw[<-hm]at b0 j5;have HM:=Kh hm;have d5:=heap_alloc_new w3 (.cells #[.slice none 0 0,.slice sa m cap,.int .i64 (q:Int)] 35);have b3:=Ga w3 (.cells #[.slice none 0 0,.slice sa m cap,.int .i64 (q:Int)] 35) none;obtain⟨w4,c5⟩:=Nm (w3.alloc (.cells #[.slice none 0 0,.slice sa m cap,.int .i64 (q:Int)] 35));have k4:w4.heap.size=w3.heap.size+1:=by rw[c5,zL]
 obtain⟨od,e8⟩:=Nm w3.heap.size;rw[<-c5]at d5 b3;rw[<-e8]at d5;have m1:=Kh c5;have j4:=Kh e8;have j1:Hid (BoxS w4.heap.size (fun _=>False) od 35 w3 w4 (⟨w4.heap.size,65,.slice none 0 0,0,[],1⟩::[]) #[.slice none 0 0,.slice sa m cap,.int .i64 (q:Int)] w4):=Kh ⟨⟨fun r hr=>by simp at hr;subst hr;exact World.ownsRow_nil _ _ _ _,List.pairwise_singleton _ _,fun r hr k hk=>by simp at hr;subst hr;simp[Value.ownBlock]at hk,fun k hk=>hk.elim⟩,fun r hr=>by simp at hr;subst hr;exact⟨rfl,a4⟩,d5,fun e=>e,by omega,by omega,Nat.le_refl _,b3,uH.refl _ _,Nat.le_refl _⟩;have b6:Hid (w3.heap.size<=w4.heap.size):=Kh b3.size;have l8:Hid (w.heap.size<=w2.heap.size/\w.heap.size<=w4.heap.size):=Kh ⟨f6.out,Nat.le_trans d9.out.size b3.size⟩;have j3:Hid (P<w3.heap.size):=Kh (zM c0.out);have n7:Hid (Bd<=w3.heap.size):=Kh (Nat.le_trans a8 d9.out.size);clear d6 f3 b4 h7 hm c5 e8 b3 k4 d5 H7 j8 j7 b1;go_upto_region 4 with fail;rw[<-j4.out,<-m1.out];clear b0;go_wp2
 go_loopg [24] np (fun gh v24 wr=>∃(k:Nat) (sp:Option Addr) (cp:Nat) (svs:List Value) (X:Nat->Prop),gh+k=np/\v24=.int .i64 k/\BoxS w4.heap.size X od 35 w3 wr (⟨w4.heap.size,65,.slice sp k cp,k,svs,1⟩::[]) #[.slice sp k cp,.slice sa m cap,.int .i64 (q:Int)] wr/\uX X 9 txtV wr svs (ps.take k)/\(∀j,X j->w4.heap.size<=j))
 case atStart=>exact⟨0,none,0,[],fun _=>False,rfl,rfl,j1.out,uX.nil,fun _ h=>h.elim⟩
 clear j1;obtain⟨k,sp,cp,svs,X,i4,rfl,f5,i0,g8⟩:=hrel;obtain⟨f8,g4,H9,g2⟩:=K4 g8 i4 f5 i0;have a7:=f5.grown;clear i4 f5 i0 g8;by_cases hk:k<np
 ·have l3:(k:Int)<np:=by omega
  obtain⟨b,off,pcap,e,l5,f4,a3,h9⟩:=((HP.out.kept d9.out (by simp)).kept a7 (by simp)).at_ (by rw[<-H6.out];omega);rw[<-H6.out]at e f4 h9;simp only[Value.slice.injEq,true_and]at e;obtain⟨rfl,rfl⟩:=e;have n4:pc<=9223372036854775807:=by unfold maxLen at a3;omega
  obtain⟨ea,ec,c1,H2,c9⟩:=h9 k hk;obtain⟨p,hp⟩:=Nm (ps.getD k []);have k9:p.length<=100000:=H8.out p (by rw[hp,zG (by rw[<-H6.out];exact hk)];exact List.getElem_mem _);rw[<-hp]at c1 H2;have m5:=Kh hp;have f9:Hid (∀W:World,wr.grownBy W none->Calls Tryz.prog 69 #[.slice ea p.length ec] W fun e w'=>∃sa sc,e=.returned (.slice sa p.length sc)/\w'.ownsRow W.heap.size 9 1 (.slice sa p.length sc) p.length (txtV p)/\W.grownBy w' none):=Kh (fun W hW=>qLX Bd W _ p (H2.kept hW (by simp)) k9);obtain⟨pl,i1⟩:=Nm p.length;rw[<-i1]at c1 f9;have d4:=heap_alloc_new wr (.cells #[.slice ea pl ec] 65);have f1:=Ga wr (.cells #[.slice ea pl ec] 65) none;obtain⟨wR,e2⟩:=Nm (wr.alloc (.cells #[.slice ea pl ec] 65));obtain⟨R,hR⟩:=Nm wr.heap.size;rw[<-e2]at d4 f1;rw[<-hR]at d4;obtain⟨l9,m4,g3,n0⟩:=K4 e2 hR f1 d4;clear h9 H2 c9 hp i1 e2 hR f1 d4 f4 a3 a7;go_upto_region 7 with fail;rw[<-l9.out,<-m4.out];clear c1;obtain⟨w5,c4⟩:=Nm wR.drew;have f2:wr.grownBy w5 none:=(by rw[c4];exact zC g3.out (zN wR none));have m0:=Kh c4;have d8:=Kh f2
  have C5:Hid (w5.cell? ⟨od,0,none⟩=some (.slice sp k cp)/\w5.cell? ⟨R,0,none⟩=some (.slice ea pl ec)):=Kh (by
   have h1:=zJ (H9.out.grow f2).box 0 (by simp);simp only[List.getElem_toArray,List.getElem_cons_zero]at h1;refine⟨h1,?_⟩;have h2:=zJ (zB n0.out (show wR.grownBy w5 none by rw[c4];exact zN wR none)) 0
   simpa using h2)
  clear f2 c4;refine wp_region_noPanic ?_;refine xE (G:=vU 7 (fun _=>True) (fun W=>W.cell? ⟨od,0,none⟩=some (.slice sp k cp)/\W.cell? ⟨R,0,none⟩=some (.slice ea pl ec))) (by kernel_rfl) ?_;rw[<-m0.out];refine yG 0 ?_;refine kQ 1 ?_;refine yG 2 ?_;obtain⟨k1,k2⟩:=C5.out;refine oneG (i:=3) (by kernel_rfl) rfl (fun K hK=>?_);go_simp;refine hK.out _ _ ⟨trivial,fun _=>C5.out⟩ ?_;clear hK K k1 k2
  try simp only[Act.put,sPa,sPb,sPc]
  refine oneG (i:=4) (by kernel_rfl) rfl (fun K hK=>?_);go_simp
  go_at_call 69
  refine(f9.out w5 d8.out).mono ?_;rintro e w8 ⟨s8,c8,rfl,h5,d2⟩;have H3:=zC d8.out d2;have g5:Hid (BoxS w4.heap.size (fun j=>X j\/(Value.slice s8 pl c8).ownBlock=some j) od 35 w3 w8 (⟨w4.heap.size,65,.slice sp k cp,k,svs,1⟩::[]) #[.slice sp k cp,.slice sa m cap,.int .i64 (q:Int)] w8):=Kh (H9.out.fresh H3 (fun j hj=>⟨Nat.le_trans d8.out.size (h5.lt j hj).1,(h5.lt j hj).2⟩))
  have b8:Hid (uX (fun j=>X j\/(Value.slice s8 pl c8).ownBlock=some j) 9 txtV w8 (svs++[.slice s8 pl c8]) (ps.take (k+1))):=Kh (by
   rw[zT (d:=[]) (by rw[<-H6.out];exact hk),<-m5.out]
   exact((g2.out.kept (H9.out.mem.keep H3) H3.size).mono (fun j hj=>.inl hj)).snoc (RowX.of_owns h5 (fun j hj=>.inr hj)))
  have C8:Hid (w8.cell? ⟨od,0,none⟩=some (.slice sp k cp)/\w8.cell? ⟨R,0,none⟩=some (.slice ea pl ec)):=Kh ⟨xG C5.out.1 d2,xG C5.out.2 d2⟩
  have f7:Hid (∀j,(X j\/(Value.slice s8 pl c8).ownBlock=some j)->w4.heap.size<=j):=Kh (fun j hj=>by
   rcases hj with hj|hj
   ·exact f8.out j hj
   exact Nat.le_trans (Nat.le_trans H9.out.base d8.out.size) (h5.lt j hj).1)
  refine hK.out _ _ ⟨trivial,fun _=>C8.out⟩ ?_;clear hK K C5 h5 d2 H3 f9
  try simp only[Act.put,sPa,sPb,sPc]
  refine oneG (i:=5) (by kernel_rfl) rfl (fun K hK=>?_);go_simp;refine hK.out _ _ ⟨trivial,fun _=>C8.out⟩ ?_;clear hK K
  try simp only[Act.put,sPa,sPb,sPc]
  refine oneG (i:=6) (by kernel_rfl) rfl (fun K hK=>?_);go_simp;have d1:=heap_alloc_new w8 (.cells #[Value.slice s8 pl c8] 65);have a1:=Ga w8 (.cells #[Value.slice s8 pl c8] 65) none;obtain⟨R9,i8⟩:=Nm w8.heap.size;obtain⟨w9,c3⟩:=Nm (w8.alloc (.cells #[Value.slice s8 pl c8] 65));rw[<-c3]at d1 a1⊢;rw[<-i8]at d1⊢;have b9:=Kh (g5.out.grow a1).rebase;have b7:=Kh (b8.out.kept (g5.out.mem.keep a1) a1.size);have C9:Hid (w9.cell? ⟨od,0,none⟩=some (.slice sp k cp)/\w9.cell? ⟨R,0,none⟩=some (.slice ea pl ec)):=Kh ⟨xG C8.out.1 a1,xG C8.out.2 a1⟩;refine hK.out _ _ ⟨trivial,fun _=>C9.out⟩ ?_;clear hK K C8 a1 c3 i8
  try simp only[Act.put,sPa,sPb,sPc]
  have a6:=b9.out.own (r:=⟨w4.heap.size,65,.slice sp k cp,k,svs,1⟩) (by simp);have g6:=Nat.le_trans b9.out.base b9.out.wk;refine oneG (i:=7) (by kernel_rfl) rfl (fun K hK=>?_);refine qO rfl (.tmp 29) (.tmp 34) 32 rfl qSQ w4.heap.size (.slice sp k cp) k svs rfl a6 [.slice s8 pl c8] R9 rfl (0,0) rfl d1 ?z1 ?z2 ?z3 g6 ?_
  case z1=>intro v hv;simp only[List.mem_cons,List.not_mem_nil,or_false]at hv;subst hv;rfl
  case z2=>unfold maxLen;omega
  case z3=>show (k+1)*24<=140737488355328;omega
  intro sN cN wM h7 i5 i2;have c2:=Kh (b9.out.appAt (j:=0) rfl h7 i5 i2);have i7:=zJ c2.out.box 0;simp only[List.getElem_toArray,List.getElem_cons_zero]at i7;have l4:=zF c2.out.box 0;have l0:=zM c2.out.box;refine hK.out _ _ ⟨trivial,fun h=>by simp at h⟩ ?_;clear hK K C9 h7 i5 i2 d1 a6 g6
  try simp only[Act.put,sPa,sPb,sPc]
  refine oneG (i:=8) (by kernel_rfl) rfl (fun K hK=>?_);go_simp;refine hK.out _ _ ⟨trivial,fun h=>by simp at h⟩ ?_;clear hK K
  try simp only[Act.put,sPa,sPb,sPc]
  refine oneG (i:=9) (by kernel_rfl) rfl (fun K hK=>?_);go_simp;have H5:=Kh (c2.out.set 0 (.slice sN (k+1) cN));obtain⟨wZ,g9⟩:=Nm (wM.setCell ⟨od,0,none⟩ (.slice sN (k+1) cN));rw[<-g9]at H5⊢;have g0:=Kh (b7.out.kept H5.out.kept H5.out.wk);refine hK.out _ _ ⟨trivial,fun h=>by simp at h⟩ ?_;clear hK K g9
  try simp only[Act.put,sPa,sPb,sPc]
  refine nO (by kernel_rfl) ?_ _;refine NoPanic.normal ?_;clear i7 l4 l0 c2 b9 b7 b8 g5;go_wp2;go_roundg (np-(k+1))
  case measure=>have:=g4.out;omega
  exact⟨k+1,sN,cN,_,_,by have:=g4.out;omega,by go_num,H5.out.rebase,g0.out,f7.out⟩
 have i3:k=np:=by have:=g4.out;omega
 have l3:¬(k:Int)<np:=(by omega);have j0:Hid (ps.take k=ps):=Kh (List.take_of_length_le (by rw[<-H6.out];omega));have j6:=Kh i3;have b4:=H9.out.box;obtain⟨x0,x1,x2⟩:=zQ b4;have e7:=zB c0.out a7;obtain⟨f40,f41,f42,n6,v0,v1,v2⟩:=wK e7;have j2:=Kh e7;have n3:P≠od:=(by have:=j3.out;have:=j4.out;omega);clear i3 b4;go_wp2;obtain⟨w9,c3,g1,z1,q0,q1,q2⟩:=uP e7 (.slice sp k cp) (.slice sa m cap) (.int .i64 (q:Int));rw[<-c3];refine bodyPost_ret (v:=.agg #[.slice sp k cp,.slice sa m cap,.int .i64 (q:Int)]) (by simp[results,Tryz.results51,go_sem,q0,q1,q2,Result.andThen]) rfl ?_;have l7:uH X wr w9:=uH.of_grown H9.out.mem.lt g1 (fun j e hx=>by have e:P=j:=Oj e;have:=f8.out j hx;have:=j3.out;have:=b6.out;omega);have a5:=g2.out.kept l7 g1.size;rw[j0.out]at a5;have e1:∀j,X j->j<w9.heap.size:=fun j hj=>Nat.lt_of_lt_of_le (H9.out.mem.lt j hj) g1.size;have ho:=H9.out.own (r:=⟨w4.heap.size,65,.slice sp k cp,k,svs,1⟩) (by simp);have a6:=ho.kept g1 (.inr (zO ho j2.out a4));have hc:=zP j5.out a7;have i6:=hc.kept g1 (.inr (zO hc j2.out e4));have k7:svs.length=k:=by have:=g2.out.1;rw[j0.out,<-H6.out]at this;have:=j6.out;omega
 have k0:=l8.out;have k5:=b6.out;refine⟨_,⟨ps,cs,(q:Int)⟩,rfl,fun w2' H1=>?_,rfl,?_,by show (0:Int)<=q;omega,e0.out.hi,e0.out.dec,by have:=e0.out.few;simp at this;omega,?_⟩
 ·have l6:uH X w9 w2':=uH.but e1 H1 (fun j (e:j<w.heap.size) hx=>by have:=f8.out j hx;omega)
  have k8:=(a5.kept l6 H1.size).rowsT;have l1:=nD a6 H1 (fun j e (hj:j<w.heap.size)=>by have:w4.heap.size<=j:=(a6.lt j e).1;omega);have a3:=nD i6 H1 (fun j e (hj:j<w.heap.size)=>by have:w2.heap.size<=j:=(i6.lt j e).1;omega);refine⟨_,_,rfl,⟨svs,(RowT.of_owns l1).row,?_,?_⟩,?_⟩
  ·show svs.length=ps.length
   rw[k7,j6.out,H6.out]
  ·intro i h1 h2
   refine⟨(k8.2 i h1 h2).row,fun j hj=>?_⟩;have i9:i<ps.length:=h2;obtain⟨pb,po,pcap,e,l5,f4,a3,h9⟩:=HP.out.at_ (by omega);obtain⟨ea,ec,c1,H2,c9⟩:=h9 i i9;have e5:ps.getD i []=ps[i]:=zG i9;rw[e5]at c9;exact c9 j hj
  rw[HM.out]at a3;have e9:=qFX a3 (Nat.le_refl w2'.heap.size);rw[<-HM.out]at e9;exact e9
 ·show wT ps.length cs cs.length
  rw[<-H6.out];exact e0.out.ok
 exact zY (zA d9.out a7) g1 (by show _<=P;have:=m6.out;omega)
theorem qNL {l:List Nat}{np j:Nat}(h:l.length=np)(hj:j<np)(h0:l.getD j 0=0):oP l np (j+1)=oP l np j:=by
 rw[<-iL h hj,h0];refine List.ext_getElem (by simp) fun i h1 h2=>?_;rw[List.getElem_set]
 split
 ·rename_i e;subst e
  have hl:(l.take j).length=j:=by rw[List.length_take];omega
  have:(oP l np j)[j]?=some 0:=by
   unfold oP;rw[List.getElem?_append_right (by omega),hl,Nat.sub_self];rw[List.getElem?_replicate];rw[if_pos (by omega)]
  rw[List.getElem?_eq_getElem (by simpa using h2)]at this;exact(Oj this).symm
 rfl
theorem qFU {base:Nat}{w:World}{g cap n:Nat}{l:List ClaV}(h:w.ownsRow base 92 3 (.slice (some ⟨g,0,none⟩) n cap) n (sR l)){i:Nat}(hi:i<l.length):w.cell? ⟨g,i*3+1,none⟩=some (.int .i64 (l.getD i default).yes)/\w.cell? ⟨g,i*3+2,none⟩=some (.int .i64 (l.getD i default).no)/\w.frozen? ⟨g,i*3+1,none⟩=false/\w.frozen? ⟨g,i*3+2,none⟩=false:=by
 have h0:∀g j,(⟨g,0,none⟩:Addr).add j=⟨g,j,none⟩:=fun g j=>by unfold Addr.add;split<;>simp_all
 have c1:=h.cells (g:=g) rfl _ _ (oR l i hi).2.1;have c2:=h.cells (g:=g) rfl _ _ (oR l i hi).2.2;rw[h0]at c1 c2;rcases h.2 with ⟨hv,_⟩|⟨g',cap',cur,hv,hb,hg,hnc,hcm,hcs,htake⟩
 ·simp at hv
 simp only[Value.slice.injEq,Option.some.injEq,Addr.mk.injEq]at hv;obtain⟨⟨rfl,_⟩,_,rfl⟩:=hv;rw[zG hi];exact⟨c1,c2,frozen_of_row w g _ _ _ hg,frozen_of_row w g _ _ _ hg⟩
theorem aT {w:World}{base e n sc:Nat}{sa:Option Addr}{xs:List Value}(h:w.ownsRow base e 3 (.slice sa n sc) n xs)(hn:0<n):∃kb,sa=some ⟨kb,0,none⟩/\n<=sc/\sc<=maxLen:=by
 rcases h.2 with ⟨h',h0⟩|⟨g,cap,cur,h1,hb,hg,hnc,hcm,_⟩
 ·omega
 simp only[Value.slice.injEq]at h1;obtain⟨rfl,-,rfl⟩:=h1;exact⟨g,rfl,hnc,hcm⟩
def qTY (w:World)(ds:List DfaV)(np:Nat)(L:List (List Nat))(e:Ending)(w':World):Prop :=
 ∃l sa sc,e=.returned (.slice sa (l:List ClaV).length sc)/\w'.ownsRow w.heap.size 92 3 (.slice sa l.length sc) l.length (sR l)/\ClsI (fun s=>mtsT ds np (L.getD s [])) (fun s=>accT ds (L.getD s []) np) L.length L.length l/\w.grownBy w' none
structure ClS (w:World)(mb np:Nat)(M:Nat->List Bool)(A:Nat->Bool)(s t:Nat)(sa:Option Addr)(sc:Nat)(l:List ClaV)(wr:World):Prop where
 own:wr.ownsRow w.heap.size 92 3 (.slice sa l.length sc) l.length (sR l)
 map:∃u c,u<=t/\MapK 9 (fun m:List Bool=>m.length=np) (fun m=>.string (mT m)) wr mb u c (numC l)
 cls:ClsI M A s t l
 gr:w.grownBy wr none
 mlo:w.heap.size<=mb
section
variable {w wr w':World} {mb np s t:Nat} {M:Nat->List Bool} {A:Nat->Bool} {sa:Option Addr} {sc:Nat} {l:List ClaV}
theorem ClS.grow (h:ClS w mb np M A s t sa sc l wr)(hg:wr.grownBy w' none):ClS w mb np M A s t sa sc l w':=by
 obtain⟨u,c,hu,hm⟩:=h.map;exact⟨zP h.own hg,⟨u,c,hu,hm.kept hg (by simp)⟩,h.cls,zA h.gr hg,h.mlo⟩
theorem ClS.bytes (h:ClS w mb np M A s t sa sc l wr){tb:Nat}{xs:List Value}(ha:Arr wr tb 5 xs)(a9:w.heap.size<=tb)(hg:wr.grownBy w' (some tb)):ClS w mb np M A s t sa sc l w':=by
 obtain⟨u,c,hu,hm⟩:=h.map;obtain⟨cs,r,hb,_⟩:=id ha;have h1:(Value.slice sa l.length sc).ownBlock≠some tb:=fun e=>zO h.own hb (by decide) e;refine⟨h.own.kept hg (.inr (fun e=>h1 e)),⟨u,c,hu,hm.kept hg (fun e=>?_)⟩,h.cls,zY h.gr hg (by show _<=tb;omega),h.mlo⟩;have e:tb=mb:=Oj e;obtain⟨es,clock,h0⟩:=hm.obj;rw[<-e,hb]at h0;simp at h0
end
theorem eW (Bd:Nat)(w:World)(o k:Nat)(pv:Value)(ds:List DfaV)(L:List (List Nat))(a8 fr bl:List Nat)(sb sc nb nc fb fc bb bc np:Nat)(a5:Bd<=w.heap.size)(h:ProdV w o k pv L a8 fr bl sb sc nb nc fb fc bb bc)(hd:DsIn Bd w pv ds)(a7:OkT ds k)(a6:ds.length=np+1)(a9:∀s,s<L.length->InT ds (L.getD s []))(hl:ds.length<=400)(hL:L.length<=4000):Calls Tryz.prog 49 #[.pointer (some ⟨o,0,none⟩),.int .i64 (np:Int)] w (qTY w ds np L):=by
 have a2:Hid (∀(W:World) (s i:Nat),w.grownBy W none->s<L.length->i<ds.length->Calls Tryz.prog 67 #[.pointer (some ⟨o,0,none⟩),.int .i64 (s:Int),.int .i64 (i:Int)] W fun e w'=>e=.returned (.bool (accT ds (L.getD s []) i))/\W.grownBy w' none):=Kh (fun W s i hW hs hi=>qEE Bd W o k pv ds L a8 fr bl sb sc nb nc fb fc bb bc s i (h.grow hW) (hd.kept hW (by simp)) a7 hs hi (a9 s hs) hl hL);obtain⟨M,hM⟩:∃M:Nat->List Bool,M=fun s=>mtsT ds np (L.getD s []):=⟨_,rfl⟩;obtain⟨A,hA⟩:∃A:Nat->Bool,A=fun s=>accT ds (L.getD s []) np:=⟨_,rfl⟩;have a1:Hid (∀s,(M s).length=np):=Kh (fun s=>by rw[hM];exact nI _ _ _);have k3:Hid (∀s i,i<np->accT ds (L.getD s []) i=(M s).getD i false):=Kh (fun s i hi=>by rw[hM];exact(fY hi).symm);have g4:Hid (∀s,accT ds (L.getD s []) np=A s):=Kh (fun s=>by rw[hA]);have i6:=Kh (xBU (n:=np) (by omega));have g0:Hid (qTY w ds np L=fun e w'=>∃l sa sc,e=.returned (.slice sa (l:List ClaV).length sc)/\w'.ownsRow w.heap.size 92 3 (.slice sa l.length sc) l.length (sR l)/\ClsI M A L.length L.length l/\w.grownBy w' none):=Kh (by rw[hM,hA];rfl);rw[g0.out];obtain⟨x0,x1,x2,x3,x4,x5⟩:=h.cells;have f6:=h.caps;obtain⟨m,hm⟩:=Nm L.length;have j4:np<=400:=by omega
 have g3:Hid (np<ds.length):=Kh (by omega);rw[<-hm]at x2 f6 a2 hL⊢;have k2:sc<=9223372036854775807:=by have:=f6.2.1;unfold maxLen at this;omega
 have j6:=@run_makeMap Tryz.prog;have k0:Hid (∀W:World,(Instr.makeSlice 73 (.int .i64 (np:Int)) (.int .i64 (np:Int))).run Tryz.prog W=.ok (.slice (some ⟨W.heap.size,0,none⟩) np np) (W.alloc (.cells (madeCells #[.int .u8 0] np) 5))):=Kh (fun W=>run_make_row' 73 5 (.int .u8 0) 1 Tryz.underlying73 (by kernel_rfl) rfl .i64 .i64 np (by omega) (by omega) W);clear h hd a7 hM hA a9 f6 hm x0 x1 x3 x4 x5 a6 hl;go_enter Tryz.func49,Tryz.ntmps49;go_upto_region 3 with fail;obtain⟨mb,g7⟩:=Nm w.heap.size;obtain⟨w1,c6⟩:=Nm (w.alloc (.map #[] 0));have H2:=MapK.made 9 (fun m:List Bool=>m.length=np) (fun m=>.string (mT m)) w;have b1:=Ga w (.map #[] 0) none;rw[<-c6]at H2 b1⊢;rw[<-g7]at H2⊢;have i4:Hid (ClS w mb np M A 0 0 none 0 [] w1):=Kh ⟨World.ownsRow_nil _ _ _ _,⟨0,0,Nat.le_refl _,H2⟩,ClsI.nil M A,b1,by omega⟩;have x2:=xG x2 b1;clear H2 c6 g7 b1 j6;go_wp2
 go_loopg [5,7,8,9,10,11,12,19] m (fun gh v5 v7 v8 v9 v10 v11 v12 v19 wr=>∃(s:Nat) (sa:Option Addr) (sd:Nat) (l:List ClaV),gh+s=m/\v19=.int .i64 s/\v5=.slice sa l.length sd/\ClS w mb np M A s s sa sd l wr)
 case atStart=>exact⟨0,none,0,[],rfl,rfl,rfl,i4.out⟩
 clear i4;obtain⟨s,sa,sd,l,i0,rfl,rfl,H6⟩:=hrel;have H1:=Kh i0;have h7:=Kh H6;clear i0 x2 w1;by_cases hs:s<m
 ·have j2:(s:Int)<m:=by omega
  have g6:=k0.out wr;obtain⟨tb,e4⟩:=Nm wr.heap.size;obtain⟨w1,c6⟩:=Nm (wr.alloc (.cells (madeCells #[.int .u8 0] np) 5));have b1:=Ga wr (.cells (madeCells #[.int .u8 0] np) 5) none;have d5:=Arr.new wr 5 (madeCells #[.int .u8 0] np);rw[show (madeCells #[.int .u8 0] np).toList=List.replicate np (.int .u8 0) by have:=mU (z:=.int .u8 0) rfl np;rw[Nat.mul_one]at this;exact this]at d5;rw[<-c6,<-e4]at g6;rw[<-c6]at b1 d5;rw[<-e4]at d5;have j8:w.heap.size<=tb:=by have:=H6.gr.size;omega
  have i3:=Kh (H6.grow b1);have i9:=Kh d5;clear H6 b1 d5 c6 e4 h7;go_wp2;clear g6
  go_loopg [9,26] np (fun gh v9 v26 wr=>∃i:Nat,gh+i=np/\v26=.int .i64 i/\Arr wr tb 5 (u8s (oP (mN (M s)) np i))/\ClS w mb np M A s s sa sd l wr)
  case atStart=>exact⟨0,rfl,rfl,by rw[gF,qAS];exact i9.out,i3.out⟩
  clear i9 i3 w1;obtain⟨i,i1,rfl,c7,H6⟩:=hrel;have c9:=Kh i1;clear i1;by_cases hi:i<np
  ·have j9:(i:Int)<np:=by omega
   have hg:=H6.gr;have h7:=Kh H6;have i8:=Kh c7;have H3:=a2.out wr s i hg hs (by have:=g3.out;omega);rw[k3.out s i hi]at H3;have c5:Hid ((mN (M s)).getD i 0=if (M s).getD i false=true then 1 else 0):=Kh (xBT (by rw[a1.out];exact hi));obtain⟨b,hb⟩:=Nm ((M s).getD i false);rw[<-hb]at H3 c5;have b2:=Kh H3;clear H3 hb hg c7 H6;go_wp2_with fail;refine b2.out.mono ?_;rintro e w2 ⟨rfl,H9⟩;have d0:=Kh (i8.out.kept H9 (by simp));have a0:=Kh (h7.out.grow H9);clear H9 b2 i8 h7;cases b with
   | false =>
    have HE:=Kh (qNL (l:=mN (M s)) (np:=np) (j:=i) (by rw[rU,a1.out]) hi c5.out);go_wp2;go_roundg (np-(i+1))
    case measure=>have:=c9.out;omega
    exact⟨i+1,by have:=c9.out;omega,by go_num,by rw[HE.out];exact d0.out,a0.out⟩
   | true =>
    have HE:=Kh (iL (l:=mN (M s)) (np:=np) (j:=i) (by rw[rU,a1.out]) hi);rw[c5.out]at HE;have f4:(oP (mN (M s)) np i).length=np:=pU (by rw[rU,a1.out]) (by omega);have c1:=qAT d0.out i (by rw[f4];exact hi);have f1:=d0.out.frozen i;have b3:=d0.out.set i (by rw[bZ,f4];exact hi) (.int .u8 1);rw[show (u8s (oP (mN (M s)) np i)).set i (.int .u8 1)=u8s (oP (mN (M s)) np (i+1)) by rw[<-HE.out];exact eJ _ i 1]at b3;have f9:=Kh b3;have H7:=Kh (a0.out.bytes d0.out j8 (zD w2 ⟨tb,i,none⟩ (.int .u8 1)));have k6:=d0.out.lt;clear b3 f4;go_wp2;go_roundg (np-(i+1))
    case measure=>have:=c9.out;omega
    exact⟨i+1,by have:=c9.out;omega,by go_num,f9.out,H7.out⟩
  have a9:i=np:=by have:=c9.out;omega
  have j9:¬(i:Int)<np:=(by omega);rw[cH (by rw[rU,a1.out]) a9]at c7;have b9:=c7;have e1:∀W:World,wr.grownBy W none->(convert 73 9 (.slice (some ⟨tb,0,none⟩) np np)).run Tryz.prog W=.ok (.string (mT (M s))) W:=fun W hW=>qD 73 5 Tryz.underlying73 Tryz.underlying5 9 Tryz.underlying9 np np (by rw[qCU,rU,a1.out]) (c7.kept hW (by simp));obtain⟨U,hU⟩:=Nm (mT (M s));rw[<-hU]at e1;have d2:=e1 wr (zH _ _);have k7:=Kh e1;obtain⟨u,c,hu,b6⟩:=H6.map;have H4:=b6.lookup i6.out (x:=M s) (a1.out s);obtain⟨HU,f8,H5,h7⟩:=K4 hU hu b6 H6;have HA:=Kh (g4.out s)
  have d9:Hid (∀W:World,wr.grownBy W none->Calls Tryz.prog 67 #[.pointer (some ⟨o,0,none⟩),.int .i64 (s:Int),.int .i64 (np:Int)] W fun e w'=>e=.returned (.bool (A s))/\W.grownBy w' none):=Kh (fun W hW=>by
   have:=a2.out W s np (zA H6.gr hW) hs g3.out
   rwa [g4.out s]at this)
  clear hU hu b6 e1 c7 a9 c9 H6 HA;by_cases hmem:M s∈l.map ClaV.m
  ·obtain⟨q,hq⟩:=Nm ((l.map ClaV.m).idxOf (M s))
   have H0:q<l.length:=by have:=List.idxOf_lt_length_of_mem hmem;rw[<-hq,List.length_map]at this;exact this
   have g5:(l.getD q default).m=M s:=by
    rw[zG H0];have h1:=List.getElem_idxOf (x:=M s) (xs:=l.map ClaV.m) (by rw[<-hq,List.length_map];exact H0);simp only[<-hq,List.getElem_map]at h1;exact h1
   have e8:Sem.run Tryz.prog (Instr.lookup 108 (.map (some mb)) (.string U) true) wr=.ok (.tuple #[.int .i64 (q:Int),.bool true]) wr:=by
    rw[qHK hmem,<-hq]at H4;rw[HU.out];exact H4
   have a0:Hid (ClS w mb np M A s (s+1) sa sd l wr):=Kh ⟨h7.out.own,⟨u,c,Nat.le_succ_of_le f8.out,H5.out⟩,h7.out.cls.old hmem,h7.out.gr,h7.out.mlo⟩;have e7:l.length<=4000:=by have:=h7.out.cls.len_le;omega
   have c8:=Kh H0;have e2:=Kh g5;clear H4 hq g5 hmem H5 h7 H0;obtain⟨nl,b4⟩:=Nm l.length;have h6:=Kh b4;rw[<-b4]at e7 c8⊢;have H0:=c8.out;clear b4;obtain⟨ab,c0⟩:=Nm (A s);rw[<-c0]at d9;have a3:=Kh c0;clear c0;go_wp2_with fail;clear e8 d2;refine(d9.out _ (zH _ _)).mono ?_;rintro e w2 ⟨rfl,H9⟩;have h8:=a0.out.grow H9;have h2:=h8.own;rw[<-h6.out]at h2;obtain⟨gb,rfl,f7,d3⟩:=aT h2 (by omega);have j5:sd<=9223372036854775807:=by unfold maxLen at d3;omega
   obtain⟨cy,cn,fy,fn⟩:=qFU h2 (i:=q) (by rw[<-h6.out];exact H0);have g1:=Kh (cU l q (s:Int) (by rw[<-h6.out];exact H0));have g2:=Kh (qCI l q (s:Int) (by rw[<-h6.out];exact H0));have c2:=Kh (h8.cls.put (by rw[<-h6.out];exact H0) e2.out);obtain⟨y,hy⟩:=Nm ((l.getD q default).yes);obtain⟨z,hz⟩:=Nm ((l.getD q default).no);rw[<-hy]at cy;rw[<-hz]at cn;obtain⟨HY,HZ,H7,h5⟩:=K4 hy hz h8 h2;have f0:gb<w2.heap.size:=(h2.lt gb rfl).2;have e9:w.heap.size<=gb:=(h2.lt gb rfl).1;have j3:(q:Int)<nl:=(by omega);clear H9 h8 h2 hy hz f7 d3 a0
   have h9:Hid (∀(x:ClaV) (W:World),putC (l.getD q default) (A s) s=x->(x.m=(l.getD q default).m)->W.ownsRow w.heap.size 92 3 (.slice (some ⟨gb,0,none⟩) nl sd) nl (sR (l.set q x))->w2.grownBy W (some gb)->ClS w mb np M A (s+1) (s+1) (some ⟨gb,0,none⟩) sd (l.set q x) W):=Kh (fun x W hx hxm ho hg=>by
    obtain⟨u3,c3,e3,d1⟩:=H7.out.map;refine⟨by rw[List.length_set,<-h6.out];exact ho,⟨u3,c3,e3,?_⟩,by have:=c2.out;rw[hx]at this;exact this,zY H7.out.gr hg (by show _<=gb;omega),H7.out.mlo⟩;rw[qKD (by rw[<-h6.out];exact H0) hxm]
    exact d1.kept hg (fun e=>yL (es:=#[]) (clock:=0) H7.out.own d1.obj (by rw[<-e];rfl)))
   have h4:Hid (l.set q (l.getD q default)=l):=Kh (by
    rw[zG (by rw[<-h6.out];exact H0)]
    exact List.set_getElem_self _)
   cases ab with
   | true =>
    by_cases hy0:y<0
    ·have h0:=rS (i:=q*3+1) h5.out (.int .i64 (s:Int))
     rw[g1.out]at h0;have h3:=Kh (h9.out ⟨(l.getD q default).m,(s:Int),(l.getD q default).no⟩ _ (by rw[putC,if_pos a3.out.symm,if_pos (by rw[<-HY.out];exact hy0)]) rfl h0 (zD w2 ⟨gb,q*3+1,none⟩ _));clear h0;go_wp2;go_roundg (m-(s+1))
     case measure=>have:=H1.out;omega
     exact⟨s+1,_,_,l.set q ⟨(l.getD q default).m,(s:Int),(l.getD q default).no⟩,by have:=H1.out;omega,by go_num,by rw[List.length_set,<-h6.out],h3.out⟩
    have h3:=Kh (h9.out (l.getD q default) w2 (by rw[putC,if_pos a3.out.symm,if_neg (by rw[<-HY.out];exact hy0)]) rfl (by rw[h4.out];exact h5.out) (zH _ _));rw[h4.out]at h3;go_wp2;go_roundg (m-(s+1))
    case measure=>have:=H1.out;omega
    exact⟨s+1,_,_,l,by have:=H1.out;omega,by go_num,by rw[<-h6.out],h3.out⟩
   | false =>
    by_cases hz0:z<0
    ·have h0:=rS (i:=q*3+2) h5.out (.int .i64 (s:Int))
     rw[g2.out]at h0;have h3:=Kh (h9.out ⟨(l.getD q default).m,(l.getD q default).yes,(s:Int)⟩ _ (by rw[putC,<-a3.out,if_neg (by simp),if_pos (by rw[<-HZ.out];exact hz0)]) rfl h0 (zD w2 ⟨gb,q*3+2,none⟩ _));clear h0;go_wp2;go_roundg (m-(s+1))
     case measure=>have:=H1.out;omega
     exact⟨s+1,_,_,l.set q ⟨(l.getD q default).m,(l.getD q default).yes,(s:Int)⟩,by have:=H1.out;omega,by go_num,by rw[List.length_set,<-h6.out],h3.out⟩
    have h3:=Kh (h9.out (l.getD q default) w2 (by rw[putC,<-a3.out,if_neg (by simp),if_neg (by rw[<-HZ.out];exact hz0)]) rfl (by rw[h4.out];exact h5.out) (zH _ _));rw[h4.out]at h3;go_wp2;go_roundg (m-(s+1))
    case measure=>have:=H1.out;omega
    exact⟨s+1,_,_,l,by have:=H1.out;omega,by go_num,by rw[<-h6.out],h3.out⟩
  have e8:Sem.run Tryz.prog (Instr.lookup 108 (.map (some mb)) (.string U) true) wr=.ok (.tuple #[.int .i64 0,.bool false]) wr:=by
   rw[qVY hmem]at H4;rw[HU.out];exact H4
  have d7:=Kh hmem;have e6:l.length<=s:=h7.out.cls.len_le;clear H4 hmem;obtain⟨n0,e5⟩:=Nm l.length;have c4:=Kh e5;rw[<-e5]at e6⊢;clear e5;go_upto_region 17 with (first|(at_mapUpdate;refine oH i6.out rfl _ _ _ rfl mb u c (numC l) (M s) n0 rfl ?k1 rfl H5.out (by have:=f8.out;unfold maxLen;omega) (a1.out s) (by omega) ?_;(case k1=>(show _=Value.string (mT (M s));rw[<-HU.out];rfl));intro w8 g9 e0)|fail);have b5:(Value.slice sa n0 sd).ownBlock≠some mb:=by rw[c4.out];exact yL (es:=#[]) (clock:=0) h7.out.own H5.out.obj
  have b0:w8.ownsRow w.heap.size 92 3 (.slice sa n0 sd) n0 (sR l):=by
   have:=h7.out.own.kept e0 (.inr (by rw[<-c4.out];exact fun e=>b5 e))
   rwa [<-c4.out]at this
  have g8:MapK 9 (fun m:List Bool=>m.length=np) (fun m=>.string (mT m)) w8 mb (u+1) (if (numC l (M s)).isSome=true then c else c+1) (numC (l++[⟨M s,-1,-1⟩])):=by
   rw[<-qRC (c:=⟨M s,-1,-1⟩) d7.out,<-c4.out];exact g9
  have f3:=zY h7.out.gr e0 (by show _<=mb;have:=h7.out.mlo;omega);have d4:=b9.kept e0 (fun e=>by have e:mb=tb:=Oj e;obtain⟨es,cl,hb⟩:=H5.out.obj;obtain⟨cs,r,i2,_⟩:=id b9;rw[<-e,hb]at i2;simp at i2)
  have f5:(convert 73 9 (.slice (some ⟨tb,0,none⟩) np np)).run Tryz.prog w8=.ok (.string U) w8:=by
   rw[HU.out];exact qD 73 5 Tryz.underlying73 Tryz.underlying5 9 Tryz.underlying9 np np (by rw[qCU,rU,a1.out]) d4
  obtain⟨H8,i5,i7,d6⟩:=K4 b0 g8 f3 b5;have j0:=f3.size;clear g9 e0 b0 g8 f3 d2 e8 d4 b5 b9;go_upto_region 18 with (first|(at_builtin;refine vZ rfl _ _ _ rfl qCE w.heap.size (.slice sa n0 sd) n0 (sR l) rfl H8.out [.string U,.int .i64 (-1),.int .i64 (-1)] rfl rfl ?z1 ?z2 ?z3 ?z4 ?_;(case z1=>(intro v hv;simp only[List.mem_cons,List.not_mem_nil,or_false]at hv;rcases hv with rfl|rfl|rfl<;>rfl));(case z2=>(unfold maxLen;omega));(case z3=>(show (n0+1)*32<=140737488355328;omega));(case z4=>exact j0);intro sv cv wM a4 f2 j7)|fail);obtain⟨l9,b8⟩:=Nm (l++[(⟨M s,-1,-1⟩:ClaV)]);have k4:=Kh b8;have b7:l9.length=n0+1:=by rw[b8,List.length_append,c4.out];rfl
  have a0:Hid (ClS w mb np M A s (s+1) sv cv l9 wM):=Kh ⟨by
   rw[b7,b8,gH,show cval ⟨M s,-1,-1⟩=[.string U,.int .i64 (-1),.int .i64 (-1)] by rw[HU.out];rfl]
   exact a4,⟨u+1,_,by have:=f8.out;omega,by rw[b8];exact i5.out.kept f2 d6.out⟩,by rw[b8];exact h7.out.cls.new d7.out,zA i7.out f2 (fun k e=>(H8.out.lt k e).1),h7.out.mlo⟩
  have c8:Hid (n0<l9.length):=Kh (by omega)
  have e2:Hid ((l9.getD n0 default).m=M s):=Kh (by
   rw[b8,List.getD_eq_getElem?_getD,c4.out];simp)
  have k5:=Kh a0.out.gr;clear a4 f2 j7 f5 b8 H8 i5 i7 d6 h7 H5;rw[show (n0+1:Nat)=l9.length from b7.symm];have e7:l9.length<=4000:=by omega
  obtain⟨q,hq⟩:=Nm n0;rw[<-hq]at c8 e2⊢;clear b7 hq c4 k4;obtain⟨nl,b4⟩:=Nm l9.length;have h6:=Kh b4;rw[<-b4]at e7 c8⊢;have H0:=c8.out;clear b4;obtain⟨ab,c0⟩:=Nm (A s)
  have d8:Hid (∀W:World,wM.grownBy W none->Calls Tryz.prog 67 #[.pointer (some ⟨o,0,none⟩),.int .i64 (s:Int),.int .i64 (np:Int)] W fun e w'=>e=.returned (.bool ab)/\W.grownBy w' none):=Kh (fun W hW=>by
   have:=a2.out W s np (zA k5.out hW) hs g3.out
   rwa [g4.out s,<-c0]at this)
  have a3:=Kh c0;clear c0;go_wp2_with fail;refine(d8.out _ (zH _ _)).mono ?_;rintro e w2 ⟨rfl,H9⟩;have h8:=a0.out.grow H9;have h2:=h8.own;rw[<-h6.out]at h2;obtain⟨gb,rfl,f7,d3⟩:=aT h2 (by omega);have j5:cv<=9223372036854775807:=by unfold maxLen at d3;omega
  obtain⟨cy,cn,fy,fn⟩:=qFU h2 (i:=q) (by rw[<-h6.out];exact H0);have g1:=Kh (cU l9 q (s:Int) (by rw[<-h6.out];exact H0));have g2:=Kh (qCI l9 q (s:Int) (by rw[<-h6.out];exact H0));have c2:=Kh (h8.cls.put (by rw[<-h6.out];exact H0) e2.out);obtain⟨y,hy⟩:=Nm ((l9.getD q default).yes);obtain⟨z,hz⟩:=Nm ((l9.getD q default).no);rw[<-hy]at cy;rw[<-hz]at cn;obtain⟨HY,HZ,H7,h5⟩:=K4 hy hz h8 h2;have f0:gb<w2.heap.size:=(h2.lt gb rfl).2;have e9:w.heap.size<=gb:=(h2.lt gb rfl).1;have j3:(q:Int)<nl:=(by omega);clear H9 h8 h2 hy hz f7 d3 a0
  have h9:Hid (∀(x:ClaV) (W:World),putC (l9.getD q default) (A s) s=x->(x.m=(l9.getD q default).m)->W.ownsRow w.heap.size 92 3 (.slice (some ⟨gb,0,none⟩) nl cv) nl (sR (l9.set q x))->w2.grownBy W (some gb)->ClS w mb np M A (s+1) (s+1) (some ⟨gb,0,none⟩) cv (l9.set q x) W):=Kh (fun x W hx hxm ho hg=>by
   obtain⟨u3,c3,e3,d1⟩:=H7.out.map;refine⟨by rw[List.length_set,<-h6.out];exact ho,⟨u3,c3,e3,?_⟩,by have:=c2.out;rw[hx]at this;exact this,zY H7.out.gr hg (by show _<=gb;omega),H7.out.mlo⟩;rw[qKD (by rw[<-h6.out];exact H0) hxm]
   exact d1.kept hg (fun e=>yL (es:=#[]) (clock:=0) H7.out.own d1.obj (by rw[<-e];rfl)))
  have h4:Hid (l9.set q (l9.getD q default)=l9):=Kh (by
   rw[zG (by rw[<-h6.out];exact H0)]
   exact List.set_getElem_self _)
  cases ab with
  | true =>
   by_cases hy0:y<0
   ·have h0:=rS (i:=q*3+1) h5.out (.int .i64 (s:Int))
    rw[g1.out]at h0;have h3:=Kh (h9.out ⟨(l9.getD q default).m,(s:Int),(l9.getD q default).no⟩ _ (by rw[putC,if_pos a3.out.symm,if_pos (by rw[<-HY.out];exact hy0)]) rfl h0 (zD w2 ⟨gb,q*3+1,none⟩ _));clear h0;go_wp2;go_roundg (m-(s+1))
    case measure=>have:=H1.out;omega
    exact⟨s+1,_,_,l9.set q ⟨(l9.getD q default).m,(s:Int),(l9.getD q default).no⟩,by have:=H1.out;omega,by go_num,by rw[List.length_set,<-h6.out],h3.out⟩
   have h3:=Kh (h9.out (l9.getD q default) w2 (by rw[putC,if_pos a3.out.symm,if_neg (by rw[<-HY.out];exact hy0)]) rfl (by rw[h4.out];exact h5.out) (zH _ _));rw[h4.out]at h3;go_wp2;go_roundg (m-(s+1))
   case measure=>have:=H1.out;omega
   exact⟨s+1,_,_,l9,by have:=H1.out;omega,by go_num,by rw[<-h6.out],h3.out⟩
  | false =>
   by_cases hz0:z<0
   ·have h0:=rS (i:=q*3+2) h5.out (.int .i64 (s:Int))
    rw[g2.out]at h0;have h3:=Kh (h9.out ⟨(l9.getD q default).m,(l9.getD q default).yes,(s:Int)⟩ _ (by rw[putC,<-a3.out,if_neg (by simp),if_pos (by rw[<-HZ.out];exact hz0)]) rfl h0 (zD w2 ⟨gb,q*3+2,none⟩ _));clear h0;go_wp2;go_roundg (m-(s+1))
    case measure=>have:=H1.out;omega
    exact⟨s+1,_,_,l9.set q ⟨(l9.getD q default).m,(l9.getD q default).yes,(s:Int)⟩,by have:=H1.out;omega,by go_num,by rw[List.length_set,<-h6.out],h3.out⟩
   have h3:=Kh (h9.out (l9.getD q default) w2 (by rw[putC,<-a3.out,if_neg (by simp),if_neg (by rw[<-HZ.out];exact hz0)]) rfl (by rw[h4.out];exact h5.out) (zH _ _));rw[h4.out]at h3;go_wp2;go_roundg (m-(s+1))
   case measure=>have:=H1.out;omega
   exact⟨s+1,_,_,l9,by have:=H1.out;omega,by go_num,by rw[<-h6.out],h3.out⟩
 have j1:s=m:=by have:=H1.out;omega
 have j2:¬(s:Int)<m:=(by omega);subst j1;go_wp2;go_ret;exact⟨l,sa,sd,rfl,h7.out.own,h7.out.cls,h7.out.gr⟩
def xCX (w:World)(d:DfaV)(ps:List (List ByteArray))(e:Ending)(w':World):Prop :=
 ∃v u1 u2 E,e=.returned (.tuple #[v,.string u1,.string u2,.int .i64 E])/\OfOut w' d ps v u1 u2 E/\w.grownBy w' none
def xCW (w:World)(d:DfaV)(ps:List (List ByteArray))(e:Ending)(w':World):Prop :=
 ∃v u1 u2 E,e=.returned (.tuple #[v,.string u1,.string u2,.int .i64 E])/\(∀w2,GrownBut w' w2 (fun j=>j<w.heap.size)->OfOut w2 d ps v u1 u2 E)/\w.grownBy w' none
theorem aA (w:World)(c1:Array Value)(e1:Nat)(c2:Array Value)(e2:Nat):((w.alloc (.cells c1 e1)).alloc (.cells c2 e2)).heap[w.heap.size]?=some (.cells c1 e1 (0,0))/\((w.alloc (.cells c1 e1)).alloc (.cells c2 e2)).heap[w.heap.size+1]?=some (.cells c2 e2 (0,0))/\w.grownBy ((w.alloc (.cells c1 e1)).alloc (.cells c2 e2)) none/\((w.alloc (.cells c1 e1)).alloc (.cells c2 e2)).heap.size=w.heap.size+2 :=
 ⟨oO w _ _,oL w _ _,vC (Ga w _ none) _,by rw[zL,zL]⟩
theorem qKW (Bd:Nat)(w:World)(dv pv:Value)(d:DfaV)(ps:List (List ByteArray))(a8:Bd<=w.heap.size)(hd:tM Bd w dv d)(hp:vE Bd w pv ps)(a9:ps.length<=4096):Calls Tryz.prog 24 #[dv,pv] w (xCW w d ps):=by
 have e7:=hd;obtain⟨fv,nv,rfl,hf,hn⟩:=hd;obtain⟨fa,fc,rfl⟩:=hf.shape;rw[yV]at e7 hf⊢;obtain⟨na,nc,rfl⟩:=hn.shape;obtain⟨pa,pc,rfl⟩:=hp.shape;obtain⟨np,j1⟩:=Nm ps.length;obtain⟨fl,p0⟩:=Nm d.final.length;obtain⟨nl,o4⟩:=Nm d.next.length;obtain⟨dl,k8⟩:=Nm d.letters;obtain⟨ds,p1⟩:=Nm d.start;obtain⟨H0,HP,y3⟩:=K3 j1 hp k8;rw[<-j1]at a9 HP⊢;rw[<-p0,<-o4,<-k8,<-p1]at e7⊢;have HD:=Kh e7;obtain⟨f1,g8,g7,m7⟩:=aA w #[.int .i64 dl,.int .i64 ds,.slice fa fl fc,.slice na nl nc] 30 #[.slice none 0 0,.slice none 0 0,.int .i64 0] 35;obtain⟨wA,l2⟩:=Nm ((w.alloc (.cells #[.int .i64 dl,.int .i64 ds,.slice fa fl fc,.slice na nl nc] 30)).alloc (.cells #[.slice none 0 0,.slice none 0 0,.int .i64 0] 35));rw[<-l2]at f1 g8 g7 m7;obtain⟨c0,c1,c2,c3⟩:=zE f1;obtain⟨Q,hQ⟩:=Nm w.heap.size;obtain⟨P,hP⟩:=Nm (w.heap.size+1);have t9:=Kh hQ;have q6:Hid (P=Q+1):=Kh (by omega);have d6:Hid (w.heap.size<=P):=Kh (by omega);rw[<-hP]at g8;rw[<-hQ]at f1 c0 c1 c2 c3;obtain⟨y7,y6,y1,s7⟩:=K4 f1 g8 g7 l2;have y4:=Kh (e7.kept g7 (by simp));have s4:Bd<=wA.heap.size:=by omega
 have l4:=Kh (sK Bd wA _ d s4 y4.out);obtain⟨E,hE⟩:=Nm (xK d);rw[<-hE]at l4;have HE:=Kh hE;clear f1 g8 g7 l2 m7 hP hQ hf hn e7 hp j1 p0 o4 k8 p1 hE;go_enter Tryz.func24,Tryz.ntmps24;go_upto_region 1 with fail;rw[<-s7.out,<-t9.out,<-q6.out];go_wp2_with fail;refine l4.out.mono ?_;rintro e w1 ⟨rfl,c4⟩;have h2:=Kh (zA y1.out c4);have h0:=Kh (zB y6.out c4);have H8:=Kh (zB y7.out c4);have z4:=Kh c4;clear c4 l4 c0 c1 c2 c3;by_cases hE0:E=0
 case neg =>
  have h6:Hid (ofE d ps=E):=Kh (by rw[qQU (by rw[<-HE.out];exact hE0),HE.out]);have l8:=Kh hE0;have e1:(E != 0)=true:=by rw[bne_iff_ne];exact hE0
  clear hE0;have h4:=h0.out;obtain⟨f40,f41,f42,e4,v0,v1,v2⟩:=wK h4;go_wp2;obtain⟨w9,H7,g1,z1,q0,q1,q2⟩:=uP h4 (.slice none 0 0) (.slice none 0 0) (.int .i64 0);rw[<-H7];refine bodyPost_ret (v:=.tuple #[.agg #[.slice none 0 0,.slice none 0 0,.int .i64 0],.string ⟨#[]⟩,.string ⟨#[]⟩,.int .i64 E]) (by simp[results,Tryz.results24,go_sem,q0,q1,q2,Result.andThen]) rfl ?_;exact⟨_,_,_,_,rfl,(fun w2 d5=>by have:=OfOut.bad (w':=w2) (d:=d) (ps:=ps) (by rw[h6.out];exact l8.out);rwa [h6.out]at this),zY h2.out g1 (by show _<=P;have:=d6.out;omega)⟩
 have i0:Hid (xK d=0):=Kh (by rw[<-HE.out];exact hE0);subst hE0;by_cases h3:300<np
 case pos =>
  have s5:(300:Int)<np:=(by omega);have h6:Hid (ofE d ps=3):=Kh (qVQ i0.out (by rw[<-H0.out];exact h3));have h4:=h0.out;obtain⟨f40,f41,f42,e4,v0,v1,v2⟩:=wK h4;go_wp2;obtain⟨w9,H7,g1,z1,q0,q1,q2⟩:=uP h4 (.slice none 0 0) (.slice none 0 0) (.int .i64 0);rw[<-H7];refine bodyPost_ret (v:=.tuple #[.agg #[.slice none 0 0,.slice none 0 0,.int .i64 0],.string ⟨#[]⟩,.string ⟨#[]⟩,.int .i64 3]) (by simp[results,Tryz.results24,go_sem,q0,q1,q2,Result.andThen]) rfl ?_;exact⟨_,_,_,_,rfl,(fun w2 d5=>by have:=OfOut.bad (w':=w2) (d:=d) (ps:=ps) (by rw[h6.out];decide);rwa [h6.out]at this),zY h2.out g1 (by show _<=P;have:=d6.out;omega)⟩
 have s5:¬(300:Int)<np:=(by omega);have l7:Hid (ofE d ps=vV d.letters ps):=Kh (qVP i0.out (by rw[<-H0.out];exact h3));have f3:=Kh (bM i0.out);have g5:=f3.out.hk;have k5:=f3.out.k1;have k0:=f3.out.k6;obtain⟨k,hk⟩:=Nm d.letters.toNat;rw[<-hk]at g5 k5 k0 f3;have s3:dl=(k:Int):=by rw[y3.out,g5]
 have HK:Hid (d.letters=(k:Int)):=Kh g5;have a4:=Kh hk;subst s3;clear g5 hk;have g3:=h0;have d4:Hid (Calls Tryz.prog 46 #[.slice pa np pc,.int .i64 (k:Int)] w1 (qLN w1 (vV (k:Int) ps) (autD ps (k:Int)))):=Kh (qGE Bd w1 _ ps (k:Int) (by have:=h2.out.size;omega) (HP.out.kept h2.out (by simp)) (by rw[<-H0.out];exact a9));obtain⟨E2,a3⟩:=Nm (vV (k:Int) ps);rw[<-a3]at d4;rw[HK.out,<-a3]at l7;obtain⟨c0,c1,c2,c3⟩:=zE H8.out;have y8:=h2.out.size;clear a3;go_wp2_with fail;refine d4.out.mono ?_;rintro e w2 ⟨sa,n2,sc,rfl,b9,f2⟩;have h2:=Kh (zA h2.out b9);have h0:=Kh (zB h0.out b9);have H8:=Kh (zB H8.out b9);have r7:=Kh f2;have h5:Hid (w1.heap.size<=w2.heap.size):=Kh b9.size;clear b9 f2 d4 c0 c1 c2 c3;by_cases a3:E2=0
 case neg =>
  have h6:=l7;have l8:=Kh a3;have e1:(E2 != 0)=true:=by rw[bne_iff_ne];exact a3
  clear a3;have h4:=h0.out;obtain⟨f40,f41,f42,e4,v0,v1,v2⟩:=wK h4;go_wp2;obtain⟨w9,H7,g1,z1,q0,q1,q2⟩:=uP h4 (.slice none 0 0) (.slice none 0 0) (.int .i64 0);rw[<-H7];refine bodyPost_ret (v:=.tuple #[.agg #[.slice none 0 0,.slice none 0 0,.int .i64 0],.string ⟨#[]⟩,.string ⟨#[]⟩,.int .i64 E2]) (by simp[results,Tryz.results24,go_sem,q0,q1,q2,Result.andThen]) rfl ?_;exact⟨_,_,_,_,rfl,(fun w2 d5=>by have:=OfOut.bad (w':=w2) (d:=d) (ps:=ps) (by rw[h6.out];exact l8.out);rwa [h6.out]at this),zY h2.out g1 (by show _<=P;have:=d6.out;omega)⟩
 obtain⟨-,j4,lp,j7,n8⟩:=r7.out.resolve_left (fun h=>h a3);have p4:ofE d ps=0:=by rw[l7.out,a3]
 have b3:=Kh p4;have j3:n2=np:=by rw[j4,xX,H0.out]
 subst j3;subst a3;have o6:lp.length=n2:=by have:=congrArg List.length j7;rw[List.length_map,<-j4]at this;exact this
 obtain⟨b2,x8,q9⟩:=K3 n8 j7 o6;clear j4 j7 n8 r7 o6 p4;go_upto_region 9 with fail;obtain⟨w5,c7⟩:=Nm w2.drew;have h9:w2.grownBy w5 none:=(by rw[c7];exact zN w2 none);have l3:=Kh c7;have h2:=Kh (zA h2.out h9);have h0:=Kh (zB h0.out h9);have H8:=Kh (zB H8.out h9);have b2:=Kh (b2.out.grow h9);have h5:Hid (w1.heap.size<=w5.heap.size):=Kh (Nat.le_trans h5.out h9.size);have C5:Hid (w5.cell? ⟨Q,0,none⟩=some (.int .i64 (k:Int))/\w5.cell? ⟨Q,1,none⟩=some (.int .i64 ds)/\w5.cell? ⟨Q,2,none⟩=some (.slice fa fl fc)/\w5.cell? ⟨Q,3,none⟩=some (.slice na nl nc)):=Kh (zE H8.out);have f5:Hid (Calls Tryz.prog 48 #[.agg #[.int .i64 (k:Int),.int .i64 ds,.slice fa fl fc,.slice na nl nc]] w5 (qTV w5 (minD d k))):=Kh (qJS Bd w5 _ d _ k (by have:=h2.out.size;omega) (HD.out.kept h2.out (by simp)) f3.out (qOO i0.out));clear h9 c7;refine wp_region_noPanic ?_;refine xE (G:=vU 7 (fun _=>True) (fun W=>W.cell? ⟨Q,0,none⟩=some (.int .i64 (k:Int))/\W.cell? ⟨Q,1,none⟩=some (.int .i64 ds)/\W.cell? ⟨Q,2,none⟩=some (.slice fa fl fc)/\W.cell? ⟨Q,3,none⟩=some (.slice na nl nc))) (by kernel_rfl) ?_;rw[<-l3.out];refine yG 0 ?_;refine yG 5 ?_;refine kQ 6 ?_;obtain⟨k1,k2,k3,k4⟩:=C5.out;refine oneG (i:=1) (by kernel_rfl) rfl (fun K hK=>?_);go_simp;refine hK.out _ _ ⟨trivial,fun _=>C5.out⟩ ?_;clear hK K k1 k2 k3 k4
 try simp only[Act.put,sPa,sPb,sPc]
 refine oneG (i:=2) (by kernel_rfl) rfl (fun K hK=>?_);go_simp
 go_at_call 48
 refine f5.out.mono ?_;rintro e w6 ⟨v6,rfl,e0,h8⟩;obtain⟨f6,x6,rfl,i6⟩:=e0.t;obtain⟨fa6,fl6,fc6,na6,nl6,nc6,rfl,rfl⟩:=i6.shapes;have q5:=Kh i6;have h2:=Kh (zA h2.out h8);have h0:=Kh (zB h0.out h8);have H8:=Kh (zB H8.out h8);have b2:=Kh (b2.out.grow h8);have h5:Hid (w1.heap.size<=w6.heap.size):=Kh (Nat.le_trans h5.out h8.size);have C6:Hid (w6.cell? ⟨Q,0,none⟩=some (.int .i64 (k:Int))/\w6.cell? ⟨Q,1,none⟩=some (.int .i64 ds)/\w6.cell? ⟨Q,2,none⟩=some (.slice fa fl fc)/\w6.cell? ⟨Q,3,none⟩=some (.slice na nl nc)):=Kh (zE H8.out);obtain⟨ml,j6⟩:=Nm ((minD d k).letters);obtain⟨ms,j5⟩:=Nm ((minD d k).start);rw[<-j6,<-j5];have x3:=Kh j6;have x2:=Kh j5;refine hK.out _ _ ⟨trivial,fun _=>C6.out⟩ ?_;clear hK K C5 e0 h8 i6 f5 j6 j5
 try simp only[Act.put,sPa,sPb,sPc]
 refine oneG (i:=3) (by kernel_rfl) rfl (fun K hK=>?_);go_simp;have g6:=heap_alloc_new w6 (.cells #[.int .i64 ml,.int .i64 ms,.slice fa6 fl6 fc6,.slice na6 nl6 nc6] 30);have H9:=Ga w6 (.cells #[.int .i64 ml,.int .i64 ms,.slice fa6 fl6 fc6,.slice na6 nl6 nc6] 30) none;obtain⟨R7,p3⟩:=Nm w6.heap.size;obtain⟨w7,n4⟩:=Nm (w6.alloc (.cells #[.int .i64 ml,.int .i64 ms,.slice fa6 fl6 fc6,.slice na6 nl6 nc6] 30));rw[<-n4]at g6 H9⊢;rw[<-p3]at g6⊢;have q4:=Kh (q5.out.grow H9);have h2:=Kh (zA h2.out H9);have h0:=Kh (zB h0.out H9);have H8:=Kh (zB H8.out H9);have b2:=Kh (b2.out.grow H9);have h5:Hid (w1.heap.size<=w7.heap.size):=Kh (Nat.le_trans h5.out H9.size);have C7:Hid (w7.cell? ⟨Q,0,none⟩=some (.int .i64 (k:Int))/\w7.cell? ⟨Q,1,none⟩=some (.int .i64 ds)/\w7.cell? ⟨Q,2,none⟩=some (.slice fa fl fc)/\w7.cell? ⟨Q,3,none⟩=some (.slice na nl nc)):=Kh (zE H8.out);refine hK.out _ _ ⟨trivial,fun _=>C7.out⟩ ?_;clear hK K C6 n4 p3 H9 q5
 try simp only[Act.put,sPa,sPb,sPc]
 have g4:=b2.out.own;rw[q9.out]at g4;have m9:=h5.out;refine oneG (i:=4) (by kernel_rfl) rfl (fun K hK=>?_);refine qO rfl (.tmp 38) (.tmp 41) 82 rfl iM w1.heap.size (.slice sa n2 sc) n2 (jC lp) rfl g4 [.int .i64 ml,.int .i64 ms,.slice fa6 fl6 fc6,.slice na6 nl6 nc6] R7 rfl (0,0) rfl g6 ?z1 ?z2 ?z3 m9 ?_
 case z1=>intro v hv;simp only[List.mem_cons,List.not_mem_nil,or_false]at hv;rcases hv with rfl|rfl|rfl|rfl<;>rfl
 case z2=>unfold maxLen;omega
 case z3=>show (n2+1)*64<=140737488355328;omega
 intro sN cN wM d9 e6 s0;have d8:=b2.out.push (v':=.slice sN (n2+1) cN) (x:=(minD d k,.slice fa6 fl6 fc6,.slice na6 nl6 nc6)) q4.out (by rw[q9.out];unfold dval;rw[<-x3.out,<-x2.out];exact d9) e6
 have r5:Hid (DsIn wM.heap.size wM (.slice sN (n2+1) cN) (ofT d ps)):=Kh (by
  have:=d8.in_;rw[List.map_append,x8.out]at this;rw[ofT,HK.out,Int.toNat_natCast]
  exact this)
 have l5:Hid (∀j,(Value.slice sa n2 sc).ownBlock=some j->w1.heap.size<=j):=Kh (fun j e=>(g4.lt j e).1);have g2:=Kh (zB h0.out e6 (fun e=>by have:=l5.out P e;have:=zM g3.out;omega));have m3:=Kh (zB H8.out e6 (fun e=>by have:=l5.out Q e;have:=zM g3.out;have:=q6.out;omega));have r3:=Kh (zA h2.out e6 (fun j e=>by have:=l5.out j e;omega));have CM:Hid (wM.cell? ⟨Q,0,none⟩=some (.int .i64 (k:Int))/\wM.cell? ⟨Q,1,none⟩=some (.int .i64 ds)/\wM.cell? ⟨Q,2,none⟩=some (.slice fa fl fc)/\wM.cell? ⟨Q,3,none⟩=some (.slice na nl nc)):=Kh (zE m3.out);have a1:Hid (Calls Tryz.prog 47 #[.slice sN (n2+1) cN,.int .i64 (k:Int)] wM (qYV wM (.slice sN (n2+1) cN) (ofT d ps) k)):=Kh (qEP wM.heap.size wM _ (ofT d ps) k (Nat.le_refl _) r5.out (by have:=qJZ b3.out;rwa [<-a4.out]at this) k5 k0 (by rw[uV,<-H0.out];omega));refine hK.out _ _ ⟨trivial,fun _=>CM.out⟩ ?_;clear hK K C7 g4 m9 g6 d9 e6 s0 d8 b2 q4 h5
 try simp only[Act.put,sPa,sPb,sPc]
 refine oneG (i:=7) (by kernel_rfl) rfl (fun K hK=>?_);go_simp
 go_at_call 47
 refine a1.out.mono ?_;rintro e w8 (⟨o3,rfl,a5⟩|⟨o,mb,L,nxl,fr,bl,rfl,b5,c9,g9,r9,c5,a5⟩)
 ·have x0:=Kh o3
  have h2:=Kh (zA r3.out a5);have h0:=Kh (zB g2.out a5);refine hK.out _ _ ⟨trivial,fun h=>by simp at h⟩ ?_;clear hK K CM o3 a5 a1
  try simp only[Act.put,sPa,sPb,sPc]
  refine wE 8 ⟨trivial,fun h=>by simp at h⟩ ?_;refine wE 9 ⟨trivial,fun h=>by simp at h⟩ ?_;refine wE 10 ⟨trivial,fun h=>by simp at h⟩ ?_;refine wE 11 ⟨trivial,fun h=>by simp at h⟩ ?_;refine wE 12 ⟨trivial,fun h=>by simp at h⟩ ?_;refine nO (by kernel_rfl) ?_ _;refine NoPanic.normal ?_;have h4:=h0.out;obtain⟨f40,f41,f42,e4,v0,v1,v2⟩:=wK h4;go_wp2;obtain⟨w9,H7,g1,z1,q0,q1,q2⟩:=uP h4 (.slice none 0 0) (.slice none 0 0) (.int .i64 0);rw[<-H7];refine bodyPost_ret (v:=.tuple #[.agg #[.slice none 0 0,.slice none 0 0,.int .i64 0],.string ⟨#[]⟩,.string ⟨#[]⟩,.int .i64 3]) (by simp[results,Tryz.results24,go_sem,q0,q1,q2,Result.andThen]) rfl ?_;exact⟨_,_,_,_,rfl,(fun w2 d5=>OfOut.over b3.out (by rw[<-a4.out];exact x0.out)),zY h2.out g1 (by show _<=P;have:=d6.out;omega)⟩
 have m5:=Kh c9;have y2:=Kh c5;have c6:0<L.length:=List.length_pos_of_mem c9.mem0;have d7:=b5.view c6 rfl k5;have h2:=Kh (zA r3.out a5);have h0:=Kh (zB g2.out a5);have f8:=Kh (r5.out.kept a5 (by simp));have m8:=a5.size;refine hK.out _ _ ⟨trivial,fun h=>by simp at h⟩ ?_;clear hK K CM c9 c5 b5 r9 a5 a1
 try simp only[Act.put,sPa,sPb,sPc]
 refine wE 8 ⟨trivial,fun h=>by simp at h⟩ ?_;refine wE 9 ⟨trivial,fun h=>by simp at h⟩ ?_;refine wE 10 ⟨trivial,fun h=>by simp at h⟩ ?_;refine wE 11 ⟨trivial,fun h=>by simp at h⟩ ?_;refine wE 12 ⟨trivial,fun h=>by simp at h⟩ ?_;refine nO (by kernel_rfl) ?_ _;refine NoPanic.normal ?_;obtain⟨sb,sc8,nb,nc8,fb,fc8,bb,bc8,i5⟩:=d7;have p8:=Kh i5
 have x9:Hid (∀s,s<L.length->InT (ofT d ps) (L.getD s [])):=Kh (fun s hs=>by
  obtain⟨u,hu,e⟩:=m5.out.re (L.getD s []) (by rw[zG hs];exact List.getElem_mem hs);rw[<-e];have j0:=qJZ b3.out;rw[<-a4.out]at j0
  exact j0.walk u j0.in0 hu)
 have f9:Hid (Calls Tryz.prog 49 #[.pointer (some ⟨o,0,none⟩),.int .i64 (n2:Int)] w8 (qTY w8 (ofT d ps) n2 L)):=Kh (eW wM.heap.size w8 o k _ (ofT d ps) L nxl fr bl sb sc8 nb nc8 fb fc8 bb bc8 n2 m8 i5 f8.out (by have:=qJZ b3.out;rwa [<-a4.out]at this) (by rw[uV,H0.out]) x9.out (by rw[uV,<-H0.out];omega) g9);clear i5;go_wp2_with fail;refine f9.out.mono ?_;rintro e w10 ⟨l,la,lc,rfl,h7,a7,a6⟩;have x1:=Kh h7;have i1:=Kh a7;have h2:=Kh (zA h2.out a6);have h0:=Kh (zB h0.out a6);have f4:=Kh (p8.out.grow a6);have e4:=a7.len_le
 have b8:0<l.length:=by
  have h1:=a7.all 0 c6;obtain⟨c,hc,_⟩:=List.mem_map.1 h1;exact List.length_pos_of_mem hc
 have b1:Hid (ClsX (fun j=>j<w10.heap.size) w10 (.slice la l.length lc) l):=Kh (jD h7 (fun j e=>(h7.lt j e).2));obtain⟨n,hn⟩:=Nm l.length;have HN:=Kh hn;rw[<-hn]at e4 b8 b1⊢;clear hn a6 h7 a7 f9 p8 f8 m8;obtain⟨wo,n3⟩:=Nm (w10:World);rw[<-n3]at h2 h0 f4 b1⊢;clear n3 x1;go_wp2
 go_loopg [57] n (fun gh v57 wr=>∃kk:Nat,gh+kk=n/\v57=.int .i64 kk/\(∀i,i<kk->jG (l.getD i default)=false)/\wo.grownBy wr none)
 case atStart=>exact⟨0,rfl,rfl,fun i hi=>by omega,zH _ _⟩
 obtain⟨kk,o7,rfl,o5,hg⟩:=hrel;obtain⟨f7,q8,y0⟩:=K3 o7 o5 hg;clear o7 o5;by_cases hkn:kk<n
 ·have j9:(kk:Int)<n:=by omega
  obtain⟨b,off,cap,e,_,p2,e9,a0⟩:=(b1.out.grow hg).at_ (by rw[<-HN.out];omega);rw[<-HN.out]at e p2;simp only[Value.slice.injEq,true_and]at e;obtain⟨rfl,rfl⟩:=e;have y9:lc<=9223372036854775807:=by unfold maxLen at e9;omega
  have e5:kk<l.length:=(by rw[<-HN.out];exact hkn);have d1:=a0.m kk e5;have d2:=a0.y kk e5;have d3:=a0.n kk e5;have d0:Hid (l.getD kk default∈l):=Kh (by rw[zG e5];exact List.getElem_mem e5);obtain⟨cc,l1⟩:=Nm (l.getD kk default);rw[<-l1]at d1 d2 d3 d0;have y5:=Kh l1;have m4:Hid (jG cc=decide (0<=cc.yes/\0<=cc.no)):=Kh rfl;obtain⟨U,hU⟩:=Nm (mT cc.m);obtain⟨y,hy⟩:=Nm cc.yes;obtain⟨z,hz⟩:=Nm cc.no;rw[<-hU]at d1;rw[<-hy]at d2;rw[<-hz]at d3;rw[<-hy,<-hz]at m4;have HY:=Kh hy;have HZ:=Kh hz;have f0:=heap_alloc_new wr (.cells #[.string U,.int .i64 y,.int .i64 z] 92);have k7:=Ga wr (.cells #[.string U,.int .i64 y,.int .i64 z] 92) none;obtain⟨wR,i4⟩:=Nm (wr.alloc (.cells #[.string U,.int .i64 y,.int .i64 z] 92));obtain⟨R,hR⟩:=Nm wr.heap.size;rw[<-i4]at f0 k7;rw[<-hR]at f0;obtain⟨s6,t8,z5⟩:=K3 i4 hR f0;have a2:=Kh (zA y0.out k7);obtain⟨r0,r1,r2⟩:=zQ f0;clear a0 p2 e9 hU hy hz i4 hR f0 k7 l1 hg;go_upto_region 16 with fail;rw[<-s6.out,<-t8.out];clear d1 d2 d3;by_cases hyz:0<=y/\0<=z
  case neg =>
   have i2:Hid (jG cc=false):=Kh (by rw[m4.out,decide_eq_false hyz])
   have q7:Hid (∀i,i<kk+1->jG (l.getD i default)=false):=Kh (fun i hi=>by
    rcases Nat.lt_succ_iff_lt_or_eq.1 hi with hi|rfl
    ·exact q8.out i hi
    rw[<-y5.out];exact i2.out)
   by_cases i3:0<=y
   ·have n0:¬0<=z:=fun h=>hyz ⟨i3,h⟩
    clear hyz;go_wp2;go_roundg (n-(kk+1))
    case measure=>have:=f7.out;omega
    exact⟨kk+1,by have:=f7.out;omega,by go_num,q7.out,a2.out⟩
   clear hyz;go_wp2;go_roundg (n-(kk+1))
   case measure=>have:=f7.out;omega
   exact⟨kk+1,by have:=f7.out;omega,by go_num,q7.out,a2.out⟩
  obtain⟨i3,n0⟩:=hyz;have i2:Hid (jG cc=true):=Kh (by rw[m4.out,decide_eq_true ⟨i3,n0⟩]);obtain⟨yn,zn,e1,e2,n1,m6,b7,b6,e3⟩:=i1.out.both d0.out i2.out;rw[<-HY.out]at e1;rw[<-HZ.out]at e2;subst e1;subst e2;obtain⟨x7,x5,x4⟩:=K3 b7 b6 e3;have p7:Hid (∀(W:World) (s:Nat),wR.grownBy W none->s<L.length->Calls Tryz.prog 50 #[.pointer (some ⟨o,0,none⟩),.int .i64 (s:Int)] W (qTQ W (ofT d ps) k L s)):=Kh (fun W s hW hs=>qQA W o k _ (ofT d ps) L nxl fr bl sb sc8 nb nc8 fb fc8 bb bc8 s (f4.out.grow (zA a2.out hW)) y2.out k0 hs g9);have p6:=Kh n1;have p5:=Kh m6;clear b7 b6 e3 n1 m6;go_upto_region 17 with fail;obtain⟨w5,c7⟩:=Nm wR.drew;have h9:wR.grownBy w5 none:=(by rw[c7];exact zN wR none);have l3:=Kh c7;have r4:=Kh h9;have C5:Hid (w5.cell? ⟨R,1,none⟩=some (.int .i64 (yn:Int))/\w5.cell? ⟨R,2,none⟩=some (.int .i64 (zn:Int))):=Kh ⟨xG r1 h9,xG r2 h9⟩;clear h9 c7 r0 r1 r2;refine wp_region_noPanic ?_;refine xE (G:=vU 8 (fun _=>True) (fun W=>W.cell? ⟨R,1,none⟩=some (.int .i64 (yn:Int))/\W.cell? ⟨R,2,none⟩=some (.int .i64 (zn:Int)))) (by kernel_rfl) ?_;rw[<-l3.out];refine yG 0 ?_;refine yG 1 ?_;refine yG 2 ?_;refine yG 5 ?_;refine yG 6 ?_;refine kQ 7 ?_;obtain⟨k1,k2⟩:=C5.out;refine oneG (i:=3) (by kernel_rfl) rfl (fun K hK=>?_);go_simp;refine hK.out _ _ ⟨trivial,fun _=>C5.out⟩ ?_;clear hK K k1 k2
  try simp only[Act.put,sPa,sPb,sPc]
  refine oneG (i:=4) (by kernel_rfl) rfl (fun K hK=>?_);go_simp
  go_at_call 50
  refine(p7.out w5 yn r4.out p6.out).mono ?_;rintro e w6 ⟨u1,o1,o0,n9,rfl,h8⟩;have l9:=Kh (zC r4.out h8);obtain⟨q3,t4,t0⟩:=K3 o1 o0 n9;have C6:Hid (w6.cell? ⟨R,1,none⟩=some (.int .i64 (yn:Int))/\w6.cell? ⟨R,2,none⟩=some (.int .i64 (zn:Int))):=Kh ⟨xG C5.out.1 h8,xG C5.out.2 h8⟩;refine hK.out _ _ ⟨trivial,fun _=>C6.out⟩ ?_;clear hK K C5 h8 o1 o0 n9
  try simp only[Act.put,sPa,sPb,sPc]
  refine oneG (i:=8) (by kernel_rfl) rfl (fun K hK=>?_);go_simp
  go_at_call 50
  refine(p7.out w6 zn l9.out p5.out).mono ?_;rintro e w7 ⟨u2,n7,n6,n5,rfl,H9⟩;obtain⟨p9,s9,s8⟩:=K3 n7 n6 n5;have h2:=Kh (zA h2.out (zA a2.out (zC l9.out H9)));have h0:=Kh (zB h0.out (zA a2.out (zC l9.out H9)));refine hK.out _ _ ⟨trivial,fun h=>by simp at h⟩ ?_;clear hK K C6 H9 n7 n6 n5
  try simp only[Act.put,sPa,sPb,sPc]
  have h4:=h0.out;obtain⟨f40,f41,f42,j8,v0,v1,v2⟩:=wK h4;refine oneG (i:=9) (by kernel_rfl) rfl (fun K hK=>?_);go_simp;obtain⟨w9,H7,g1,z1,_,_,_⟩:=uP h4 (.slice none 0 0) (.slice none 0 0) (.int .i64 0);rw[<-H7];refine hK.out _ _ ⟨trivial,fun h=>by simp at h⟩ ?_;clear hK K v0 v1 v2 f40 f41 f42
  try simp only[Act.put,sPa,sPb,sPc]
  refine oneG (i:=10) (by kernel_rfl) rfl (fun K hK=>?_);go_simp;refine hK.out _ _ ⟨trivial,fun h=>by simp at h⟩ ?_;clear hK K
  try simp only[Act.put,sPa,sPb,sPc]
  refine oneG (i:=11) (by kernel_rfl) rfl (fun K hK=>?_);go_simp;refine hK.out _ _ ⟨trivial,fun h=>by simp at h⟩ ?_;clear hK K
  try simp only[Act.put,sPa,sPb,sPc]
  refine oneG (i:=12) (by kernel_rfl) rfl (fun K hK=>?_);go_simp;refine hK.out _ _ ⟨trivial,fun h=>by simp at h⟩ ?_;clear hK K
  try simp only[Act.put,sPa,sPb,sPc]
  refine nO (by kernel_rfl) ?_ _;refine NoPanic.normal ?_;obtain⟨q0,q1,q2⟩:=zQ z1;have t5:=Kh H7;clear H7 h4;obtain⟨s1,i8⟩:=Nm (strOfNums (lets u1));obtain⟨s2,i7⟩:=Nm (strOfNums (lets u2));rw[<-i8,<-i7];have t7:=Kh i8;have t6:=Kh i7;clear i8 i7;go_wp2
  try rw[<-t5.out]
  refine bodyPost_ret (v:=.tuple #[.agg #[.slice none 0 0,.slice none 0 0,.int .i64 0],.string s1,.string s2,.int .i64 20]) (by simp[results,Tryz.results24,go_sem,q0,q1,q2,Result.andThen]) rfl ?_;have b0:=m5.out;rw[a4.out]at b0;have a0:=i1.out;rw[H0.out]at a0;have j2:ps.length<(ofT d ps).length:=(by rw[uV];omega);have b7:=x7.out;rw[H0.out]at b7;have b6:=x5.out;rw[H0.out]at b6;have e3:=x4.out;rw[H0.out]at e3;obtain⟨t1,t2,t3⟩:=qZR b3.out b0 (by rw[<-a4.out];exact q3.out) (by rw[<-a4.out];exact p9.out) t0.out s8.out b7 b6 e3;refine⟨_,_,_,_,rfl,?_,zY h2.out g1 (by show _<=P;have:=d6.out;omega)⟩;intro w2 d5;rw[t7.out,t6.out];exact OfOut.conf b3.out ⟨L,b0,g9⟩ (qXQ j2 b0 a0 d0.out i2.out) u1 u2 (by rw[<-a4.out];exact q3.out) (by rw[<-a4.out];exact p9.out) (by have:=t4.out;have:=p6.out;omega) (by have:=s9.out;have:=p5.out;omega) t1 t2 t3
 have j9:¬(kk:Int)<n:=by omega
 have r8:Hid (∀c∈l,jG c=false):=Kh (fun c hc=>by
  obtain⟨i,hi,rfl⟩:=List.getElem_of_mem hc;have:=q8.out i (by have:=f7.out;have:=HN.out;omega)
  rwa [zG hi]at this)
 have b4:=Kh (zA h2.out hg);have e8:=i1.out;have m0:Hid (Calls Tryz.prog 51 #[.slice pa n2 pc,.slice la n lc] wr (qYY wr ps l)):=Kh (qIC Bd wr _ _ ps l (by have:=b4.out.size;omega) (HP.out.kept b4.out (by simp)) ((b1.out.grow hg).mono (fun j hj=>Nat.lt_of_lt_of_le hj hg.size)) (by rw[<-HN.out];exact b8) (by rw[<-HN.out];omega) (by rw[<-H0.out];exact qXM e8 (fun i=>nI _ _ _)) (by rw[<-H0.out];omega) (qVN b3.out));have g0:=Kh (zB h0.out hg);clear hg e8;go_wp2_with fail;refine m0.out.mono ?_;rintro e w11 ⟨v11,g,rfl,l0,c4,b9,o9,o8,h9,h8,c8⟩;have k9:=l0 w11 (GrownBut.refl _ _);obtain⟨pv2,cv2,rfl,o2,e9⟩:=k9;obtain⟨ap,cp,rfl⟩:=o2.shape;obtain⟨ac,cc,rfl⟩:=e9.shape;have r6:=Kh l0;have h2:=Kh (zA b4.out c8);have h0:=Kh (zB g0.out c8);have l6:Hid (P<wr.heap.size):=Kh (zM g0.out);obtain⟨H1,H2,H3,H4,H5,H6⟩:=K6 c4 b9 o9 o8 h9 h8;obtain⟨m1,b7⟩:=Nm g.pats.length;obtain⟨m2,b6⟩:=Nm g.chos.length;obtain⟨rt,i9⟩:=Nm g.root;rw[<-b7,<-b6,<-i9]at r6⊢;have z0:=Kh i9;clear l0 o2 e9 c8 c4 b9 o9 o8 h9 h8 b7 b6 i9;have h4:=h0.out;obtain⟨f40,f41,f42,j8,v0,v1,v2⟩:=wK h4;go_wp2;obtain⟨w9,H7,g1,z1,q0,q1,q2⟩:=uP h4 (.slice ap m1 cp) (.slice ac m2 cc) (.int .i64 rt);rw[<-H7];refine bodyPost_ret (v:=.tuple #[.agg #[.slice ap m1 cp,.slice ac m2 cc,.int .i64 rt],.string ⟨#[]⟩,.string ⟨#[]⟩,.int .i64 0]) (by simp[results,Tryz.results24,go_sem,q0,q1,q2,Result.andThen]) rfl ?_;have b0:=m5.out;rw[a4.out]at b0;have a0:=i1.out;rw[H0.out]at a0;have j2:ps.length<(ofT d ps).length:=(by rw[uV];omega);refine⟨_,_,_,_,rfl,(fun w2 d5=>OfOut.ok _ g l L b3.out b0 g9 (qNU j2 b0 a0 r8.out) (r6.out w2 (((GrownBut.refl w11 _).step g1 (fun j e=>.inl (show j<wr.heap.size by have e:P=j:=Oj e;have:=l6.out;omega))).trans' d5 (fun j (hj:j<w.heap.size)=>.inl (show j<wr.heap.size by have:=b4.out.size;omega)))) H1.out H2.out H3.out H4.out (xBK b3.out b0 a0 r8.out H2.out H4.out H5.out) a0 H6.out),zY h2.out g1 (by show _<=P;have:=d6.out;omega)⟩
theorem xAM (Bd:Nat)(w:World)(dv pv:Value)(d:DfaV)(ps:List (List ByteArray))(a8:Bd<=w.heap.size)(hd:tM Bd w dv d)(hp:vE Bd w pv ps)(a9:ps.length<=4096):
  Calls Tryz.prog 24 #[dv,pv] w (xCX w d ps) :=
 (qKW Bd w dv pv d ps a8 hd hp a9).mono fun _ w' ⟨v,u1,u2,E,he,ho,hg⟩=>⟨v,u1,u2,E,he,ho w' (GrownBut.refl _ _),hg⟩
end Go.Proofs.YtcoimliafiammaaGreat
