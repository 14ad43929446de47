/- Part 16 of the proof. -/
import Derived.Test.YtiknckajkdlppaaGreatQb15
set_option linter.unusedVariables false
set_option linter.unusedSimpArgs false
set_option maxRecDepth 100000
set_option maxHeartbeats 16000000
namespace Go.Proofs.YtiknckajkdlppaaGreat
open Go.Maps Go.RowKit
variable{cg i j P:Nat}{xs:List Value}{Q:Exit->Act->World->Prop}{v0 v2 v5 v6 v7 v8 v9 e2 e3 e4 e5 e6 e7 e8 d0 d1 d2 d3 d4 d5 d6 d7 d8 d9 c1 c2 c3 c5 c6 c7 c8 c9 b0 b1 b2 b3 b4 b5 b6 b7 b8 b9 a1 a2 a3 a4 a5 a6 a7 a8 c4 e9 a0:Value}
inductive AutS (w6:World)(o k m ng:Nat)(sa:Option Addr)(sc:Nat)(ac:List Bool)(hs:List Value)(dn:List (List Int))(tl:List RowS)(w:World):Prop
 | mk (X:Nat->Prop) (hB:BoxS w6.heap.size X o 29 w6 w (⟨w6.heap.size,4,.slice sa m sc,m,bls ac,1⟩::⟨w6.heap.size,22,.slice (some ⟨ng,0,none⟩) m m,m,hs,1⟩::tl) #[.int .i64 (k:Int),.int .i64 0,.slice sa m sc,.slice (some ⟨ng,0,none⟩) m m] w) (hT:xX X 3 ints w (hs.take dn.length) dn)
section
variable {w6 w w':World} {o k m ng sc:Nat} {sa:Option Addr} {ac:List Bool} {hs:List Value} {dn:List (List Int)} {tl:List RowS}
theorem AutS.grow (h:AutS w6 o k m ng sa sc ac hs dn tl w)(hg:w.grownBy w' none):AutS w6 o k m ng sa sc ac hs dn tl w':=by
 obtain⟨X,hB,hT⟩:=h;exact⟨X,(hB.grow hg).rebase,hT.kept (hB.mem.keep hg) hg.size⟩
theorem AutS.g (h:AutS w6 o k m ng sa sc ac hs dn tl w):w6.grownBy w none:=by
 obtain⟨X,hB,hT⟩:=h;exact hB.grown
theorem AutS.cells (h:AutS w6 o k m ng sa sc ac hs dn tl w):w.heap[o]?=some (.cells #[.int .i64 (k:Int),.int .i64 0,.slice sa m sc,.slice (some ⟨ng,0,none⟩) m m] 29 (0,0))/\Arr w ng 22 hs/\hs.length=m:=by
 obtain⟨X,hB,hT⟩:=h;have h1:=hB.own (r:=⟨w6.heap.size,22,.slice (some ⟨ng,0,none⟩) m m,m,hs,1⟩) yq;exact⟨hB.box,Arr.of_owns h1,by have:=h1.1;simpa using this⟩
theorem AutS.begin (h:AutS w6 o k m ng sa sc ac hs dn [] w)(hi:i<m)(hd:dn.length=i)(hg:w.grownBy w' none)(ho:w'.ownsRow w.heap.size 3 1 (.slice (some ⟨cg,0,none⟩) k k) k xs):AutS w6 o k m ng sa sc ac (hs.set i (.slice (some ⟨cg,0,none⟩) k k)) dn (⟨w6.heap.size,3,.slice (some ⟨cg,0,none⟩) k k,k,xs,1⟩::[]) (w'.setCell ⟨ng,i,none⟩ (.slice (some ⟨cg,0,none⟩) k k)):=by
 obtain⟨X,hB,hT⟩:=h;have hA:=hB.add hg (e:=3) (sz:=1) (n:=k) (v:=.slice (some ⟨cg,0,none⟩) k k) (xs:=xs) ho jd;have hP:=hA.put (j:=1) rfl hi (.slice (some ⟨cg,0,none⟩) k k);refine⟨X,hP.rebase,?_⟩;rw[List.take_set_of_le yo];exact hT.kept hP.kept hP.wk
theorem AutS.putC (h:AutS w6 o k m ng sa sc ac hs dn (⟨w6.heap.size,3,.slice (some ⟨cg,0,none⟩) k k,k,xs,1⟩::[]) w)(hj:j<k)(u:Value):AutS w6 o k m ng sa sc ac hs dn (⟨w6.heap.size,3,.slice (some ⟨cg,0,none⟩) k k,k,(xs.set j u),1⟩::[]) (w.setCell ⟨cg,j,none⟩ u):=by
 obtain⟨X,hB,hT⟩:=h;have hP:=hB.put (j:=2) rfl hj u;exact⟨X,hP.rebase,hT.kept hP.kept hP.wk⟩
theorem AutS.arrC (h:AutS w6 o k m ng sa sc ac hs dn (⟨w6.heap.size,3,.slice (some ⟨cg,0,none⟩) k k,k,xs,1⟩::[]) w):Arr w cg 3 xs/\xs.length=k:=by
 obtain⟨X,hB,hT⟩:=h;have h1:=hB.own (r:=⟨w6.heap.size,3,.slice (some ⟨cg,0,none⟩) k k,k,xs,1⟩) yq;exact⟨Arr.of_owns h1,by have:=h1.1;simpa using this⟩
theorem AutS.fin {r:List Int}(h:AutS w6 o k m ng sa sc ac hs dn (⟨w6.heap.size,3,.slice (some ⟨cg,0,none⟩) k k,k,ints r,1⟩::[]) w)(hd:dn.length=i)(hi:i<m)(hh:hs[i]?=some (.slice (some ⟨cg,0,none⟩) k k)):AutS w6 o k m ng sa sc ac hs (dn++[r]) [] w:=by
 obtain⟨X,hB,hT⟩:=h;have hR:=BoxS.retire (rs:=(⟨w6.heap.size,4,.slice sa m sc,m,bls ac,1⟩::⟨w6.heap.size,22,.slice (some ⟨ng,0,none⟩) m m,m,hs,1⟩::[])) (r:=⟨w6.heap.size,3,.slice (some ⟨cg,0,none⟩) k k,k,ints r,1⟩) hB;refine⟨_,hR,?_⟩;have hX:RowX (fun j=>X j\/(Value.slice (some ⟨cg,0,none⟩) k k).ownBlock=some j) 3 w (.slice (some ⟨cg,0,none⟩) k k) (ints r):=RowX.of_owns (hB.own (r:=⟨w6.heap.size,3,.slice (some ⟨cg,0,none⟩) k k,k,ints r,1⟩) yq) (fun j hj=>.inr hj);have h9:=(hT.mono (X':=fun j=>X j\/(Value.slice (some ⟨cg,0,none⟩) k k).ownBlock=some j) (fun j hj=>.inl hj)).snoc hX
 have e:hs.take dn.length++[.slice (some ⟨cg,0,none⟩) k k]=hs.take (dn++[r]).length:=by
  rw[List.length_append,List.length_singleton,hd,List.take_add_one,hh];rfl
 rw[e]at h9;exact h9
end
theorem qRG {v3 v4 e1 c0:Value}{w:World}{k m aC tC:Nat}{aA tA:Option Addr}{ac:List Bool}(e0:m<=400)(hC:w.cell? ⟨P,0,none⟩=some (.int .i64 k)/\w.cell? ⟨P,4,none⟩=some (.slice aA m aC)/\w.cell? ⟨P,1,none⟩=some (.slice tA m tC))(e9:∀W:World,w.grownBy W none->Calls Tryz.prog 71 #[.slice aA m aC] W fun e w'=>∃sa sc,e=.returned (.slice sa m sc)/\w'.ownsRow W.heap.size 4 1 (.slice sa m sc) m (bls ac)/\W.grownBy w' none)(a9:∀(z8 z9 z10 z11 z12 z13 z14 z15 z16 z17:Value) (w6 w':World) (o ng:Nat) (sa:Option Addr) (sc:Nat),w.grownBy w6 none->AutS w6 o k m ng sa sc ac (List.replicate m (.slice none 0 0)) [] [] w'->Q .normal ⟨(v0::(Value.pointer (some ⟨P,0,none⟩))::v2::(Value.pointer (some ⟨o,0,none⟩))::v4::v5::v6::v7::z8::z9::z10::z11::z12::z13::z14::z15::z16::z17::d0::d1::d2::d3::d4::d5::d6::d7::d8::d9::c0::c1::c2::c3::c5::c6::c7::c8::c9::b0::b1::b2::b3::b4::b5::b6::b7::b8::b9::a1::a2::a3::a4::a5::a6::a7::a8::[]).toArray,[]⟩ w'):Code.wp Tryz.prog (reg Tryz.f46 1) Q ⟨(v0::(Value.pointer (some ⟨P,0,none⟩))::v2::v3::v4::v5::v6::v7::v8::v9::e1::e2::e3::e4::e5::e6::e7::e8::d0::d1::d2::d3::d4::d5::d6::d7::d8::d9::c0::c1::c2::c3::c5::c6::c7::c8::c9::b0::b1::b2::b3::b4::b5::b6::b7::b8::b9::a1::a2::a3::a4::a5::a6::a7::a8::[]).toArray,[]⟩ w:=by
 obtain⟨h5,h4,h3⟩:=hC
 conv=>arg 2;whnf
 obtain⟨w5,h2⟩:=Nm w.drew;have h1:w.grownBy w5 none:=by rw[h2];exact zY w none
 have H0:=Kh h2;have H1:=Kh h1;have C:Hid (w5.cell? ⟨P,0,none⟩=some (.int .i64 k)/\w5.cell? ⟨P,4,none⟩=some (.slice aA m aC)/\w5.cell? ⟨P,1,none⟩=some (.slice tA m tC)):=Kh ⟨zN h5 h1,zN h4 h1,zN h3 h1⟩;have H2:Hid (∀W:World,w5.grownBy W none->Calls Tryz.prog 71 #[.slice aA m aC] W fun e w'=>∃sa sc,e=.returned (.slice sa m sc)/\w'.ownsRow w5.heap.size 4 1 (.slice sa m sc) m (bls ac)/\W.grownBy w' none):=Kh (fun W hW=>(e9 W (zE h1 hW)).mono fun e w' ⟨g,c,he,ho,hg⟩=>⟨g,c,he,xO ho hW.size,hg⟩);have h9:m<=maxLen:=jm
 clear h2 h1 h5 h4 h3 e9;refine wp_region_noPanic ?_;refine yI (G:=xM 11 (fun W=>W.cell? ⟨P,0,none⟩=some (.int .i64 k)/\W.cell? ⟨P,4,none⟩=some (.slice aA m aC)/\W.cell? ⟨P,1,none⟩=some (.slice tA m tC)) (fun _=>True)) yk ?_;rw[<-H0.out];refine zP 0 ?_;refine zP 1 ?_;refine zP 2 ?_;refine zP 3 ?_;refine zP 5 ?_;refine zP 6 ?_;refine zP 7 ?_;refine uM (fun Wp hWp a0 ha0=>?_);subst hWp
 try simp only[Act.put,sPd,sPe,sPf,sPa,sPb,sPc]at ha0
 have H3:=Kh ha0;refine uL (I:=pa1I k m P aC tC aA tA ac w5 a0) (fun l a w h=>qTW C.out h) (qJN ha0 (qFE m yo) (Kh (qFH rfl m)) h9 H2.out) yk ?hend (by decide +kernel) ?hinit
 case hinit =>
  clear ha0;refine⟨a0.tmps.getD 12 undef,a0.tmps.getD 16 undef,a0.tmps.getD 17 undef,a0.tmps.getD 3 undef,0,(uF yq).symm,by decide +kernel,hs7C,hs7C,hs7C,hs7C,hs7C,hs7C,zX _ _⟩
 clear ha0;intro l a w6 h h0;obtain⟨x12,x16,x17,x3,o,ha,HR,H4,H8,H9,h8,B1,B2,HG⟩:=h;obtain⟨g4,c4,rfl,h7⟩:=H4.out (h0 4 jd);obtain⟨g8,rfl,h6⟩:=H8.out (h0 8 jd);obtain⟨_,_,rfl⟩:=H9.out (h0 9 jd);obtain⟨rfl,ho⟩:=h8.out (h0 10 jd);obtain⟨_,_,_,_,hb⟩:=B2.out (h0 11 jd);clear H4 H8 H9 h8 B1 B2 HR;subst ha;rw[H3.out];simp only[yK,List.foldl_cons,List.foldl_nil,Act.put,sPa,sPb,sPc];refine NoPanic.normal ?_;refine a9 _ _ _ _ _ _ _ _ _ _  w5 w6 o g8 g4 c4 H1.out ⟨fun _=>False,⟨⟨?_,?_,fun r hr k hk hx=>hx,fun k hk=>hk.elim⟩,?_,hb,fun h=>h,Nat.le_refl _,ho,HG.size,HG,wG.refl _ _,Nat.le_refl _⟩,xX.nil⟩
 ·intro r hr
  simp only[List.mem_cons,List.not_mem_nil,or_false]at hr;rcases hr with rfl|rfl
  ·exact h7
  exact h6
 ·refine List.pairwise_cons.2 ⟨fun s hs=>?_,List.pairwise_cons.2 ⟨fun s hs=>by simp at hs,List.Pairwise.nil⟩⟩
  simp only[List.mem_cons,List.not_mem_nil,or_false]at hs;subst hs;exact qZ h7 h6 jd
 intro r hr;simp only[List.mem_cons,List.not_mem_nil,or_false]at hr;rcases hr with rfl|rfl<;>exact⟨rfl,yq⟩
theorem qRF {w6 w:World}{o k m ng sc:Nat}{sa:Option Addr}{ac:List Bool}{hs:List Value}{dn:List (List Int)}(h:AutS w6 o k m ng sa sc ac hs dn [] w)(hi:i<m)(hd:dn.length=i)(hm:m<=400)(e2:k<=6)(c0:w.cell? ⟨P,0,none⟩=some (.int .i64 (k:Int)))(a9:∀(z26 z27 z28 z29 z30 z31 z32:Value) (w':World) (cg:Nat),AutS w6 o k m ng sa sc ac (hs.set i (.slice (some ⟨cg,0,none⟩) k k)) dn (⟨w6.heap.size,3,.slice (some ⟨cg,0,none⟩) k k,k,ints (List.replicate k 0),1⟩::[]) w'->Q .normal ⟨(v0::(Value.pointer (some ⟨P,0,none⟩))::v2::(Value.pointer (some ⟨o,0,none⟩))::(Value.int .i64 (i:Int))::v5::v6::v7::v8::v9::d0::d1::d2::d3::d4::d5::d6::d7::d8::d9::c1::c2::c3::c4::c5::c6::z26::z27::z28::z29::z30::z31::z32::c7::c8::c9::b0::b1::b2::b3::b4::b5::b6::b7::b8::b9::a0::a1::a2::a3::a4::a5::a6::a7::a8::[]).toArray,[]⟩ w'):Code.wp Tryz.prog (reg Tryz.f46 5) Q ⟨(v0::(Value.pointer (some ⟨P,0,none⟩))::v2::(Value.pointer (some ⟨o,0,none⟩))::(Value.int .i64 (i:Int))::v5::v6::v7::v8::v9::d0::d1::d2::d3::d4::d5::d6::d7::d8::d9::c1::c2::c3::c4::c5::c6::e3::e4::e5::e6::e7::e8::e9::c7::c8::c9::b0::b1::b2::b3::b4::b5::b6::b7::b8::b9::a0::a1::a2::a3::a4::a5::a6::a7::a8::[]).toArray,[]⟩ w:=by
 obtain⟨H3,h7,f0⟩:=h.cells
 have h0:∀W:World,w.grownBy W none->W.cell? ⟨o,3,none⟩=some (.slice (some ⟨ng,0,none⟩) m m)/\W.cell? ⟨P,0,none⟩=some (.int .i64 (k:Int)):=fun W hg=>by
  have q2:=zJ (zD H3 hg) 3;simp only[sPd,sPe,sPf]at q2;exact⟨q2,zN c0 hg⟩
 have h2:∀W:World,w.grownBy W none->∃u,W.cell? ⟨ng,i,none⟩=some u:=fun W hg=>⟨_,(h7.kept hg yq).cell i yo⟩;have H2:∀W:World,w.grownBy W none->W.frozen? ⟨ng,i,none⟩=false:=fun W hg=>(h7.kept hg yq).frozen i;obtain⟨H,H9,H8⟩:=Kc h h2 H2;have f1:(i:Int)<m:=yo
 have e1:∀w:World,(Instr.makeSlice 22 (.int .i64 (k:Int)) (.int .i64 (k:Int))).run Tryz.prog w=.ok (.slice (some ⟨w.heap.size,0,none⟩) k k) (w.alloc (.cells (madeCells #[.int .i64 0] k) 3)) :=
  fun w=>qKD k yo w
 clear h H3 h7 h2 H2 c0;have H4:Hid (∀W:World,w.grownBy W none->W.cell? ⟨o,3,none⟩=some (.slice (some ⟨ng,0,none⟩) m m)/\W.cell? ⟨P,0,none⟩=some (.int .i64 (k:Int))):=Kh (fun W hg=>h0 W hg);clear h0
 conv=>arg 2;whnf
 obtain⟨w7,h5⟩:=Nm w.drew;have H1:w.grownBy w7 none:=by rw[h5];exact zY w none
 have H6:=Kh h5;have H0:=Kh H1;clear h5 H1;refine wp_region_noPanic ?_;refine yI (G:=xM 7 (fun _=>True) (fun W=>W.cell? ⟨o,3,none⟩=some (.slice (some ⟨ng,0,none⟩) m m)/\W.cell? ⟨P,0,none⟩=some (.int .i64 (k:Int)))) yk ?_;rw[<-H6.out];have C:=Kh (H4.out w7 H0.out);refine zP 0 ?_;refine xD 1 ?_;refine zP 2 ?_;refine zP 3 ?_;refine xD 4 ?_;have h1:=oF (w:=w7) (b:=w7.heap.size) (m:=k) (e:=3) (by rw[aL,yW]) (Nat.le_refl _) jm;rw[show List.replicate k (Value.int .i64 0)=ints (List.replicate k 0) by simp[ints]]at h1;have h4:=Ga w7 (.cells (madeCells #[.int .i64 0] k) 3) none;obtain⟨cg,h6⟩:=Nm w7.heap.size;obtain⟨w9,h3⟩:=Nm (w7.alloc (.cells (madeCells #[.int .i64 0] k) 3));have h8:Hid (w9.ownsRow w7.heap.size 3 1 (.slice (some ⟨cg,0,none⟩) k k) k (ints (List.replicate k 0))):=Kh (by rw[h6,h3];exact h1);rw[<-h3]at h4;have H7:=Kh h4;have h9:=Kh (zE H0.out h4);have C9:=Kh (H4.out w9 h9.out);have H5:=Kh h3;have e0:=Kh h6;clear h6 h3 h4 h1;refine jg 5 fun K hK=>?_;go_simp;rw[<-e0.out,<-H5.out];refine hK.out _ _ ⟨trivial,fun _=>C9.out⟩ ?_;clear hK K C
 try simp only[Act.put,sPd,sPe,sPf,sPa,sPb,sPc]
 refine zP 6 ?_;obtain⟨u9,q9⟩:=H9.out w9 h9.out;have f9:=H8.out w9 h9.out;refine jg 7 fun K hK=>?_;go_simp;refine hK.out _ _ ⟨trivial,fun h=>by simp at h⟩ ?_;clear hK K q9 f9
 try simp only[Act.put,sPd,sPe,sPf,sPa,sPb,sPc]
 refine uY yk ?_ _;refine NoPanic.normal ?_;exact a9 _ _ _ _ _ _ _  _ cg ((H.out.grow H0.out).begin hi hd H7.out h8.out)
theorem qSP {v1:Value}{w6 w:World}{o k m ng sc:Nat}{sa:Option Addr}{ac:List Bool}{hs:List Value}{dn:List (List Int)}{y rb ro rc:Nat}{z:Int}(h:AutS w6 o k m ng sa sc ac hs dn (⟨w6.heap.size,3,.slice (some ⟨cg,0,none⟩) k k,k,xs,1⟩::[]) w)(hi:i<m)(hj:j<k)(e1:y<m)(hm:m<=400)(e0:k<=6)(hh:hs[i]?=some (.slice (some ⟨cg,0,none⟩) k k))(c0:w.cell? ⟨rb,ro+y,none⟩=some (.int .i64 z))(a8:m<=rc/\rc<=maxLen)(a9:∀(z41 z42 z43 z44 z45 z46 z47 z48 z49 z50 z51:Value) (w':World),AutS w6 o k m ng sa sc ac hs dn (⟨w6.heap.size,3,.slice (some ⟨cg,0,none⟩) k k,k,(xs.set j (.int .i64 z)),1⟩::[]) w'->Q .normal ⟨(v0::v1::v2::(Value.pointer (some ⟨o,0,none⟩))::(Value.int .i64 (i:Int))::(Value.slice (some ⟨rb,ro,none⟩) m rc)::(Value.int .i64 (j:Int))::(Value.int .i64 (y:Int))::v8::v9::d3::d4::d5::d6::d7::d8::d9::c1::c2::c3::c4::c5::c6::c7::c8::c9::b0::b1::b2::b3::b4::b5::b6::b7::b8::b9::a0::a1::a2::a3::a4::z41::z42::z43::z44::z45::z46::z47::z48::z49::z50::z51::a5::a6::a7::[]).toArray,[]⟩ w'):Code.wp Tryz.prog (reg Tryz.f46 9) Q ⟨(v0::v1::v2::(Value.pointer (some ⟨o,0,none⟩))::(Value.int .i64 (i:Int))::(Value.slice (some ⟨rb,ro,none⟩) m rc)::(Value.int .i64 (j:Int))::(Value.int .i64 (y:Int))::v8::v9::d3::d4::d5::d6::d7::d8::d9::c1::c2::c3::c4::c5::c6::c7::c8::c9::b0::b1::b2::b3::b4::b5::b6::b7::b8::b9::a0::a1::a2::a3::a4::e2::e3::e4::e5::e6::e7::e8::e9::d0::d1::d2::a5::a6::a7::[]).toArray,[]⟩ w:=by
 obtain⟨h7,h8,H3⟩:=h.cells;obtain⟨h4,H2⟩:=h.arrC
 have h0:∀W:World,w.grownBy W none->W.cell? ⟨o,3,none⟩=some (.slice (some ⟨ng,0,none⟩) m m)/\W.cell? ⟨ng,i,none⟩=some (.slice (some ⟨cg,0,none⟩) k k)/\W.cell? ⟨rb,ro+y,none⟩=some (.int .i64 z):=fun W hg=>by
  have q2:=zJ (zD h7 hg) 3;simp only[sPd,sPe,sPf]at q2;exact⟨q2,pI (h8.kept hg yq) hh,zN c0 hg⟩
 have h1:∀W:World,w.grownBy W none->∃u,W.cell? ⟨cg,j,none⟩=some u:=fun W hg=>⟨_,(h4.kept hg yq).cell j yo⟩;have h6:∀W:World,w.grownBy W none->W.frozen? ⟨cg,j,none⟩=false:=fun W hg=>(h4.kept hg yq).frozen j;obtain⟨H,H6,H5⟩:=Kc h h1 h6;have H9:(i:Int)<m:=yo
 have H8:(j:Int)<k:=yo
 have h9:(y:Int)<m:=yo
 have H1:=a8.1;have H0:rc<=9223372036854775807:=by have:=a8.2;unfold maxLen at this;omega
 clear h h7 h8 h4 h1 h6 c0 hh a8 H3 H2;have H7:Hid (∀W:World,w.grownBy W none->W.cell? ⟨o,3,none⟩=some (.slice (some ⟨ng,0,none⟩) m m)/\W.cell? ⟨ng,i,none⟩=some (.slice (some ⟨cg,0,none⟩) k k)/\W.cell? ⟨rb,ro+y,none⟩=some (.int .i64 z)):=Kh (fun W hg=>h0 W hg);clear h0
 conv=>arg 2;whnf
 obtain⟨w7,h3⟩:=Nm w.drew;have h5:w.grownBy w7 none:=by rw[h3];exact zY w none
 have H4:=Kh h3;have h2:=Kh h5;clear h3 h5;refine wp_region_noPanic ?_;refine yI (G:=xM 11 (fun _=>True) (fun W=>W.cell? ⟨o,3,none⟩=some (.slice (some ⟨ng,0,none⟩) m m)/\W.cell? ⟨ng,i,none⟩=some (.slice (some ⟨cg,0,none⟩) k k)/\W.cell? ⟨rb,ro+y,none⟩=some (.int .i64 z))) yk ?_;rw[<-H4.out];have C:=Kh (H7.out w7 h2.out);refine zP 0 ?_;refine xD 1 ?_;refine zP 2 ?_;refine zP 3 ?_;refine xD 4 ?_;refine zP 5 ?_;refine zP 6 ?_;refine zP 7 ?_;refine zP 8 ?_;refine xD 9 ?_;refine zP 10 ?_;obtain⟨u9,q9⟩:=H6.out w7 h2.out;have f9:=H5.out w7 h2.out;refine jg 11 fun K hK=>?_;go_simp;refine hK.out _ _ ⟨trivial,fun h=>by simp at h⟩ ?_;clear hK K q9 f9
 try simp only[Act.put,sPd,sPe,sPf,sPa,sPb,sPc]
 refine uY yk ?_ _;refine NoPanic.normal ?_;exact a9 _ _ _ _ _ _ _ _ _ _ _  _ ((H.out.grow h2.out).putC hj _)
end Go.Proofs.YtiknckajkdlppaaGreat
namespace Go.Proofs.YtiknckajkdlppaaGreat
open Go.RowKit
variable{m k n:Nat}{d:DfaV}
theorem qH {w w':World}{p:Addr}{u:Value}{row:Option Nat}(h:w.cell? p=some u)(hg:w.grownBy w' row)(hr:∀k,row=some k->k≠p.block):w'.cell? p=some u:=(World.cell?_of_block (hg.block p.block (World.block_lt_of_cell? w p h) (fun e=>hr _ e.symm rfl))).trans h
theorem mL {M:DfaV}(h:VD M m k):∀g∈pH M m k,IsT m g:=by
 intro g hg;obtain⟨a,ha,rfl⟩:=List.mem_map.1 hg;refine⟨yq,fun x hx=>?_⟩;obtain⟨q,hq,rfl⟩:=List.mem_map.1 hx;exact mF h (List.mem_range.1 hq) (List.mem_range.1 ha)
def nK (d:DfaV)(S:SynV):Prop:=∃(n k m:Nat) (M:DfaV),VD d n k/\M=minD d k/\VD M m k/\m<=32/\SynE (pH M m k) m (st0 M) M.final S
theorem nK.at {S:SynV}(h:nK d S)(hd:VD d n k)(hM:VD (minD d k) m k):m<=32/\SynE (pH (minD d k) m k) m (st0 (minD d k)) (minD d k).final S:=by
 obtain⟨n',k',m',M',h1,rfl,h3,h0,h2⟩:=h;have ek:k'=k:=by have:=hd.hk;have:=h1.hk;omega
 subst ek;have em:m'=m:=by rw[<-hM.hn,<-h3.hn]
 subst em;exact⟨h0,h2⟩
theorem qFD (hd:VD d n k)(hM:VD (minD d k) m k)(h:32<m\/qCJ (pH (minD d k) m k) m)(S:SynV):¬nK d S:=fun hS=>by
 obtain⟨h1,el,pr,la,ri,mm,hf,hl,_⟩:=hS.at hd hM
 rcases h with h|h
 ·omega
 ·have:=h _ _ _ _ hf;omega
def Huge (d:DfaV):Prop:=∃m,m<=d.final.length/\(32<m\/Big m)
def qLY (d:DfaV)(w:World)(e:Ending)(w':World):Prop :=
 (∃c:Int,e=.returned (.tuple #[.agg #[.int .i64 0,.slice none 0 0,.slice none 0 0,.slice none 0 0,.slice none 0 0,.slice none 0 0],.int .i64 c])/\c≠0/\(uR d≠0->c=uR d)/\(uR d=0->c=3/\Huge d/\∀S,¬nK d S)/\w.grownBy w' none) \/
 ∃(S:SynV) (v:Value) (n k m:Nat) (M:DfaV),VD d n k/\M=minD d k/\VD M m k/\m<=32/\e=.returned (.tuple #[v,.int .i64 0])/\SynE (pH M m k) m (st0 M) M.final S/\iF w'.heap.size w' v S/\w.grownBy w' none
theorem qDK (B:Nat)(w:World)(v:Value)(d:DfaV)(hB:B<=w.heap.size)(h:rP B w v d):Calls Tryz.prog 9 #[v] w (qLY d w):=by
 obtain⟨fv,nv,rfl,hf,hn⟩:=id h;obtain⟨fA,fC,rfl⟩:=hf.shape;obtain⟨nA,nC,rfl⟩:=hn.shape;rw[yB]at h⊢;obtain⟨nf,g0⟩:=Nm d.final.length;obtain⟨nn,f9⟩:=Nm d.next.length;rw[<-g0,<-f9]at h⊢;obtain⟨wA,b9⟩:=Nm ((w.alloc (.cells #[.int .i64 d.letters,.int .i64 d.start,.slice fA nf fC,.slice nA nn nC] 29)).alloc (.cells #[.int .i64 0,.slice none 0 0,.slice none 0 0,.slice none 0 0,.slice none 0 0,.slice none 0 0] 39));have g1:=Ga w (.cells #[.int .i64 d.letters,.int .i64 d.start,.slice fA nf fC,.slice nA nn nC] 29) none;have n1:=heap_alloc_new w (.cells #[.int .i64 d.letters,.int .i64 d.start,.slice fA nf fC,.slice nA nn nC] 29);obtain⟨w1,b6⟩:=Nm (w.alloc (.cells #[.int .i64 d.letters,.int .i64 d.start,.slice fA nf fC,.slice nA nn nC] 29));rw[<-b6]at g1 n1 b9;have g2:=Ga w1 (.cells #[.int .i64 0,.slice none 0 0,.slice none 0 0,.slice none 0 0,.slice none 0 0,.slice none 0 0] 39) none;have n2:=heap_alloc_new w1 (.cells #[.int .i64 0,.slice none 0 0,.slice none 0 0,.slice none 0 0,.slice none 0 0,.slice none 0 0] 39);rw[<-b9]at g2 n2;have c7:w1.heap.size=w.heap.size+1:=by rw[b6];simp
 have e1:=zD n1 g2;obtain⟨P,hP⟩:=Nm w.heap.size;have a8:=Kh hP;rw[c7]at n2;rw[<-hP]at e1 n2;have b7:=zE g1 g2;have e0:=h.kept b7 yq;have j1:=Kh (bJ B wA _ d (Nat.le_trans hB b7.size) e0);obtain⟨i7,j0,HG,HD,i3,k2⟩:=Kf b9 b6 b7 e0 e1 n2;have k4:=Kh c7;clear hf hn h g0 f9 b9 g1 n1 b6 g2 n2 e1 b7 e0 c7;go_enter Tryz.func9,Tryz.ntmps9;go_upto_region 1 with fail;rw[<-j0.out,<-i7.out,<-a8.out];clear hP;obtain⟨c0,c1,c2,c3⟩:=zM i3.out;go_wp2_with fail;refine j1.out.mono ?_;rintro e w2 ⟨rfl,b8⟩;have c6:=Kh b8;have H6:=zD i3.out b8;have h4:=zD k2.out b8;have k3:=Kh H6;have b3:=Kh h4;obtain⟨d0,d1,d2,d3⟩:=zM H6;obtain⟨p0,p1,p2,p3,p4,p5⟩:=zU h4;have f0:=zB h4 0;have f1:=zB h4 1;have f2:=zB h4 2;have f3:=zB h4 3;have f4:=zB h4 4;have f5:=zB h4 5;obtain⟨vd,c9⟩:=Nm (uR d);have a9:=Kh c9;rw[<-c9];clear b8 H6 h4 c0 c1 c2 c3 c9;by_cases hv:vd=0
 ·have H1:=qQJ (by rw[<-a9.out];exact hv)
  obtain⟨n,hn⟩:=Nm d.final.length;obtain⟨k,hk⟩:=Nm d.letters.toNat;rw[<-hn,<-hk]at H1;have g6:=HD.out.kept c6.out yq;have j7:=Kh (eC B w2 _ d n k (by have:=HG.out.size;have:=c6.out.size;omega) g6 H1);have h8:=Kh H1;have j6:=Kh hn;clear hn hk g6 H1;subst hv;clear p0 p1 p2 p3 p4 p5 f0 f1 f2 f3 f4 f5;go_wp2_with fail;refine j7.out.mono ?_;rintro e w3 ⟨v3,rfl,H5,d8⟩;have a1:=cJ h8.out;obtain⟨M,hM⟩:=Nm (minD d k);obtain⟨m,hm⟩:=Nm (minN d k);have i2:Hid (m<=d.final.length):=Kh (by rw[hm,<-j6.out];exact qKI h8.out);rw[<-hM,<-hm]at a1;rw[<-hM]at H5;have a3:=H5.dfa;obtain⟨fv,nv,rfl,hf,hn⟩:=id a3;obtain⟨sf,cf,rfl⟩:=hf.shape;obtain⟨sn,cn,rfl⟩:=hn.shape;rw[yB,a1.hn]at hf a3⊢;rw[a1.nl]at hn a3⊢;have a7:=zD b3.out d8;obtain⟨w4,b4⟩:=Nm (w3.alloc (.cells #[.int .i64 M.letters,.int .i64 M.start,.slice sf m cf,.slice sn m cn] 29));have H7:w3.grownBy w4 none:=by rw[b4];exact Ga w3 _ none
  have a6:=heap_alloc_new w3 (.cells #[.int .i64 M.letters,.int .i64 M.start,.slice sf m cf,.slice sn m cn] 29);rw[<-b4]at a6;obtain⟨b5,d9⟩:=Nm w3.heap.size;rw[<-d9]at a6;have h3:=zD a7 H7;have e9:=Kh a6;have h9:=Kh h3;have e8:=Kh (zE (zE (zE HG.out c6.out) d8) H7);have i9:=Kh b4;have j9:=Kh d9;have k0:=Kh (a3.kept H7 yq);have H0:=Kh a1;have c4:=Kh hM;have i1:=Kh H7.size;have j8:=Kh (hf.kept H7 yq);obtain⟨q0,q1,q2,q3⟩:=zM a6;obtain⟨p0,p1,p2,p3,p4,p5⟩:=zU h3;have f0:=zB h3 0;have f1:=zB h3 1;have f2:=zB h3 2;have f3:=zB h3 3;have f4:=zB h3 4;have f5:=zB h3 5;clear H5 d8 a1 hM hm a3 hf hn a7 b4 H7 a6 d9 h3 q0 q1 q3 d0 d1 d2 d3;go_upto_region 5 with fail;rw[<-i9.out,<-j9.out];by_cases hm32:32<m
  ·have i4:(32:Int)<m:=yo
   go_wp2;refine bodyPost_ret (v:=.tuple #[.agg #[.int .i64 0,.slice none 0 0,.slice none 0 0,.slice none 0 0,.slice none 0 0,.slice none 0 0],.int .i64 3]) (by simp[results,Tryz.results9,go_sem,p0,p1,p2,p3,p4,p5]) rfl ?_;obtain⟨H2,h0⟩:=uT h9.out (.int .i64 0) (.slice none 0 0) (.slice none 0 0) (.slice none 0 0) (.slice none 0 0) (.slice none 0 0);exact .inl ⟨3,rfl,jd,fun h=>absurd a9.out.symm h,fun _=>⟨rfl,⟨m,i2.out,.inl hm32⟩,qFD h8.out (by rw[<-c4.out];exact H0.out) (.inl hm32)⟩,zE e8.out h0 (fun j e=>by have e:P+1=j:=Oj e;have:=a8.out;omega)⟩
  have i4:¬(32:Int)<m:=yo
  obtain⟨w7,c8⟩:=Nm w4.drew;have a2:w4.grownBy w7 none:=(by rw[c8];exact zY w4 none);have i8:=Kh c8;have e7:=Kh a2;have hC:=zM (zD e9.out a2);have C:Hid (w7.cell? ⟨b5,0,none⟩=some (.int .i64 M.letters)/\w7.cell? ⟨b5,1,none⟩=some (.int .i64 M.start)/\w7.cell? ⟨b5,2,none⟩=some (.slice sf m cf)/\w7.cell? ⟨b5,3,none⟩=some (.slice sn m cn)):=Kh hC;have d4:M.start=((st0 M:Nat):Int):=by rw[st0,Int.toNat_of_nonneg H0.out.s0]
  have a0:st0 M<m:=(by have:=H0.out.sn;rw[d4]at this;omega);have j5:=Kh (qJT w4.heap.size w7 _ M m k a2.size ((k0.out.mono i1.out).kept a2 yq) H0.out);have j2:=Kh d4;have e4:=Kh a0;clear c8 a2 hC d4 a0 p0 p1 p2 p3 p4 p5 f0 f1 f2 f3 f4 f5;go_upto_region 7 with fail;refine wp_region_noPanic ?_;refine yI (G:=xM 99 (fun W=>W.cell? ⟨b5,0,none⟩=some (.int .i64 M.letters)/\W.cell? ⟨b5,1,none⟩=some (.int .i64 M.start)/\W.cell? ⟨b5,2,none⟩=some (.slice sf m cf)/\W.cell? ⟨b5,3,none⟩=some (.slice sn m cn)) (fun _=>True)) yk ?_;rw[<-i8.out];refine zP 0 ?_;refine zP 2 ?_;refine zP 3 ?_;refine zP 4 ?_;refine zP 5 ?_;refine jg 1 fun K hK=>?_;go_simp
  go_at_call 24
  refine j5.out.mono ?_;rintro e w8 ⟨sa,sc,rfl,H4,H3⟩;have C8:Hid (w8.cell? ⟨b5,0,none⟩=some (.int .i64 M.letters)/\w8.cell? ⟨b5,1,none⟩=some (.int .i64 M.start)/\w8.cell? ⟨b5,2,none⟩=some (.slice sf m cf)/\w8.cell? ⟨b5,3,none⟩=some (.slice sn m cn)):=Kh ⟨zN C.out.1 H3,zN C.out.2.1 H3,zN C.out.2.2.1 H3,zN C.out.2.2.2 H3⟩;refine hK.out _ _ ⟨C8.out,fun _=>trivial⟩ ?_;have g5:=uH M m k;obtain⟨gs,d6⟩:=Nm (pH M m k);have d7:=mL H0.out;rw[<-d6]at H4 g5 d7⊢;have i6:=H0.out.k1;have i5:=H0.out.k6;have d5:=qNH w8.heap.size w4.heap.size w8 (.slice sa gs.length sc) (.slice sf m cf) gs m (st0 M) M.final (Nat.le_refl _) (by have:=e7.out.size;have:=H3.size;omega) H4.tmat (((j8.out.mono i1.out).kept e7.out yq).kept H3 yq) H0.out.hn e4.out d7 yo yo yo;rw[<-j2.out]at d5;have j4:=Kh d5;have c5:=Kh (zE e7.out H3);have b1:=Kh d6;clear hK K C H4 H3 g5 d7 i6 i5 d5 d6
  try simp only[Act.put,sPa,sPb,sPc]
  refine jg 6 fun K hK=>?_;go_simp
  go_at_call 23
  refine j4.out.mono ?_;rintro e w9 (⟨rfl,a4,h6⟩|⟨S,v9,rfl,g8,g9,h6⟩)
  ·have b2:=Kh a4
   clear a4;have C9:Hid (w9.cell? ⟨b5,0,none⟩=some (.int .i64 M.letters)/\w9.cell? ⟨b5,1,none⟩=some (.int .i64 M.start)/\w9.cell? ⟨b5,2,none⟩=some (.slice sf m cf)/\w9.cell? ⟨b5,3,none⟩=some (.slice sn m cn)):=Kh ⟨zN C8.out.1 h6,zN C8.out.2.1 h6,zN C8.out.2.2.1 h6,zN C8.out.2.2.2 h6⟩;refine hK.out _ _ ⟨C9.out,fun _=>trivial⟩ ?_;have a5:=zD h9.out (zE c5.out h6);have h5:=Kh a5;have e6:=Kh (zE (zE e8.out c5.out) h6);clear hK K C8 a5 h6
   try simp only[Act.put,sPa,sPb,sPc]
   refine zP 7 ?_;refine zP 8 ?_;refine jg 9 fun K hK=>?_;obtain⟨p0,p1,p2,p3,p4,p5⟩:=zU h5.out;have f0:=zB h5.out 0;have f1:=zB h5.out 1;have f2:=zB h5.out 2;have f3:=zB h5.out 3;have f4:=zB h5.out 4;have f5:=zB h5.out 5;go_simp;obtain⟨H2,h0⟩:=uT h5.out (.int .i64 0) (.slice none 0 0) (.slice none 0 0) (.slice none 0 0) (.slice none 0 0) (.slice none 0 0)
   have h7:∀q,(Option.some (P+1):Option Nat)=some q->q≠b5:=fun q e e2=>by
    have e:P+1=q:=Oj e;subst e;subst e2;have h1:=e9.out;have h2:=h9.out;rw[h1]at h2;simp at h2
   have CZ:Hid (((((((w9.setCell ⟨P+1,0,none⟩ (.int .i64 0)).setCell ⟨P+1,1,none⟩ (.slice none 0 0)).setCell ⟨P+1,2,none⟩ (.slice none 0 0)).setCell ⟨P+1,3,none⟩ (.slice none 0 0)).setCell ⟨P+1,4,none⟩ (.slice none 0 0)).setCell ⟨P+1,5,none⟩ (.slice none 0 0)).cell? ⟨b5,0,none⟩=some (.int .i64 M.letters)/\((((((w9.setCell ⟨P+1,0,none⟩ (.int .i64 0)).setCell ⟨P+1,1,none⟩ (.slice none 0 0)).setCell ⟨P+1,2,none⟩ (.slice none 0 0)).setCell ⟨P+1,3,none⟩ (.slice none 0 0)).setCell ⟨P+1,4,none⟩ (.slice none 0 0)).setCell ⟨P+1,5,none⟩ (.slice none 0 0)).cell? ⟨b5,1,none⟩=some (.int .i64 M.start)/\((((((w9.setCell ⟨P+1,0,none⟩ (.int .i64 0)).setCell ⟨P+1,1,none⟩ (.slice none 0 0)).setCell ⟨P+1,2,none⟩ (.slice none 0 0)).setCell ⟨P+1,3,none⟩ (.slice none 0 0)).setCell ⟨P+1,4,none⟩ (.slice none 0 0)).setCell ⟨P+1,5,none⟩ (.slice none 0 0)).cell? ⟨b5,2,none⟩=some (.slice sf m cf)/\((((((w9.setCell ⟨P+1,0,none⟩ (.int .i64 0)).setCell ⟨P+1,1,none⟩ (.slice none 0 0)).setCell ⟨P+1,2,none⟩ (.slice none 0 0)).setCell ⟨P+1,3,none⟩ (.slice none 0 0)).setCell ⟨P+1,4,none⟩ (.slice none 0 0)).setCell ⟨P+1,5,none⟩ (.slice none 0 0)).cell? ⟨b5,3,none⟩=some (.slice sn m cn)):=Kh ⟨qH C9.out.1 h0 h7,qH C9.out.2.1 h0 h7,qH C9.out.2.2.1 h0 h7,qH C9.out.2.2.2 h0 h7⟩;refine hK.out _ _ ⟨CZ.out,fun _=>trivial⟩ ?_;obtain⟨wZ,H9⟩:=Nm (((((((w9.setCell ⟨P+1,0,none⟩ (.int .i64 0)).setCell ⟨P+1,1,none⟩ (.slice none 0 0)).setCell ⟨P+1,2,none⟩ (.slice none 0 0)).setCell ⟨P+1,3,none⟩ (.slice none 0 0)).setCell ⟨P+1,4,none⟩ (.slice none 0 0)).setCell ⟨P+1,5,none⟩ (.slice none 0 0)));rw[<-H9]at H2 h0 CZ⊢;have e3:=Kh H2;have b0:=Kh h0;clear hK K p0 p1 p2 p3 p4 p5 f0 f1 f2 f3 f4 f5 H2 h0 H9 h7
   try simp only[Act.put,sPa,sPb,sPc]
   refine zP 10 ?_;refine uY yk ?_ _;refine NoPanic.normal ?_;obtain⟨p0,p1,p2,p3,p4,p5⟩:=zU e3.out;go_wp2;refine bodyPost_ret (v:=.tuple #[.agg #[.int .i64 0,.slice none 0 0,.slice none 0 0,.slice none 0 0,.slice none 0 0,.slice none 0 0],.int .i64 3]) (by simp[results,Tryz.results9,go_sem,p0,p1,p2,p3,p4,p5]) rfl ?_;exact .inl ⟨3,rfl,jd,fun h=>absurd a9.out.symm h,fun _=>⟨rfl,⟨m,i2.out,.inr b2.out.1⟩,qFD h8.out (by rw[<-c4.out];exact H0.out) (.inr (by have:=b2.out.2;rw[b1.out,c4.out]at this;exact this))⟩,zE e6.out b0.out (fun j e=>by have e:P+1=j:=Oj e;have:=a8.out;omega)⟩
  have H8:=Kh g9;obtain⟨vT,vW,vI,vA,vP,rfl,hT,hW,hI,hA,i0⟩:=g9;obtain⟨tA,tC,rfl⟩:=(nV.tmat hT).shape;obtain⟨wA',wC,rfl⟩:=hW.shape;obtain⟨iA,iC,rfl⟩:=hI.shape;obtain⟨aA,aC,rfl⟩:=hA.shape;obtain⟨lA,lC,rfl⟩:=i0.shape;obtain⟨tn,f8⟩:=Nm S.tab.length;obtain⟨wn,f6⟩:=Nm ((uV S.words).length);obtain⟨iN,g4⟩:=Nm ((nats S.images).length);obtain⟨aN,g7⟩:=Nm ((bls S.accept).length);obtain⟨lN,g3⟩:=Nm ((bls S.plus).length);rw[<-f8]at H8⊢;rw[<-f6]at H8⊢;rw[<-g4]at H8⊢;rw[<-g7]at H8⊢;rw[<-g3]at H8⊢;have j3:=Kh g8;have e5:=H8;clear hT hW hI hA i0 g8 f8 f6 g4 g7 g3;have C9:Hid (w9.cell? ⟨b5,0,none⟩=some (.int .i64 M.letters)/\w9.cell? ⟨b5,1,none⟩=some (.int .i64 M.start)/\w9.cell? ⟨b5,2,none⟩=some (.slice sf m cf)/\w9.cell? ⟨b5,3,none⟩=some (.slice sn m cn)):=Kh ⟨zN C8.out.1 h6,zN C8.out.2.1 h6,zN C8.out.2.2.1 h6,zN C8.out.2.2.2 h6⟩;refine hK.out _ _ ⟨C9.out,fun _=>trivial⟩ ?_;have a5:=zD h9.out (zE c5.out h6);have h5:=Kh a5;have e6:=Kh (zE (zE e8.out c5.out) h6);clear hK K C8 a5 h6
  try simp only[Act.put,sPa,sPb,sPc]
  refine zP 7 ?_;refine zP 8 ?_;refine jg 9 fun K hK=>?_;obtain⟨p0,p1,p2,p3,p4,p5⟩:=zU h5.out;have f0:=zB h5.out 0;have f1:=zB h5.out 1;have f2:=zB h5.out 2;have f3:=zB h5.out 3;have f4:=zB h5.out 4;have f5:=zB h5.out 5;go_simp;obtain⟨H2,h0⟩:=uT h5.out (.int .i64 S.k) (.slice tA tn tC) (.slice wA' wn wC) (.slice iA iN iC) (.slice aA aN aC) (.slice lA lN lC)
  have h7:∀q,(Option.some (P+1):Option Nat)=some q->q≠b5:=fun q e e2=>by
   have e:P+1=q:=Oj e;subst e;subst e2;have h1:=e9.out;have h2:=h9.out;rw[h1]at h2;simp at h2
  have CZ:Hid (((((((w9.setCell ⟨P+1,0,none⟩ (.int .i64 S.k)).setCell ⟨P+1,1,none⟩ (.slice tA tn tC)).setCell ⟨P+1,2,none⟩ (.slice wA' wn wC)).setCell ⟨P+1,3,none⟩ (.slice iA iN iC)).setCell ⟨P+1,4,none⟩ (.slice aA aN aC)).setCell ⟨P+1,5,none⟩ (.slice lA lN lC)).cell? ⟨b5,0,none⟩=some (.int .i64 M.letters)/\((((((w9.setCell ⟨P+1,0,none⟩ (.int .i64 S.k)).setCell ⟨P+1,1,none⟩ (.slice tA tn tC)).setCell ⟨P+1,2,none⟩ (.slice wA' wn wC)).setCell ⟨P+1,3,none⟩ (.slice iA iN iC)).setCell ⟨P+1,4,none⟩ (.slice aA aN aC)).setCell ⟨P+1,5,none⟩ (.slice lA lN lC)).cell? ⟨b5,1,none⟩=some (.int .i64 M.start)/\((((((w9.setCell ⟨P+1,0,none⟩ (.int .i64 S.k)).setCell ⟨P+1,1,none⟩ (.slice tA tn tC)).setCell ⟨P+1,2,none⟩ (.slice wA' wn wC)).setCell ⟨P+1,3,none⟩ (.slice iA iN iC)).setCell ⟨P+1,4,none⟩ (.slice aA aN aC)).setCell ⟨P+1,5,none⟩ (.slice lA lN lC)).cell? ⟨b5,2,none⟩=some (.slice sf m cf)/\((((((w9.setCell ⟨P+1,0,none⟩ (.int .i64 S.k)).setCell ⟨P+1,1,none⟩ (.slice tA tn tC)).setCell ⟨P+1,2,none⟩ (.slice wA' wn wC)).setCell ⟨P+1,3,none⟩ (.slice iA iN iC)).setCell ⟨P+1,4,none⟩ (.slice aA aN aC)).setCell ⟨P+1,5,none⟩ (.slice lA lN lC)).cell? ⟨b5,3,none⟩=some (.slice sn m cn)):=Kh ⟨qH C9.out.1 h0 h7,qH C9.out.2.1 h0 h7,qH C9.out.2.2.1 h0 h7,qH C9.out.2.2.2 h0 h7⟩;refine hK.out _ _ ⟨CZ.out,fun _=>trivial⟩ ?_;obtain⟨wZ,H9⟩:=Nm (((((((w9.setCell ⟨P+1,0,none⟩ (.int .i64 S.k)).setCell ⟨P+1,1,none⟩ (.slice tA tn tC)).setCell ⟨P+1,2,none⟩ (.slice wA' wn wC)).setCell ⟨P+1,3,none⟩ (.slice iA iN iC)).setCell ⟨P+1,4,none⟩ (.slice aA aN aC)).setCell ⟨P+1,5,none⟩ (.slice lA lN lC)));rw[<-H9]at H2 h0 CZ⊢;have e3:=Kh H2;have b0:=Kh h0;clear hK K p0 p1 p2 p3 p4 p5 f0 f1 f2 f3 f4 f5 H2 h0 H9 h7
  try simp only[Act.put,sPa,sPb,sPc]
  refine zP 10 ?_;refine uY yk ?_ _;refine NoPanic.normal ?_;obtain⟨p0,p1,p2,p3,p4,p5⟩:=zU e3.out;go_wp2;refine bodyPost_ret (v:=.tuple #[.agg #[.int .i64 S.k,.slice tA tn tC,.slice wA' wn wC,.slice iA iN iC,.slice aA aN aC,.slice lA lN lC],.int .i64 0]) (by simp[results,Tryz.results9,go_sem,p0,p1,p2,p3,p4,p5]) rfl ?_;exact .inr ⟨S,_,n,k,m,M,h8.out,c4.out,H0.out,yo,rfl,b1.out ▸ j3.out,(e5.out.kept b0.out (fun q e=>by have e:P+1=q:=Oj e;subst e;exact .inr ⟨_,_,_,h5.out,by unfold qPG;decide⟩)).mono b0.out.size,zE e6.out b0.out (fun j e=>by have e:P+1=j:=Oj e;have:=a8.out;omega)⟩
 have f7:vd≠0:=hv;go_wp2;refine bodyPost_ret (v:=.tuple #[.agg #[.int .i64 0,.slice none 0 0,.slice none 0 0,.slice none 0 0,.slice none 0 0,.slice none 0 0],.int .i64 vd]) (by simp[results,Tryz.results9,go_sem,p0,p1,p2,p3,p4,p5]) rfl ?_;obtain⟨H2,h0⟩:=uT b3.out (.int .i64 0) (.slice none 0 0) (.slice none 0 0) (.slice none 0 0) (.slice none 0 0) (.slice none 0 0);exact .inl ⟨vd,rfl,f7,fun _=>a9.out,fun h=>absurd (a9.out.trans h) f7,zE (zE HG.out c6.out) h0 (fun j e=>by have e:P+1=j:=Oj e;have:=a8.out;omega)⟩
end Go.Proofs.YtiknckajkdlppaaGreat
namespace Go.Proofs.YtiknckajkdlppaaGreat
variable{x n B j i:Nat}{S S':SynV}{v:Value}{r:List Int}
theorem qBA (m:Nat)(l:List Nat):lS m l=metL m l:=by
 suffices h:∀(l q:List Nat),l.foldl (fun ps x=>ps.set x true) (metL m q)=metL m (q++l) by
  have:=h l [];rw[aK]at this;exact this
 intro l
 induction l with
 | nil=>intro q;rw[List.append_nil];rfl
 | cons x l ih =>
  intro q;rw[List.foldl_cons,jO,ih,List.append_assoc];rfl
theorem qFF (m:Nat)(l:List Nat):metL m (mH (metL m l))=metL m l:=by
 refine List.ext_getElem (by simp[metL]) fun i h1 h2=>?_;rw[wF]at h1;simp only[metL,List.getElem_map,List.getElem_range];refine decide_eq_decide.2 ⟨fun h=>?_,fun h=>?_⟩
 ·have:=(List.mem_filter.1 h).2
  rw[show ((List.range m).map fun q=>decide (q∈l))=metL m l from rfl,lK h1]at this;exact of_decide_eq_true this
 refine List.mem_filter.2 ⟨List.mem_range.2 (by simpa [metL] using h1),?_⟩;rw[show ((List.range m).map fun q=>decide (q∈l))=metL m l from rfl,lK h1];exact decide_eq_true h
theorem qPU {t:List (List Int)}{gs m:List Nat}(hb:∀x∈gs,x∈m)(hc:pY t m)(h:Gen t gs x):x∈m:=by
 induction h with
 | base x hx=>exact hb x hx
 | mul x y _ _ h1 h2=>exact hc x h1 y h2
theorem qNS {t:List (List Int)}{gs m m':List Nat}(h:GenI t gs m)(hc:pY t m)(h':GenI t gs m')(a9:pY t m'):metL n m=metL n m':=by
 unfold metL;refine List.map_congr_left fun x _=>decide_eq_decide.2 ⟨fun hx=>qPU h'.base a9 (h.gen x hx),fun hx=>qPU h.base hc (h'.gen x hx)⟩
theorem SynE.eq {gs:List (List Nat)}{st:Nat}{fin:List Bool}(h:SynE gs n st fin S)(h':SynE gs n st fin S')(h1:1<=n)(hk:1<=gs.length):S=S':=by
 obtain⟨el,pr,la,ri,mm,hf,hl,e1,e2,e3,e4,e5,hG,hC,e6⟩:=h;obtain⟨el',pr',la',ri',mm',h0,h4,e1',e2',e3',e4',e5',h2,h3,e6'⟩:=h';obtain⟨rfl,rfl,rfl,rfl⟩:=hf.eq h0 h1 hk;obtain⟨k,tab,words,images,accept,plus⟩:=S;obtain⟨k',tab',words',images',accept',plus'⟩:=S';simp only at *;subst e1 e2 e3 e4 e5 e1' e2' e3' e4' e5';rw[qBA,qFF]at e6 e6';rw[e6,e6',qNS hG hC h2 h3]
theorem nK.eq {d:DfaV}(h:nK d S)(h':nK d S'):S=S':=by
 obtain⟨n,k,m,M,hd,rfl,hM,hm,hS⟩:=h;obtain⟨n',k',m',M',h0,rfl,h2,h3,h1⟩:=h';have ek:k=k':=by have:=hd.hk;have:=h0.hk;omega
 subst ek;have em:m=m':=by rw[<-hM.hn,<-h2.hn]
 subst em;exact hS.eq h1 hM.n1 (by rw[uH];exact hM.k1)
open Go.RowKit
structure SynI where
 k:Int
 tab:List (List Int)
 words:List ByteArray
 images:List Int
 accept:List Bool
 plus:List Bool
def SynV.I (S:SynV):SynI:=⟨S.k,tabI S.tab,S.words.map fun u=>strOfNums (lets u),S.images.map fun(x:Nat)=>(x:Int),S.accept,S.plus⟩
def pX (B:Nat)(w:World)(v:Value)(I:SynI):Prop:=∃vT vW vI vA vP,v=.agg #[.int .i64 I.k,vT,vW,vI,vA,vP]/\Mat B w vT I.tab/\Row B w vW (uZ I.words)/\Row B w vI (ints I.images)/\Row B w vA (bls I.accept)/\Row B w vP (bls I.plus)
theorem pX.kept {w w':World}{I:SynI}(h:pX B w v I)(hg:w.grownBy w' none):pX B w' v I:=by
 obtain⟨vT,vW,vI,vA,vP,rfl,h1,h2,h3,h4,h5⟩:=h;exact⟨vT,vW,vI,vA,vP,rfl,h1.kept hg yq,h2.kept hg yq,h3.kept hg yq,h4.kept hg yq,h5.kept hg yq⟩
theorem iF.toI {w:World}(h:iF B w v S):pX B w v S.I:=by
 obtain⟨vT,vW,vI,vA,vP,rfl,h1,h2,h3,h4,h5⟩:=h;refine⟨vT,vW,vI,vA,vP,rfl,h1.tmat.mat,?_,?_,h4.row,h5.row⟩
 ·have:uZ (S.I).words=uV S.words:=by simp[uZ,SynV.I,uV]
  rw[this];exact h2.row
 have:=h3.row;rw[qBK]at this;exact this
def uP (I:SynI):Bool:=decide ((1<=I.k/\I.k<=6/\1<=I.tab.length/\I.tab.length<=400)/\I.words.length=I.tab.length/\I.accept.length=I.tab.length/\I.plus.length=I.tab.length/\(I.images.length:Int)=I.k) && (I.tab.all fun r=>decide (r.length=I.tab.length) && inR I.tab.length r) && inR I.tab.length I.images
theorem sZ {I:SynI}(h:uP I=true):(1<=I.k/\I.k<=6/\1<=I.tab.length/\I.tab.length<=400)/\(I.words.length=I.tab.length/\I.accept.length=I.tab.length/\I.plus.length=I.tab.length/\(I.images.length:Int)=I.k)/\(∀r∈I.tab,r.length=I.tab.length/\inR I.tab.length r=true)/\inR I.tab.length I.images=true:=by
 unfold uP at h;rw[Bool.and_eq_true,Bool.and_eq_true,decide_eq_true_eq,List.all_eq_true]at h;refine⟨h.1.1.1,h.1.1.2,fun r hr=>?_,h.2⟩;have:=h.1.2 r hr;rw[Bool.and_eq_true,decide_eq_true_eq]at this;exact this
theorem qGE {I:SynI}(h:¬((1<=I.k/\I.k<=6/\1<=I.tab.length/\I.tab.length<=400)/\I.words.length=I.tab.length/\I.accept.length=I.tab.length/\I.plus.length=I.tab.length/\(I.images.length:Int)=I.k)):uP I=false:=by
 unfold uP;rw[decide_eq_false h];rfl
theorem fP {I:SynI}(hr:r∈I.tab)(h:¬(r.length=I.tab.length/\inR I.tab.length r=true)):uP I=false:=by
 rcases hb:uP I with _|_
 ·rfl
 exact absurd ((sZ hb).2.2.1 r hr) h
theorem qCZ {I:SynI}(h:(1<=I.k/\I.k<=6/\1<=I.tab.length/\I.tab.length<=400)/\I.words.length=I.tab.length/\I.accept.length=I.tab.length/\I.plus.length=I.tab.length/\(I.images.length:Int)=I.k)(hr:∀x,x<I.tab.length->(I.tab.getD x []).length=I.tab.length/\inR I.tab.length (I.tab.getD x [])=true):uP I=inR I.tab.length I.images:=by
 unfold uP;rw[decide_eq_true h,List.all_eq_true.2 (fun r hm=>?_)]
 ·rfl
 obtain⟨i,hi,rfl⟩:=List.getElem_of_mem hm;have:=hr i hi;rw[zQ hi]at this;rw[Bool.and_eq_true,decide_eq_true_eq];exact this
def qUF (I:SynI)(x:Nat):Prop:=∀y,y<x->(I.tab.getD y []).length=I.tab.length/\inR I.tab.length (I.tab.getD y [])=true
theorem qGD (B:Nat)(w:World)(v:Value)(I:SynI)(h:pX B w v I):Calls Tryz.prog 44 #[v] w fun e w'=>e=.returned (.bool (uP I))/\w.grownBy w' none:=by
 obtain⟨vT,vW,vI,vA,vP,rfl,hT,hW,hI,hA,hP⟩:=h;obtain⟨tA,tC,rfl⟩:=hT.shape;obtain⟨wA,wC,rfl⟩:=hW.shape;obtain⟨iA,iC,rfl⟩:=hI.shape;obtain⟨aA,aC,rfl⟩:=hA.shape;obtain⟨pA,pC,rfl⟩:=hP.shape;obtain⟨n,hn⟩:=Nm I.tab.length;obtain⟨wn,H6⟩:=Nm ((uZ I.words).length);obtain⟨iN,H4⟩:=Nm ((ints I.images).length);obtain⟨an,a7⟩:=Nm ((bls I.accept).length);obtain⟨pn,a1⟩:=Nm ((bls I.plus).length);obtain⟨k,hk⟩:=Nm I.k;rw[<-hn,<-H6,<-H4,<-a7,<-a1,<-hk];rw[<-hn]at hT;rw[<-H4]at hI;have H7:wn=I.words.length:=by rw[H6];simp[uZ]
 have a3:iN=I.images.length:=by rw[H4,zL]
 have a8:an=I.accept.length:=by rw[a7,yB]
 have a2:pn=I.plus.length:=by rw[a1,yB]
 obtain⟨w1,H3⟩:=Nm (w.alloc (.cells #[.int .i64 k,.slice tA n tC,.slice wA wn wC,.slice iA iN iC,.slice aA an aC,.slice pA pn pC] 39));have H5:w.grownBy w1 none:=by rw[H3];exact Ga w _ none
 have a4:=heap_alloc_new w (.cells #[.int .i64 k,.slice tA n tC,.slice wA wn wC,.slice iA iN iC,.slice aA an aC,.slice pA pn pC] 39);obtain⟨P,a9⟩:=Nm w.heap.size;rw[<-H3,<-a9]at a4;obtain⟨q0,q1,q2,q3,q4,q5⟩:=zU a4;have HT:=Kh (hT.kept H5 yq);have HI:=Kh (hI.kept H5 yq);obtain⟨h0,c3,c6,HN,c2,c7⟩:=Kf H5 H3 a9 hn H7 a3;obtain⟨c8,c5,HK⟩:=Kc a8 a2 hk;have H0:Hid (¬((1<=k/\k<=6/\1<=n/\n<=400)/\wn=n/\an=n/\pn=n/\(iN:Int)=k)->uP I=false):=Kh (fun h=>qGE (by rw[<-hn,<-H7,<-a3,<-a8,<-a2,<-hk];exact h));obtain⟨R,hR⟩:=Nm (uP I);rw[<-hR]at H0⊢;have b2:=Kh hR;clear hT hW hI hA hP hn H6 H4 a7 a1 H7 a3 a8 a2 H5 a4 H3 a9 hk hR;go_enter Tryz.func44,Tryz.ntmps44;go_upto_region 1 with fail;rw[<-c3.out,<-c6.out];by_cases h1:k<1
 ·go_wp2
  go_ret;exact⟨yQ (H0.out yo).symm,h0.out⟩
 by_cases h2:6<k
 ·go_wp2
  go_ret;exact⟨yQ (H0.out yo).symm,h0.out⟩
 by_cases h3:(n:Int)<1
 ·go_wp2
  go_ret;exact⟨yQ (H0.out yo).symm,h0.out⟩
 by_cases h4:400<(n:Int)
 ·go_wp2
  go_ret;exact⟨yQ (H0.out yo).symm,h0.out⟩
 by_cases h5:wn=n
 case neg =>
  have e5:((wn:Int) != (n:Int))=true:=by rw[bne_iff_ne];omega
  go_wp2;go_ret;exact⟨yQ (H0.out yo).symm,h0.out⟩
 have e5:((wn:Int) != (n:Int))=false:=by rw[bne_eq_false_iff_eq];omega
 by_cases h6:an=n
 case neg =>
  have e6:((an:Int) != (n:Int))=true:=by rw[bne_iff_ne];omega
  go_wp2;go_ret;exact⟨yQ (H0.out yo).symm,h0.out⟩
 have e6:((an:Int) != (n:Int))=false:=by rw[bne_eq_false_iff_eq];omega
 by_cases h7:pn=n
 case neg =>
  have e7:((pn:Int) != (n:Int))=true:=by rw[bne_iff_ne];omega
  go_wp2;go_ret;exact⟨yQ (H0.out yo).symm,h0.out⟩
 have e7:((pn:Int) != (n:Int))=false:=by rw[bne_eq_false_iff_eq];omega
 by_cases h8:(iN:Int)=k
 case neg =>
  have e8:((iN:Int) != k)=true:=by rw[bne_iff_ne];omega
  go_wp2;go_ret;exact⟨yQ (H0.out yo).symm,h0.out⟩
 have e8:((iN:Int) != k)=false:=by rw[bne_eq_false_iff_eq];omega
 have b0:Hid ((1<=k/\k<=6/\1<=n/\n<=400)/\wn=n/\an=n/\pn=n/\(iN:Int)=k):=Kh yo;obtain⟨tb,tf,tc,A,C,et,c0,b5,b6⟩:=HT.out.some_ (by have:=HN.out;omega);simp only[Value.slice.injEq]at et;obtain⟨rfl,c1,rfl⟩:=et;clear c1;have b4:=Kh b6;have b9:tC<=9223372036854775807:=jl b5
 rw[<-HN.out]at c0;have a6:Hid (∀x,x<n->∃a c,w1.cell? ⟨tb,tf+x,none⟩=some (.slice a (I.tab.getD x []).length c)/\Row B w1 (.slice a (I.tab.getD x []).length c) (ints (I.tab.getD x []))):=Kh (fun x hx=>⟨_,_,b4.out.hd x (by rw[<-HN.out];exact hx),b4.out.row x (by rw[<-HN.out];exact hx)⟩);clear b6 b5 h5 h6 h7 h8 H0 b4;go_wp2
 go_loopg [5,55] n (fun gh a5 a55 wr=>∃x:Nat,gh+x=n/\a55=.int .i64 x/\qUF I x/\wr=w1)
 case atStart=>exact⟨0,rfl,rfl,fun y hy=>by omega,rfl⟩
 obtain⟨x,hg,rfl,hr,rfl⟩:=hrel;have HG:=Kh hg;have HR:=Kh hr;clear hg hr;by_cases hx:x<n
 ·have b8:(x:Int)<n:=yo
  obtain⟨a,c,hc,H1⟩:=a6.out x hx;have HM:Hid (I.tab.getD x []∈I.tab):=Kh (wT (by rw[<-HN.out];exact hx));obtain⟨r,H8⟩:=Nm (I.tab.getD x []);rw[<-H8]at hc H1 HM;obtain⟨rl,a0⟩:=Nm r.length;rw[<-a0]at hc H1;obtain⟨c4,b7,b1⟩:=Kc H8 a0 H1;clear H8 a0 H1;by_cases h9:rl=n
  case neg =>
   have e9:((rl:Int) != (n:Int))=true:=by rw[bne_iff_ne];omega
   go_wp2;go_ret;exact⟨yQ (by rw[b2.out,fP HM.out (fun h=>h9 (by rw[b7.out,h.1,HN.out]))]),h0.out⟩
  have e9:((rl:Int) != (n:Int))=false:=by rw[bne_eq_false_iff_eq];omega
  have H2:=Kh (dH B wr _ r n b1.out);obtain⟨b,hb⟩:=Nm (inR n r);rw[<-hb]at H2;have HB:=Kh hb;have H9:=Kh h9;clear hb h9;go_wp2_with fail;refine H2.out.mono ?_;rintro e w2 ⟨rfl,rfl⟩;cases b with
  | false =>
   go_wp2;go_ret;exact⟨yQ (by rw[b2.out,fP HM.out (fun h=>by have h2:=h.2;rw[<-HN.out,<-HB.out]at h2;exact absurd h2 jd)]),h0.out⟩
  | true =>
   go_wp2;go_roundg (n-(x+1))
   case measure=>have:=HG.out;omega
   refine⟨x+1,by have:=HG.out;omega,by go_num,fun y hy=>?_,rfl⟩;rcases Nat.lt_or_ge y x with h|h
   ·exact HR.out y h
   have:y=x:=yo
   subst this;rw[<-c4.out,<-b7.out,<-HN.out,<-HB.out];exact⟨H9.out,rfl⟩
 have b8:¬(x:Int)<n:=yo
 have b3:Hid (R=inR n I.images):=Kh (by
  have hy:=b0.out;rw[HN.out,c2.out,c7.out,c8.out,c5.out,HK.out]at hy;rw[b2.out,HN.out]
  exact qCZ hy (fun y hy=>HR.out y (by have:=HG.out;have:=HN.out;omega)))
 have H2:=Kh (dH B wr _ I.images n HI.out);rw[<-b3.out]at H2;go_wp2_with fail;refine H2.out.mono ?_;rintro e w2 ⟨rfl,rfl⟩;go_wp2;go_ret;exact⟨rfl,h0.out⟩
theorem Mat.of_rowT {w:World}{e:Nat}{hs:List Value}{t:List (List Int)}(h:RowT B e w v hs)(hr:tN B 3 ints w hs t)(hB:B<=w.heap.size):Mat w.heap.size w v t:=by
 have h0:=hr.1;rcases h with ⟨rfl,rfl⟩|⟨b,off,cap,cur,m,rfl,hb,hc1,hc2,hg,hcell⟩
 ·exact .inl ⟨_,_,rfl,List.eq_nil_of_length_eq_zero (by simpa using h0.symm)⟩
 have h3:∀x,∃a c,x<t.length->hs.getD x (.int .i64 0)=.slice a (t.getD x []).length c:=by
  intro x;by_cases hx:x<t.length
  ·have h1:=hr.2 x yo hx
   obtain⟨a,c,e⟩:=h1.shape;refine⟨a,c,fun _=>?_⟩;rw[zQ yo,e,zL,zQ hx]
  exact⟨none,0,fun h=>absurd h hx⟩
 obtain⟨A,hA⟩:=Classical.axiomOfChoice h3;obtain⟨C,hC⟩:=Classical.axiomOfChoice hA;refine .inr ⟨b,off,cap,A,C,by rw[h0],yo,hc2,zS hg,zS hg,fun x hx=>?_,fun x hx=>?_⟩
 ·rw[cell_of_row w b (off+x) _ _ _ hg,hcell x yo,<-hC x hx,zQ (show x<hs.length by omega)]
 have h1:=hr.2 x yo hx;have h2:=hC x hx;rw[zQ (show x<hs.length by omega)]at h2;rw[<-h2,zQ hx];exact h1.row.mono hB
def DfaT (w:World)(f nx:Value)(d:DfaV):Prop:=∃hs,RowT w.heap.size 4 w f (bls d.final)/\RowT w.heap.size 22 w nx hs/\tN w.heap.size 3 ints w hs d.next
section
variable {w w':World} {f nx:Value} {d:DfaV}
theorem DfaT.kept {row:Option Nat}(h:DfaT w f nx d)(hg:w.grownBy w' row)(h1:∀k,row=some k->yS w 4 k/\yS w 22 k/\yS w 3 k):DfaT w' f nx d:=by
 obtain⟨hs,a,b,c⟩:=h;exact⟨hs,(a.kept hg (fun k hk=>.inr (h1 k hk).1)).mono hg.size,(b.kept hg (fun k hk=>.inr (h1 k hk).2.1)).mono hg.size,(c.kept hg (fun k hk=>.inr (h1 k hk).2.2)).mono hg.size⟩
theorem DfaT.zero (w:World):DfaT w (.slice none 0 0) (.slice none 0 0) qQG:=⟨[],.inl ⟨rfl,rfl⟩,.inl ⟨rfl,rfl⟩,tN.nil⟩
theorem DfaT.ok (h:DfaT w f nx d):rP w.heap.size w (.agg #[.int .i64 d.letters,.int .i64 d.start,f,nx]) d:=by
 obtain⟨hs,a,b,c⟩:=h;exact⟨_,_,rfl,a.row,Mat.of_rowT b c (Nat.le_refl _)⟩
end
theorem rT.t {w w':World}{m:DfaV}(h:rT w w' v m):∃f nx,v=.agg #[.int .i64 m.letters,.int .i64 m.start,f,nx]/\DfaT w' f nx m:=by
 obtain⟨o,hs,sf,cf,sn,cn,rfl,_,hb⟩:=h;exact⟨_,_,rfl,hs,RowT.of_owns hb.ownF,RowT.of_owns hb.ownN,hb.rows⟩
def qSE (w:World)(E:Int)(m:DfaV)(e:Ending)(w':World):Prop:=∃f nx,e=.returned (.tuple #[.agg #[.int .i64 m.letters,.int .i64 m.start,f,nx],.int .i64 E])/\DfaT w' f nx m/\w.grownBy w' none
open Go.Maps
def autI (I:SynI):DfaV:=⟨I.k,0,I.accept,I.tab.map fun r=>I.images.map fun y=>r.getD y.toNat 0⟩
theorem tU (I:SynI):(autI I).next.length=I.tab.length:=by simp[autI]
theorem fG {I:SynI}(hx:x<I.tab.length):(autI I).next.getD x []=I.images.map fun y=>(I.tab.getD x []).getD y.toNat 0:=by
 rw[autI,xY (x:=[]) hx]
def aRow (r:List Int)(k j:Nat):List Int:=r.take j++List.replicate (k-j) 0
theorem qLV (r:List Int)(k:Nat):aRow r k 0=List.replicate k 0:=by simp[aRow]
theorem qPE {k:Nat}(hl:r.length=k)(hj:j<k):(aRow r k j).set j (r.getD j 0)=aRow r k (j+1):=by
 have e:(r.take j).length=j:=by simp[hl];omega
 rw[aRow,List.set_append_right _ _ yo,e,Nat.sub_self,show k-j=(k-(j+1))+1 by omega,List.replicate_succ,List.set_cons_zero,aRow,yH (d:=0) yo,List.append_assoc];rfl
theorem qPF {k:Nat}(hl:r.length=k):aRow r k k=r:=by rw[aRow,Nat.sub_self,List.take_of_length_le yo];simp
theorem qOB (l:List Int)(i:Nat)(c:Int):(ints l).set i (.int .i64 c)=ints (l.set i c):=by simp[ints,List.map_set]
theorem iQ {zs:List Int}(h:inR n zs=true)(hi:i<zs.length):∃y:Nat,zs.getD i 0=(y:Int)/\y<n:=by
 unfold inR at h;have h1:=List.all_eq_true.1 h _ (wT (d:=0) hi);have h2:=of_decide_eq_true h1;exact⟨(zs.getD i 0).toNat,yo,yo⟩
section
variable {w6 w:World} {o k m ng sc:Nat} {sa:Option Addr} {ac:List Bool} {hs:List Value} {dn:List (List Int)}
theorem AutS.read (h:AutS w6 o k m ng sa sc ac hs dn [] w)(hd:dn.length=m):w.heap[o]?=some (.cells #[.int .i64 (k:Int),.int .i64 0,.slice sa m sc,.slice (some ⟨ng,0,none⟩) m m] 29 (0,0))/\RowT w.heap.size 4 w (.slice sa m sc) (bls ac)/\RowT w.heap.size 22 w (.slice (some ⟨ng,0,none⟩) m m) hs/\tN w.heap.size 3 ints w hs dn:=by
 obtain⟨X,hB,hT⟩:=h;have h1:=hB.own (r:=⟨w6.heap.size,4,.slice sa m sc,m,bls ac,1⟩) yq;have h2:=hB.own (r:=⟨w6.heap.size,22,.slice (some ⟨ng,0,none⟩) m m,m,hs,1⟩) yq;rw[List.take_of_length_le (by have:=h2.1;simp only at this;omega)]at hT;exact⟨hB.box,RowT.of_owns h1,RowT.of_owns h2,hT.rowsT⟩
end
theorem aV (B:Nat)(w:World)(v:Value)(I:SynI)(a8:B<=w.heap.size)(h:pX B w v I)(a9:uP I=true):Calls Tryz.prog 46 #[v] w fun e w'=>∃v',e=.returned v'/\rP w'.heap.size w' v' (autI I)/\w.grownBy w' none:=by
 obtain⟨⟨k1,k6,m1,m4⟩,⟨e7,H4,f4,c9⟩,h4,H8⟩:=sZ a9;obtain⟨vT,vW,vI,vA,vP,rfl,hT,hW,hI,hA,hP⟩:=h;obtain⟨wA,wC,rfl⟩:=hW.shape;obtain⟨pA,pC,rfl⟩:=hP.shape;obtain⟨m,hm⟩:=Nm I.tab.length;obtain⟨k,hk⟩:=Nm I.images.length;obtain⟨wn,b8⟩:=Nm ((uZ I.words).length);obtain⟨pn,c5⟩:=Nm ((bls I.plus).length);obtain⟨aA,aC,rfl⟩:=hA.shape;have ean:(bls I.accept).length=m:=by rw[yB,H4,hm]
 have eik:I.k=(k:Int):=by rw[<-c9,hk]
 obtain⟨tb,tf,tC,A,C,rfl,e9,b9,a0⟩:=hT.some_ yo;obtain⟨ib,io,iC,rfl,_,f7,d0,c8⟩:=hI.some_ (by rw[zL];omega);rw[zL,<-hk]at f7⊢;rw[<-hm]at e9 H8 m1 m4⊢;rw[ean]at hA⊢;rw[<-b8,<-c5,eik];rw[eik]at k1 k6
 have h8:∀x,x<m->∃rb ro rc,w.cell? ⟨tb,tf+x,none⟩=some (.slice (some ⟨rb,ro,none⟩) m rc)/\(m<=rc/\rc<=maxLen)/\∀y,y<m->w.cell? ⟨rb,ro+y,none⟩=some (.int .i64 ((I.tab.getD x []).getD y 0)):=fun x hx=>by
  have hl:(I.tab.getD x []).length=m:=by rw[(h4 _ (wT yo)).1,hm]
  have h1:=a0.hd x yo;have h2:=a0.row x yo;rw[hl]at h1 h2;obtain⟨rb,ro,rc,e,_,c1,c2,c3⟩:=h2.some_ (by rw[zL,hl];omega);rw[zL,hl]at e c1;rw[e]at h1;exact⟨rb,ro,rc,h1,⟨c1,c2⟩,fun y hy=>c3.int y (by rw[hl];exact hy)⟩
 have H0:∀a,a<k->∃y:Nat,w.cell? ⟨ib,io+a,none⟩=some (.int .i64 (y:Int))/\y<m/\I.images.getD a 0=(y:Int):=fun a ha=>by
  obtain⟨y,e,hy⟩:=iQ H8 (i:=a) yo;exact⟨y,by rw[<-e];exact c8.int a yo,hy,e⟩
 obtain⟨w1,h7⟩:=Nm (w.alloc (.cells #[.int .i64 (k:Int),.slice (some ⟨tb,tf,none⟩) m tC,.slice wA wn wC,.slice (some ⟨ib,io,none⟩) k iC,.slice aA m aC,.slice pA pn pC] 39));have g1:w.grownBy w1 none:=by rw[h7];exact Ga w _ none
 have n1:=heap_alloc_new w (.cells #[.int .i64 (k:Int),.slice (some ⟨tb,tf,none⟩) m tC,.slice wA wn wC,.slice (some ⟨ib,io,none⟩) k iC,.slice aA m aC,.slice pA pn pC] 39);have b6:w1.heap.size=w.heap.size+1:=by rw[h7];simp
 rw[<-h7]at n1;obtain⟨w2,H2⟩:=Nm (w1.alloc (.cells #[.int .i64 0,.int .i64 0,.slice none 0 0,.slice none 0 0] 29));have g2:w1.grownBy w2 none:=by rw[H2];exact Ga w1 _ none
 have n2:=heap_alloc_new w1 (.cells #[.int .i64 0,.int .i64 0,.slice none 0 0,.slice none 0 0] 29);rw[<-H2,b6]at n2;obtain⟨P,a1⟩:=Nm w.heap.size;rw[<-a1]at n1 n2;have d7:=zD n1 g2;have H3:=zE g1 g2;obtain⟨b0,b1,e5,g8,HG,f9⟩:=Kf h8 H0 d7 n2 H3 h7;obtain⟨f8,d9,HM,HK⟩:=Kd H2 a1 hm hk;have HA:=Kh (hA.kept H3 yq);have i1:=Kh H4;have g5:=Kh eik
 have d5:∀W:World,w2.grownBy W none->Calls Tryz.prog 71 #[.slice aA m aC] W fun e w'=>∃sa sc,e=.returned (.slice sa m sc)/\w'.ownsRow W.heap.size 4 1 (.slice sa m sc) m (bls I.accept)/\W.grownBy w' none:=fun W hW=>by
  have:=qHW B W (.slice aA m aC) I.accept ((hA.kept H3 yq).kept hW yq) yo yo;rw[H4,<-hm]at this;exact this
 have g7:=Kh d5;have e8:tC<=9223372036854775807:=jl b9
 have f6:iC<=9223372036854775807:=jl d0
 clear h4 H8 hT hW hI hA hP hm hk b8 c5 a0 c8 b9 d0 h8 H0 d7 n1 n2 g1 g2 H3 h7 H2 a1 e7 H4 f4 c9 ean a9 d5 b6 eik;have k6':k<=6:=yo
 have k1':1<=k:=yo
 clear k1 k6;go_enter Tryz.func46,Tryz.ntmps46;go_upto_region 1 with fail;rw[<-f9.out,<-d9.out,<-f8.out];obtain⟨q0,q1,q2,q3,q4,q5⟩:=zU e5.out;refine qRG (k:=k) (m:=m) (ac:=I.accept) m4 ⟨q0,q4,q1⟩ g7.out ?_;intro z8 z9 z10 z11 z12 z13 z14 z15 z16 z17 w6 w7 o ng sa sc d3 a2;have e0:Hid (AutS w6 o k m ng sa sc I.accept (List.replicate m (.slice none 0 0)) ((autI I).next.take 0) [] w7):=Kh a2;have b4:=Kh d3;have H6:Hid (∀W:World,w6.grownBy W none->W.heap[P]?=some (.cells #[.int .i64 (k:Int),.slice (some ⟨tb,tf,none⟩) m tC,.slice wA wn wC,.slice (some ⟨ib,io,none⟩) k iC,.slice aA m aC,.slice pA pn pC] 39 (0,0))/\w.grownBy W none):=Kh (fun W hW=>⟨zD e5.out (zE b4.out hW),zE (zE HG.out b4.out) hW⟩);obtain⟨q0,q1,q2,q3,q4,q5⟩:=zU (H6.out _ a2.g).1;clear a2 d3;go_wp2
 go_loopg [4,5,6,7,21] m (fun gh a4 a5 a6 a7 a21 wr=>∃(x:Nat) (hs:List Value),gh+x=m/\a21=.int .i64 x/\AutS w6 o k m ng sa sc I.accept hs ((autI I).next.take x) [] wr)
 case atStart=>exact⟨0,_,rfl,rfl,e0.out⟩
 clear e0 q0 q1 q2 q3 q4 q5;obtain⟨x,hs,d2,rfl,h6⟩:=hrel;have b3:=Kh d2;have h3:=Kh h6;obtain⟨d6,h0⟩:=H6.out _ h6.g;obtain⟨q0,q1,q2,q3,q4,q5⟩:=zU d6;clear d2 h6 d6 q1 q2 q3 q4 q5;by_cases hx:x<m
 ·have e6:(x:Int)<m:=yo
  obtain⟨rb,ro,rc,cr,c4,c0⟩:=b0.out x hx;have cr:=zN cr h0;have g0:=Kh c0;have g3:=Kh c4;have e3:Hid (((autI I).next.take x).length=x):=Kh (by rw[List.length_take,tU,<-HM.out];omega);have d8:Hid (((autI I).next.getD x []).length=k):=Kh (by rw[fG (by rw[<-HM.out];exact hx),List.length_map,<-HK.out]);clear c0 c4 h0;go_upto_region 5 with fail;refine qRF h3.out hx e3.out m4 k6' q0 ?_;intro z26 z27 z28 z29 z30 z31 z32 w9 cg h9
  have e2:Hid ((hs.set x (.slice (some ⟨cg,0,none⟩) k k))[x]?=some (.slice (some ⟨cg,0,none⟩) k k)):=Kh (by
   have:=h9.cells.2.2;rw[List.length_set]at this
   rw[List.getElem?_set_self yo])
  rw[<-qLV ((autI I).next.getD x [])]at h9;have H9:=Kh h9;obtain⟨p0,p1,p2,p3,p4,p5⟩:=zU (H6.out _ h9.g).1;clear h9 cr q0 p0 p1 p2 p4 p5 h3;go_wp2
  go_loopg [6,7,36] k (fun gh a6 a7 a36 wr=>∃j:Nat,gh+j=k/\a36=.int .i64 j/\AutS w6 o k m ng sa sc I.accept (hs.set x (.slice (some ⟨cg,0,none⟩) k k)) ((autI I).next.take x) (⟨w6.heap.size,3,.slice (some ⟨cg,0,none⟩) k k,k,ints (aRow ((autI I).next.getD x []) k j),1⟩::[]) wr)
  case atStart=>exact⟨0,rfl,rfl,H9.out⟩
  clear H9 p3;obtain⟨j,d1,rfl,h6⟩:=hrel;have b2:=Kh d1;have h3:=Kh h6;have h0:=(H6.out _ h6.g).2;have i0:=Kh h0;clear d1 h6;by_cases hj:j<k
  ·have f5:(j:Int)<k:=yo
   obtain⟨y,ci,hy,ey⟩:=b1.out j hj;have ci:=zN ci h0;have cz:=zN (g0.out y hy) h0
   have hz:(I.tab.getD x []).getD y 0=((autI I).next.getD x []).getD j 0:=by
    rw[fG (by rw[<-HM.out];exact hx),xY (x:=0) (by rw[<-HK.out];exact hj),ey,Int.toNat_natCast]
   rw[hz]at cz;clear h0 hz ey;go_upto_region 9 with fail;refine qSP h3.out hx hj hy m4 k6' e2.out cz g3.out ?_;intro z41 z42 z43 z44 z45 z46 z47 z48 z49 z50 z51 w10 a3;rw[qOB,qPE d8.out hj]at a3;have b5:=Kh a3;clear a3 ci cz h3;go_wp2;go_roundg (k-(j+1))
   case measure=>have:=b2.out;omega
   exact⟨j+1,by have:=b2.out;omega,by go_num,b5.out⟩
  have c7:j=k:=by have:=b2.out;omega
  have f5:¬(j:Int)<k:=yo
  have b5:Hid (AutS w6 o k m ng sa sc I.accept (hs.set x (.slice (some ⟨cg,0,none⟩) k k)) ((autI I).next.take (x+1)) [] wr):=Kh (by
   have:=h3.out;rw[c7,qPF d8.out]at this;have:=this.fin e3.out hx e2.out;rw[yH (d:=[]) (by rw[tU,<-HM.out];exact hx)]
   exact this)
  clear h0 h3 c7;go_wp2;go_roundg (m-(x+1))
  case measure=>have:=b3.out;omega
  exact⟨x+1,_,by have:=b3.out;omega,by go_num,b5.out⟩
 have b7:x=m:=by have:=b3.out;omega
 have e6:¬(x:Int)<m:=yo;have H5:=h3.out;rw[b7,List.take_of_length_le (by rw[tU,<-HM.out];exact Nat.le_refl _)]at H5;obtain⟨d4,hf,hn,c6⟩:=H5.read (by rw[tU,<-HM.out]);have h5:=zD g8.out (zE b4.out H5.g);obtain⟨p0,p1,p2,p3⟩:=zM d4;obtain⟨r0,r1,r2,r3⟩:=zM h5;have f0:=zB h5 0;have f1:=zB h5 1;have f2:=zB h5 2;have f3:=zB h5 3;obtain⟨HF,HN,g4,e4,g6⟩:=Ke hf hn c6 h5 h0;clear H5 d4 hf hn c6 h5 h0 h3 b7 q0;go_wp2;refine bodyPost_ret (v:=.agg #[.int .i64 (k:Int),.int .i64 0,.slice sa m sc,.slice (some ⟨ng,0,none⟩) m m]) (by simp[results,Tryz.results46,go_sem,r0,r1,r2,r3]) rfl ?_;obtain⟨g9,H1⟩:=vS e4.out (.int .i64 (k:Int)) (.int .i64 0) (.slice sa m sc) (.slice (some ⟨ng,0,none⟩) m m)
 have H7:∀e',e'≠29->∀j,(some (P+1):Option Nat)=some j->wr.heap.size<=j\/yS wr e' j:=fun e' he j hj=>by
  have hj:=Oj hj;subst hj;exact .inr ⟨_,_,_,e4.out,fun e1=>he e1.symm⟩
 have hz:=H1.size;have eik:I.k=(k:Int):=g5.out;exact⟨_,rfl,⟨_,_,by simp only[autI,eik],((HF.out.kept H1 (H7 _ jd)).mono hz).row,Mat.of_rowT (HN.out.kept H1 (H7 _ jd)) (g4.out.kept H1 (H7 _ jd)) hz⟩,zE g6.out H1 (fun j e=>by have e:P+1=j:=Oj e;have:=d9.out;omega)⟩
theorem qSN {Q:Exit->Act->World->Prop}{v0 v1 v2 v3 v4 v6 v7 v9 x2 x3 x4 x5 x6 x7 x8 x9 t0 t1 t2 t3 t4 t5 t6 t7 t8 t9 s0 s1 s2 s3 s4 s5 s6 s7 s8 s9 r0 r1 r2 r3 r4 r5 r6 r7 r8 r9 q0 q1 q4 q5 q6 q7 q8 p0 p1 p2 p3 p4 p5 p6 p7 p8 p9 o0 o1 o2 o3 o4 o5 o6 o7 o8 o9 n0 n1 n2 n3 n4 n5 n6 n7 n8 n9 m0 m1 m2 m3 m4 m5 m6 m7 m8 m9 l0 l1 l2 g0 g1 g2 g3 g4 g5 g6 g7 g8 g9 f0 f1 f2 f3 f4 f5 f6 f7 f8 e0 e1 e2 l8 l9 k0 k1 k2 k3 k4 k5 k6 k7 k8 k9 j0 j1 j2 j3 j4 j5 j6 j7 j8 j9 i0 i1 i2 i3 i4 i5 i6 i7 e3 e4 e5 e6 e7 e8 e9 d0 d1 d2 d3 d4 d5 d6 d7 d8 d9 c0 c1 c2 c3 c7 c8 c9 b0 b1 b2 b3 b4 b6 b7 b8 b9 a0 a1 a2 a3 a4 a5 a6 a7 a8 a9:Value}{w6 w:World}{o m k tg wg ig ic pg:Nat}{im:List Nat}{l6:List Value}{done:List (List Nat)}{ws:List Value}{ps:List Bool}{i8:List Nat}{cg b5 qb qo qc lb lo lc rb rf rd sb so sc p a y:Nat}(h:MonS w6 o m k tg wg ig ic pg im l6 done ws ps (⟨w6.heap.size,3,.slice (some ⟨cg,0,none⟩) m m,m,nats i8,1⟩::[]) w)(hi:i<m)(hj:j<m)(hp:p<m)(hx:x<m)(ha:a<k)(hm:m<=400)(x1:i8.length=m)(hh:l6[i]?=some (.slice (some ⟨cg,0,none⟩) m m))(cx:i8.getD p 0=x)(c6:w.cell? ⟨b5,6,none⟩=some (.slice (some ⟨rb,rf,none⟩) m rd))(c4:w.cell? ⟨b5,4,none⟩=some (.slice (some ⟨qb,qo,none⟩) m qc))(cq:w.cell? ⟨qb,qo+j,none⟩=some (.int .i64 (p:Int)))(cr:w.cell? ⟨rb,rf+x,none⟩=some (.slice (some ⟨sb,so,none⟩) k sc))(c5:w.cell? ⟨b5,5,none⟩=some (.slice (some ⟨lb,lo,none⟩) m lc))(cl:w.cell? ⟨lb,lo+j,none⟩=some (.int .i64 (a:Int)))(cy:w.cell? ⟨sb,so+a,none⟩=some (.int .i64 (y:Int)))(l4:m<=qc/\qc<=maxLen)(l3:m<=lc/\lc<=maxLen)(l5:m<=rd/\rd<=maxLen)(l7:k<=sc/\sc<=maxLen)(i9:∀(z122 z123 z124 z125 z126 z127 z128 z129 z130 z131 z132 z133 z134 z135 z136 z137 z138 z139 z140 z141 z142 z143 z144 z145 z146 z147 z148 z149 z150 z151:Value) (w':World),MonS w6 o m k tg wg ig ic pg im l6 done ws ps (⟨w6.heap.size,3,.slice (some ⟨cg,0,none⟩) m m,m,nats (i8.set j y),1⟩::[]) w'->Q .normal ⟨(v0::v1::v2::v3::v4::(Value.pointer (some ⟨b5,0,none⟩))::v6::v7::(Value.pointer (some ⟨o,0,none⟩))::v9::(Value.int .i64 (i:Int))::x2::(Value.int .i64 (j:Int))::x3::x4::x5::x6::x7::x8::x9::t0::t1::t2::t3::t4::t5::t6::t7::t8::t9::s0::s1::s2::s3::s4::s5::s6::s7::s8::s9::r0::r1::r2::r3::r4::r5::r6::r7::r8::r9::q0::q1::q4::q5::q6::q7::q8::p0::p1::p2::p3::p4::p5::p6::p7::p8::p9::o0::o1::o2::o3::o4::o5::o6::o7::o8::o9::n0::n1::n2::n3::n4::n5::n6::n7::n8::n9::m0::m1::m2::m3::m4::m5::m6::m7::m8::m9::l0::l1::l2::g0::g1::g2::g3::g4::g5::g6::g7::g8::g9::f0::f1::f2::f3::f4::f5::f6::f7::f8::e0::e1::e2::z122::z123::z124::z125::z126::z127::z128::z129::z130::z131::z132::z133::z134::z135::z136::z137::z138::z139::z140::z141::z142::z143::z144::z145::z146::z147::z148::z149::z150::z151::e3::e4::e5::e6::e7::e8::e9::d0::d1::d2::d3::d4::d5::d6::d7::d8::d9::c0::c1::c2::c3::c7::c8::c9::b0::b1::b2::b3::b4::b6::b7::b8::b9::a0::a1::a2::a3::a4::a5::a6::a7::a8::a9::[]).toArray,[]⟩ w'):Code.wp Tryz.prog (reg Tryz.f70 22) Q ⟨(v0::v1::v2::v3::v4::(Value.pointer (some ⟨b5,0,none⟩))::v6::v7::(Value.pointer (some ⟨o,0,none⟩))::v9::(Value.int .i64 (i:Int))::x2::(Value.int .i64 (j:Int))::x3::x4::x5::x6::x7::x8::x9::t0::t1::t2::t3::t4::t5::t6::t7::t8::t9::s0::s1::s2::s3::s4::s5::s6::s7::s8::s9::r0::r1::r2::r3::r4::r5::r6::r7::r8::r9::q0::q1::q4::q5::q6::q7::q8::p0::p1::p2::p3::p4::p5::p6::p7::p8::p9::o0::o1::o2::o3::o4::o5::o6::o7::o8::o9::n0::n1::n2::n3::n4::n5::n6::n7::n8::n9::m0::m1::m2::m3::m4::m5::m6::m7::m8::m9::l0::l1::l2::g0::g1::g2::g3::g4::g5::g6::g7::g8::g9::f0::f1::f2::f3::f4::f5::f6::f7::f8::e0::e1::e2::l8::l9::k0::k1::k2::k3::k4::k5::k6::k7::k8::k9::j0::j1::j2::j3::j4::j5::j6::j7::j8::j9::i0::i1::i2::i3::i4::i5::i6::i7::e3::e4::e5::e6::e7::e8::e9::d0::d1::d2::d3::d4::d5::d6::d7::d8::d9::c0::c1::c2::c3::c7::c8::c9::b0::b1::b2::b3::b4::b6::b7::b8::b9::a0::a1::a2::a3::a4::a5::a6::a7::a8::a9::[]).toArray,[]⟩ w:=by
 obtain⟨h7,h8,H8,H9,y7,y6,y5⟩:=h.cells;have h2:=h.arrC
 have h0:∀W:World,w.grownBy W none->W.cell? ⟨o,1,none⟩=some (.slice (some ⟨tg,0,none⟩) m m)/\W.cell? ⟨tg,i,none⟩=some (.slice (some ⟨cg,0,none⟩) m m)/\W.cell? ⟨b5,6,none⟩=some (.slice (some ⟨rb,rf,none⟩) m rd)/\W.cell? ⟨b5,4,none⟩=some (.slice (some ⟨qb,qo,none⟩) m qc)/\W.cell? ⟨qb,qo+j,none⟩=some (.int .i64 (p:Int))/\W.cell? ⟨cg,p,none⟩=some (.int .i64 (x:Int))/\W.cell? ⟨rb,rf+x,none⟩=some (.slice (some ⟨sb,so,none⟩) k sc)/\W.cell? ⟨b5,5,none⟩=some (.slice (some ⟨lb,lo,none⟩) m lc)/\W.cell? ⟨lb,lo+j,none⟩=some (.int .i64 (a:Int))/\W.cell? ⟨sb,so+a,none⟩=some (.int .i64 (y:Int)):=fun W hg=>by
  have q2:=zJ (zD h7 hg) 1;simp only[sPd,sPe,sPf]at q2;have q3:=(h2.kept hg yq).nat p yo;rw[cx]at q3;exact⟨q2,pI (h8.kept hg yq) hh,zN c6 hg,zN c4 hg,zN cq hg,q3,zN cr hg,zN c5 hg,zN cl hg,zN cy hg⟩
 have h1:∀W:World,w.grownBy W none->∃u,W.cell? ⟨cg,j,none⟩=some u:=fun W hg=>⟨_,(h2.kept hg yq).nat j yo⟩;have h6:∀W:World,w.grownBy W none->W.frozen? ⟨cg,j,none⟩=false:=fun W hg=>(h2.kept hg yq).frozen j;obtain⟨H,y1,y0⟩:=Kc h h1 h6;have y9:(i:Int)<m:=yo
 have y8:(j:Int)<m:=yo
 have y4:(p:Int)<m:=yo
 have y3:(x:Int)<m:=yo
 have z0:(a:Int)<k:=yo
 have H5:=l4.1;have H7:=l3.1;have H3:=l5.1;have H1:=l7.1;have H4:qc<=9223372036854775807:=by have:=l4.2;unfold maxLen at this;omega
 have H6:lc<=9223372036854775807:=by have:=l3.2;unfold maxLen at this;omega
 have H2:rd<=9223372036854775807:=by have:=l5.2;unfold maxLen at this;omega
 have H0:sc<=9223372036854775807:=by have:=l7.2;unfold maxLen at this;omega
 clear h h7 h8 H8 H9 h2 h1 h6 c6 c4 cq cr c5 cl cy l4 l3 l5 l7 hh cx;have y2:Hid (∀W:World,w.grownBy W none->W.cell? ⟨o,1,none⟩=some (.slice (some ⟨tg,0,none⟩) m m)/\W.cell? ⟨tg,i,none⟩=some (.slice (some ⟨cg,0,none⟩) m m)/\W.cell? ⟨b5,6,none⟩=some (.slice (some ⟨rb,rf,none⟩) m rd)/\W.cell? ⟨b5,4,none⟩=some (.slice (some ⟨qb,qo,none⟩) m qc)/\W.cell? ⟨qb,qo+j,none⟩=some (.int .i64 (p:Int))/\W.cell? ⟨cg,p,none⟩=some (.int .i64 (x:Int))/\W.cell? ⟨rb,rf+x,none⟩=some (.slice (some ⟨sb,so,none⟩) k sc)/\W.cell? ⟨b5,5,none⟩=some (.slice (some ⟨lb,lo,none⟩) m lc)/\W.cell? ⟨lb,lo+j,none⟩=some (.int .i64 (a:Int))/\W.cell? ⟨sb,so+a,none⟩=some (.int .i64 (y:Int))):=Kh (fun W hg=>h0 W hg);clear h0
 conv=>arg 2;whnf
 obtain⟨w7,h4⟩:=Nm w.drew;have h5:w.grownBy w7 none:=by rw[h4];exact zY w none
 have x0:=Kh h4;have h3:=Kh h5;clear h4 h5;refine wp_region_noPanic ?_;refine yI (G:=xM 30 (fun _=>True) (fun W=>W.cell? ⟨o,1,none⟩=some (.slice (some ⟨tg,0,none⟩) m m)/\W.cell? ⟨tg,i,none⟩=some (.slice (some ⟨cg,0,none⟩) m m)/\W.cell? ⟨b5,6,none⟩=some (.slice (some ⟨rb,rf,none⟩) m rd)/\W.cell? ⟨b5,4,none⟩=some (.slice (some ⟨qb,qo,none⟩) m qc)/\W.cell? ⟨qb,qo+j,none⟩=some (.int .i64 (p:Int))/\W.cell? ⟨cg,p,none⟩=some (.int .i64 (x:Int))/\W.cell? ⟨rb,rf+x,none⟩=some (.slice (some ⟨sb,so,none⟩) k sc)/\W.cell? ⟨b5,5,none⟩=some (.slice (some ⟨lb,lo,none⟩) m lc)/\W.cell? ⟨lb,lo+j,none⟩=some (.int .i64 (a:Int))/\W.cell? ⟨sb,so+a,none⟩=some (.int .i64 (y:Int)))) yk ?_;rw[<-x0.out];have C:=Kh (y2.out w7 h3.out);refine zP 0 ?_;refine xD 1 ?_;refine zP 2 ?_;refine zP 3 ?_;refine xD 4 ?_;refine zP 5 ?_;refine zP 6 ?_;refine xD 7 ?_;refine zP 8 ?_;refine xD 9 ?_;refine zP 10 ?_;refine zP 11 ?_;refine xD 12 ?_;refine zP 13 ?_;refine xD 14 ?_;refine zP 15 ?_;refine zP 16 ?_;refine xD 17 ?_;refine zP 18 ?_;refine xD 19 ?_;refine zP 20 ?_;refine xD 21 ?_;refine zP 22 ?_;refine xD 23 ?_;refine zP 24 ?_;refine zP 25 ?_;refine xD 26 ?_;refine zP 27 ?_;refine xD 28 ?_;refine zP 29 ?_;obtain⟨u9,q9⟩:=y1.out w7 h3.out;have f9:=y0.out w7 h3.out;refine jg 30 fun K hK=>?_;go_simp;refine hK.out _ _ ⟨trivial,fun h=>by simp at h⟩ ?_;clear hK K q9 f9
 try simp only[Act.put,sPd,sPe,sPf,sPa,sPb,sPc]
 refine uY yk ?_ _;refine NoPanic.normal ?_;have h9:=(H.out.grow h3.out).putC hj (.int .i64 (y:Int));rw[lJ]at h9;exact i9 _ _ _ _ _ _ _ _ _ _ _ _ _ _ _ _ _ _ _ _ _ _ _ _ _ _ _ _ _ _  _ h9
end Go.Proofs.YtiknckajkdlppaaGreat
namespace Go.Proofs.YtiknckajkdlppaaGreat
open Go.RowKit
theorem qKW (B:Nat)(w:World)(v:Value)(xs:List Nat)(y:Nat)(h:Row B w v (nats xs)):Calls Tryz.prog 98 #[v,.int .i64 (y:Int)] w fun e w'=>(∃z:Int,e=.returned (.int .i64 z)/\((0<=z)↔y∈xs))/\w'=w:=by
 have h2:=h.len_le;rw[zV]at h2;unfold maxLen at h2;by_cases h0:xs.length=0
 ·have hx:xs=[]:=List.eq_nil_of_length_eq_zero h0
  subst hx;obtain⟨a,c,rfl⟩:=h.nil_ rfl;clear h;go_enter Tryz.func98,Tryz.ntmps98;go_wp2
  go_loopg [8] 0 (fun g i wr=>i=.int .i64 0/\wr=w)
  case atStart=>exact⟨rfl,rfl⟩
  obtain⟨rfl,rfl⟩:=hrel;go_wp2;go_ret;exact⟨⟨-1,rfl,yq⟩,rfl⟩
 obtain⟨b,o,c,rfl,_,h6,h5,hr⟩:=h.some_ (by rw[zV];omega);have R:=Kh hr;rw[zV]at h6⊢;clear h hr;unfold maxLen at h5;go_enter Tryz.func98,Tryz.ntmps98;go_wp2
 go_loopg [8] xs.length (fun g i wr=>∃k:Nat,g+k=xs.length/\i=.int .i64 k/\y ∉ xs.take k/\wr=w)
 case atStart=>exact⟨0,rfl,rfl,yq,rfl⟩
 obtain⟨k,hg,rfl,hn,rfl⟩:=hrel;have HG:=Kh hg;have HN:=Kh hn;clear hg hn;by_cases hk:k<xs.length
 ·have h7:(k:Int)<xs.length:=yo
  have ca:=R.out.nat k hk;obtain⟨x,hx⟩:=Nm (xs.getD k 0);rw[<-hx]at ca;have HX:=Kh hx;clear hx;have h3:Hid (x∈xs):=Kh (by rw[HX.out,List.getD_eq_getElem?_getD,List.getElem?_eq_getElem hk];exact List.getElem_mem hk);by_cases hxy:y=x
  ·subst hxy
   go_wp2;go_ret;exact⟨⟨(k:Int),rfl,fun _=>h3.out,fun _=>by omega⟩,rfl⟩
  have h4:Hid (¬(y:Int)=x):=Kh yo;have he:((y:Int) == (x:Int))=false:=by rw[beq_eq_false_iff_ne];exact h4.out
  go_wp2;go_roundg (xs.length-(k+1))
  case measure=>have:=HG.out;omega
  refine⟨k+1,yo,by go_num,?_,rfl⟩;rw[List.take_add_one,List.mem_append];rintro (h1|h1)
  ·exact HN.out h1
  rw[List.getElem?_eq_getElem hk]at h1;simp only[Option.toList_some,List.mem_singleton]at h1;exact hxy (by rw[HX.out,List.getD_eq_getElem?_getD,List.getElem?_eq_getElem hk];exact h1)
 have HM:Hid (y ∉ xs):=Kh (by
  have:=HN.out
  rwa [List.take_of_length_le (by have:=HG.out;omega)]at this)
 go_wp2;go_ret;exact⟨⟨-1,rfl,fun h1=>by omega,fun h1=>absurd h1 HM.out⟩,rfl⟩
theorem qBY (B:Nat)(w:World)(v:Value)(xs:List Nat)(y:Nat)(h:Row B w v (nats xs)):Calls Tryz.prog 84 #[v,.int .i64 (y:Int)] w fun e w'=>e=.returned (.bool (decide (y∈xs)))/\w'=w:=by
 have HI:=Kh (qKW B w v xs y h);clear h;go_enter Tryz.func84,Tryz.ntmps84;go_wp2_with fail;refine HI.out.mono ?_;rintro e w1 ⟨⟨z,rfl,hz⟩,rfl⟩;have HZ:=Kh hz;clear hz;have hd:Hid (decide (y∈xs)=decide (0<=z)):=Kh (by rw[Bool.eq_iff_iff,decide_eq_true_eq,decide_eq_true_eq];exact HZ.out.symm);go_wp2;go_ret;exact⟨yQ hd.out.symm,rfl⟩
end Go.Proofs.YtiknckajkdlppaaGreat
