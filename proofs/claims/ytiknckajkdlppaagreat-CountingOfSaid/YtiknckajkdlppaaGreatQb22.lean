/- Part 22 of the proof. -/
import Derived.Test.YtiknckajkdlppaaGreatQb21
set_option linter.unusedVariables false
set_option linter.unusedSimpArgs false
set_option maxRecDepth 100000
set_option maxHeartbeats 16000000
namespace Go.Proofs.YtiknckajkdlppaaGreat
open Go.RowKit
variable{w w5 w0 W:World}{F FF:Nat->Prop}{base n o q cf cn k a lb cl B tb P letters most i:Nat}{L:List Int}{S s:Int}{fs:List Bool}{t:List (List Int)}{hs:List Value}{sf sn:Option Addr}{ls:List (Nat×Obj)}{a0:Act}{l:Array Bool}
def qEL (m:DfaV)(n:Nat):Prop:=∀k:Nat,m.letters=k->∀a,a<k->∀q q',q<n->q'<n->ent m.next q a=ent m.next q' a->q=q'
theorem qGU {w':World}{v:Value}{xs:List Value}(h:w.ownsRow base 3 1 v n xs)(hg:GrownBut w w' F)(hF:∀k,F k->yS w 3 k):w'.ownsRow base 3 1 v n xs:=by
 obtain⟨h1,h2⟩:=h;refine⟨h1,?_⟩;rcases h2 with h2|⟨g,cap,cur,e1,e2,e3,e4⟩
 ·exact .inl h2
 refine .inr ⟨g,cap,cur,e1,e2,hg.heap e3 (fun hf=>?_),e4⟩;obtain⟨c,e',m,hp,h0⟩:=hF g hf;rw[e3]at hp;simp at hp;exact h0 hp.2.1.symm
theorem Half.ofMany {L:Int}{sa a8:Option Addr}{sc a9:Nat}{b:Bool}{row:List Int}{rv:Value}(h:Half base w5 o L S fs t hs sf cf sn cn)(a6:fs.length=q)(a7:t.length=q)(hk:row.length=k)(hM:Many w5 FF w [⟨base,4,.slice sa (q+1) sc,q+1,bls fs++[.bool b],1⟩,⟨base,22,.slice a8 (q+1) a9,q+1,hs++[rv],1⟩,⟨base,3,rv,k,ints row,1⟩] ls [])(hF:∀k,FF k->yS w5 3 k)(hB:w.heap[o]?=some (.cells #[.int .i64 L,.int .i64 S,.slice sa (q+1) sc,.slice a8 (q+1) a9] 29 (0,0))):Half base w o L S (fs++[b]) (t++[row]) (hs++[rv]) sa sc a8 a9:=by
 have e1:(fs++[b]).length=q+1:=by simp[a6]
 have e2:(t++[row]).length=q+1:=by simp[a7]
 have o0:=hM.own 0 _ rfl;have o1:=hM.own 1 _ rfl;have o2:=hM.own 2 _ rfl;simp only at o0 o1 o2;refine⟨by rw[e1,e2];exact hB,by rw[e1,show bls (fs++[b])=bls fs++[.bool b] by simp[bls]];exact o0,by rw[e2];exact o1,?_⟩;refine OwnsT.snoc ⟨h.rows.len,fun i h1 h2=>qGU (h.rows.own i h1 h2) hM.but hF,h.rows.dis⟩ (by rw[hk];exact o2) (fun i hi j hj e=>?_);have h3:=(h.rows.lt hi hj).2;rcases hM.mine 2 _ rfl j e with hf|hf
 ·obtain⟨c,e',m,hp,h0⟩:=hF j hf
  exact zR (h.rows.own i hi (by rw[<-h.rows.len];exact hi)) hp (Ne.symm h0) hj
 omega
structure PermTo (t:List (List Int))(n q a:Nat)(L:List Int):Prop where
 done:∀a',a'<a->∀q1 q2,q1<n->q2<n->ent t q1 a'=ent t q2 a'->q1=q2
 col:∀q1 q2,q1<q->q2<q->ent t q1 a=ent t q2 a->q1=q2
 out:∀q1,q1<q->ent t q1 a ∉ L
 nodup:L.Nodup
 rng:∀x∈L,0<=x/\x<n
 len:L.length+q=n
theorem PermTo.step (h:PermTo t n q a L)(hq:q<t.length)(ha:a<(t.getD q []).length)(hk:k<L.length):PermTo (t.set q ((t.getD q []).set a (L.getD k 0))) n (q+1) a (L.take k++L.drop (k+1)):=by
 have hx:L.getD k 0=L[k]:=by simp[List.getD_eq_getElem?_getD,hk]
 have hL:L=L.take k++L[k]::L.drop (k+1):=by rw[<-List.drop_eq_getElem_cons hk,List.take_append_drop]
 have h4:=h.nodup;rw[hL,List.nodup_append]at h4;obtain⟨n1,n2,n3⟩:=h4;rw[List.nodup_cons]at n2
 have h0:∀y,y∈L.take k++L.drop (k+1)->y∈L:=fun y hy=>by
  rcases List.mem_append.1 hy with hy|hy
  ·exact List.mem_of_mem_take hy
  exact List.mem_of_mem_drop hy
 have h5:L[k] ∉ L.take k++L.drop (k+1):=fun hy=>by
  rcases List.mem_append.1 hy with hy|hy
  ·exact n3 _ hy _ List.mem_cons_self rfl
  exact n2.1 hy
 have h3:L[k]∈L:=List.getElem_mem hk;rw[hx];refine⟨fun a' ha' q1 q2 h1 h2=>?_,fun q1 q2 h1 h2=>?_,fun q1 h1=>?_,?_,fun y hy=>h.rng y (h0 y hy),?_⟩
 ·rw[lP hq ha,lP hq ha,if_neg yo,if_neg yo]
  exact h.done a' ha' q1 q2 h1 h2
 ·rw[lP hq ha,lP hq ha]
  simp only[and_true];by_cases e1:q1=q<;>by_cases e2:q2=q
  ·intro _;omega
  ·rw[if_pos e1,if_neg e2]
   intro e;exact absurd (e ▸ h3) (h.out q2 yo)
  ·rw[if_neg e1,if_pos e2]
   intro e;exact absurd (e ▸ h3) (h.out q1 yo)
  rw[if_neg e1,if_neg e2];exact h.col q1 q2 yo yo
 ·rw[lP hq ha]
  simp only[and_true];by_cases e1:q1=q
  ·rw[if_pos e1];exact h5
  rw[if_neg e1];exact fun hy=>h.out q1 yo (h0 _ hy)
 ·rw[List.nodup_append]
  exact⟨n1,n2.2,fun x h1 y h2=>n3 x h1 y (List.mem_cons_of_mem _ h2)⟩
 have:=h.len;simp only[List.length_append,List.length_take,List.length_drop];omega
theorem PermTo.begin (h:∀a',a'<a->∀q1 q2,q1<n->q2<n->ent t q1 a'=ent t q2 a'->q1=q2):PermTo t n 0 a ((List.range n).map fun(x:Nat)=>(x:Int)) where
 done:=h
 col:=fun q1 q2 h1=>by omega
 out:=fun q1 h1=>by omega
 nodup:=by
  refine List.Pairwise.map _ (fun x y hxy=>?_) (List.nodup_range (n:=n));intro e;exact hxy (Int.ofNat.inj e)
 rng:=fun x hx=>by
  obtain⟨y,hy,rfl⟩:=List.mem_map.1 hx;have:=List.mem_range.1 hy;omega
 len:=yq
theorem qJB {e:TypeId}(hA:Arr w lb e (ints L))(hk:k<=L.length)(hc:L.length<=cl)(hm:cl<=maxLen):Row w.heap.size w (.slice (some ⟨lb,0,none⟩) k cl) (ints (L.take k)):=by
 have hl:(ints (L.take k)).length=k:=by rw[zL,List.length_take];omega
 refine .inr ⟨lb,0,cl,by rw[hl],hA.lt,by rw[hl];omega,hm,?_⟩;have:=hA.row.take k
 rwa [show ints (L.take k)=(ints L).take k by simp[ints,List.map_take]]
theorem qMX {e:TypeId}(hA:Arr w lb e (ints L))(hk:k<L.length)(hc:L.length<=cl)(hm:cl<=maxLen):Row w.heap.size w (.slice (if cl=k+1 then some ⟨lb,0,none⟩ else some ⟨lb,k+1,none⟩) (L.length-(k+1)) (cl-(k+1))) (ints (L.drop (k+1))):=by
 have hl:(ints (L.drop (k+1))).length=L.length-(k+1):=by rw[zL,List.length_drop]
 by_cases h:cl=k+1
 ·rw[if_pos h]
  refine .inr ⟨lb,0,cl-(k+1),by rw[hl],hA.lt,by rw[hl];omega,yo,hA.lt,fun i hi=>by omega⟩
 rw[if_neg h];refine .inr ⟨lb,k+1,cl-(k+1),by rw[hl],hA.lt,by rw[hl];omega,yo,?_⟩;have:=hA.row.drop (k+1);rw[Nat.zero_add]at this
 rwa [show ints (L.drop (k+1))=(ints L).drop (k+1) by simp[ints,List.map_drop]]
theorem Half.keptAbove {W':World}{L L0 S0:Int}{t0:List (List Int)}{row:Option Nat}(h:Half base W o L S fs t hs sf cf sn cn)(h0:Half base w0 o L0 S0 fs t0 hs sf cf sn cn)(ht:t0.length=t.length)(hg:W.grownBy W' row)(hr:∀k,row=some k->w0.heap.size<=k):Half base W' o L S fs t hs sf cf sn cn:=by
 have key:∀(v:Value),(∀k,v.ownBlock=some k->k<w0.heap.size)->v.ownBlock=none\/v.ownBlock≠row:=fun v hv=>by
  rcases e:v.ownBlock with _|k
  ·exact .inl rfl
  refine .inr fun e2=>?_;have:=hr k e2.symm;have:=hv k e;omega
 refine⟨zD h.box hg (fun e=>by have:=hr _ e;have:=zS h0.box;omega),h.ownF.kept hg (key _ fun k e=>(h0.ownF.lt k e).2),h.ownN.kept hg (key _ fun k e=>(h0.ownN.lt k (by rw[ht];exact e)).2),⟨h.rows.len,fun i h1 h2=>(h.rows.own i h1 h2).kept hg (key _ fun k e=>(h0.rows.lt h1 e).2),h.rows.dis⟩⟩
theorem qMN {rs:List RowS}{ps:List (Nat×TypeId×List Value)}(h:Many w0 F W rs ls ps)(hT:wJ B W tb)(a9:∀s∈rs,s.e≠49):∀(j:Nat) (s:RowS),rs[j]?=some s->s.v.ownBlock≠some tb:=by
 obtain⟨sl,zs,n,hr,_⟩:=hT;exact h.not_type hr a9
inductive perm7I (B tb P letters q:Nat)(s:Int)(fs:List Bool)(hs:List Value)(sf:Option Addr)(cf:Nat)(sn:Option Addr)(cn:Nat)(w5:World)(FF:Nat->Prop)(a0:Act)(l:Array Bool)(a:Act)(w:World):Prop
 | mk (x33:Value) (x34:Value) (x35:Value) (x36:Value) (x40:Value) (x41:Value) (x42:Value) (x43:Value) (x44:Value) (b:Int) (vF:Value) (nF:Nat) (xF:List Value) (vN:Value) (nN:Nat) (xN:List Value) (vR:Value) (nR:Nat) (xR:List Value) (ls:List (Nat×Obj)) (c2:Value) (c3:Value) (ha:a=yK a0 [(33,x33),(34,x34),(35,x35),(36,x36),(40,x40),(41,x41),(42,x42),(43,x43),(44,x44)]) (HR:∀j∈[0,1,2,7,8,9],l.getD j true=true) (H3:Hid (l.getD 3 true=true->x33=.int .i64 b)) (H4:Hid (l.getD 4 true=true->l.getD 3 true=true/\x34=Value.bool (decide (b=1)))) (H5:Hid (l.getD 5 true=true->l.getD 3 true=true/\∃g,x35=.slice (some ⟨g,0,none⟩) 1 1/\(g,Obj.cells #[Value.bool (decide (b=1))] 4 (0,0))∈ls)) (H6n:Hid (l.getD 6 true=false->vF=.slice sf q cf/\q=nF/\xF=bls fs)) (H6:Hid (l.getD 6 true=true->l.getD 3 true=true/\∃sa sc,vF=.slice sa (q+1) sc/\x36=.slice sa (q+1) sc/\nF=q+1/\xF=bls fs++[Value.bool (decide (b=1))])) (H10n:Hid (l.getD 10 true=false->vR=.slice none 0 0/\nR=0/\xR=[])) (H10:Hid (l.getD 10 true=true->∃g,vR=.slice (some ⟨g,0,none⟩) letters letters/\x40=.slice (some ⟨g,0,none⟩) letters letters/\letters=nR/\xR=List.replicate letters (.int .i64 0))) (H11:Hid (l.getD 11 true=true->l.getD 10 true=true/\∃g,x41=.slice (some ⟨g,0,none⟩) 1 1/\(g,Obj.cells #[vR] 22 (0,0))∈ls)) (H12n:Hid (l.getD 12 true=false->vN=.slice sn q cn/\q=nN/\hs=xN)) (H12:Hid (l.getD 12 true=true->l.getD 6 true=true/\l.getD 10 true=true/\∃sa sc,vN=.slice sa (q+1) sc/\x42=.slice sa (q+1) sc/\nN=q+1/\xN=hs++[vR])) (H13:Hid (l.getD 13 true=true->x43=.pointer (some ⟨P+1,2,none⟩))) (H15:Hid (l.getD 15 true=true->x44=.pointer (some ⟨P+1,3,none⟩))) (B2n:Hid (l.getD 14 true=false->c2=.slice sf q cf)) (B2:Hid (l.getD 14 true=true->l.getD 6 true=true/\l.getD 12 true=true/\c2=vF)) (B3n:Hid (l.getD 16 true=false->c3=.slice sn q cn)) (B3:Hid (l.getD 16 true=true->l.getD 12 true=true/\l.getD 14 true=true/\c3=vN)) (HB:(w.heap[P+1]?=some (.cells #[.int .i64 letters,.int .i64 s,c2,c3] 29 (0,0)))) (HM:(Many w5 FF w [⟨P+1,4,vF,nF,xF,1⟩,⟨P+1,22,vN,nN,xN,1⟩,⟨P+1,3,vR,nR,xR,1⟩] ls [])) (HT:(wJ B w tb))
theorem qRC {a:Act}(h:perm7I B tb P letters q s fs hs sf cf sn cn w5 FF a0 l a w):xM 14 (fun _=>True) (fun W=>W.cell? ⟨P+1,2,none⟩=some (.slice sf q cf)/\W.cell? ⟨P+1,3,none⟩=some (.slice sn q cn)) l w:=by
 obtain⟨x33,x34,x35,x36,x40,x41,x42,x43,x44,b,vF,nF,xF,vN,nN,xN,vR,nR,xR,ls,c2,c3,ha,HR,H3,H4,H5,h3,H6,h2,h8,h7,h1,h6,h5,h4,B2n,B2,B3n,B3,HB,HM,HT⟩:=h;obtain⟨k0,k1,k2,k3⟩:=zM HB;refine⟨trivial,fun h14=>?_⟩
 have h0:l.getD 16 true=false:=by
  rcases h0:l.getD 16 true with _|_
  ·rfl
  have:=(B3.out h0).2.1;rw[h14]at this;cases this
 rw[B2n.out h14]at k2;rw[B3n.out h0]at k3;exact⟨k2,k3⟩
theorem qRB {a:Act}(h:perm7I B tb P letters q s fs hs sf cf sn cn w5 FF a0 l a w):∀j∈[0,1,2,7,8,9],l.getD j true=true:=by
 obtain⟨x33,x34,x35,x36,x40,x41,x42,x43,x44,b,vF,nF,xF,vN,nN,xN,vR,nR,xR,ls,c2,c3,ha,HR,H3,H4,H5,h2,H6,h1,h7,h6,h0,h5,h4,h3,B2n,B2,B3n,B3,HB,HM,HT⟩:=h;exact HR
theorem qDI {v0 v1 v2 v3 v4 v5 v6 v8 v9 j7 j8 j9 i0 i1 i2 i3 i4 i5 i6 i7 i8 i9 g0 g1 g2 g3 g4 g6 g7 g8 g9 f0 f1 f2 f3 f4 f5 f6 f7 f8 f9 e0 e1 e2 e3 e4 e5 e6 e7 e8 e9 d0 d1 d2 d3 d4 d5 d6 d7 d8 d9 c0 c1 c4 c5 c6 c7 c8 c9 b0 b1 b2 b3 b4 b5 b6 b7 b8 b9 a1 a2 a3 a4:Value}{dd:_}(j5:a0=⟨#[v0,v1,v2,v3,v4,v5,v6,.pointer (some ⟨P+1,0,none⟩),v8,v9,j7,j8,j9,i0,i1,i2,i3,i4,i5,i6,i7,i8,i9,g0,g1,g2,g3,g4,g6,g7,.pointer (some ⟨P+1,2,none⟩),.slice sf q cf,.pointer (some ⟨tb,0,none⟩),g8,g9,f0,f1,.pointer (some ⟨P+1,3,none⟩),.slice sn q cn,.int .i64 letters,f2,f3,f4,f5,f6,f7,f8,f9,e0,e1,e2,e3,e4,e5,e6,e7,e8,e9,d0,d1,d2,d3,d4,d5,d6,d7,d8,d9,c0,c1,c4,c5,c6,c7,c8,c9,b0,b1,b2,b3,b4,b5,b6,b7,b8,b9,a1,a2,a3,a4],dd⟩)(j1:B<=tb)(j4:tb<P)(h6:letters<=6)(j3:q<=500)(j6:tb<w5.heap.size)(a5:P+1<w5.heap.size)(a9:P+1<=w5.heap.size)(a6:FF=fun k=>FB sf sn k\/k=tb\/k=P+1)(j2:∀w:World,(Instr.makeSlice 22 (.int .i64 (letters:Int)) (.int .i64 (letters:Int))).run Tryz.prog w=.ok (.slice (some ⟨w.heap.size,0,none⟩) letters letters) (w.alloc (.cells (madeCells #[.int .i64 0] letters) 3)))(a7:Hid (madeCells #[.int .i64 0] letters=(List.replicate letters (Value.int .i64 0)).toArray))(a8:Array Oper)(Q7:Exit->Act->World->Prop):qI (mX Tryz.prog .any a8 Q7 (perm7I B tb P letters q s fs hs sf cf sn cn w5 FF a0)) 0 (rL Tryz.f16 7).toList:=by
 refine kT fun l a w h=>?_;have HH:=h;obtain⟨x33,x34,x35,x36,x40,x41,x42,x43,x44,b,vF,nF,xF,vN,nN,xN,vR,nR,xR,ls,c2,c3,ha,HR,H3,H4,H5,H2,H6,h4,H9,H1,h7,H0,H8,H7,B2n,B2,B3n,B3,HB,HM,HT⟩:=h;have h5:=fun(x33 x34 x35 x36 x40 x41 x42 x43 x44:Value)=>(show yK a0 [(33,x33),(34,x34),(35,x35),(36,x36),(40,x40),(41,x41),(42,x42),(43,x43),(44,x44)]=_ from by simp only[j5,yK,List.foldl_cons,List.foldl_nil,Act.put,sPa,sPb,sPc];exact rfl);refine⟨?s0,?s1,?s2,?s3,?s4,?s5,?s6,?s7,?s8,?s9,?s10,?s11,?s12,?s13,?s14,?s15,?s16,trivial⟩
 case s3 =>
  intro h3 h0 K hK;rw[ha,h5];go_simp
  go_at_call 5
  refine(uS B tb _ _ yo HT).mono ?_;rintro e w6 ⟨b',rfl,l1,l0,k9,h8⟩;refine hK.out _ _ ?_;refine⟨(.int .i64 b'),x34,x35,x36,x40,x41,x42,x43,x44,b',vF,nF,xF,vN,nN,xN,vR,nR,xR,ls,c2,c3,(by rw[h5]),fun j hj=>zF (HR j hj),Kh (fun _=>rfl),(hs7A H4 h3),(hs7A H5 h3),(hs7N H2),(hs7A H6 h3),(hs7N h4),(hs7P H9),(hs7Q H1),(hs7N h7),(hs7R H0),(hs7P H8),(hs7P H7),(hs7N B2n),(hs7R B2),(hs7N B3n),(hs7R B3),zD HB h8 (by simp;omega),HM.far h8 (by rw[a6];exact Or.inr (Or.inl rfl)) j6 (qMN HM HT yq),k9⟩
 case s4 =>
  intro h3 h0 K hK;have DH3:=H3.out (zO (h0 ⟨3,.data⟩ yq rfl));subst DH3;rw[ha,h5];go_simp;refine hK.out _ _ ?_;refine⟨(.int .i64 b),(.bool (b == 1)),x35,x36,x40,x41,x42,x43,x44,b,vF,nF,xF,vN,nN,xN,vR,nR,xR,ls,c2,c3,(by rw[h5]),fun j hj=>zF (HR j hj),Kh (fun _=>rfl),Kh (fun _=>⟨zF (zO (h0 ⟨3,.data⟩ yq rfl)),rfl⟩),(hs7Q H5),(hs7N H2),(hs7Q H6),(hs7N h4),(hs7P H9),(hs7Q H1),(hs7N h7),(hs7R H0),(hs7P H8),(hs7P H7),(hs7N B2n),(hs7R B2),(hs7N B3n),(hs7R B3),HB,HM,HT⟩
 case s5 =>
  intro h3 h0 K hK;have DH4:=H4.out (zO (h0 ⟨4,.data⟩ yq rfl));obtain⟨j0,rfl⟩:=DH4;rw[ha,h5];go_simp;refine hK.out _ _ ?_;refine⟨x33,(Value.bool (decide (b=1))),(.slice (some ⟨w.heap.size,0,none⟩) 1 1),x36,x40,x41,x42,x43,x44,b,vF,nF,xF,vN,nN,xN,vR,nR,xR,((w.heap.size,Obj.cells #[Value.bool (decide (b=1))] 4 (0,0))::ls),c2,c3,(by rw[h5]),fun j hj=>zF (HR j hj),(hs7P H3),Kh (fun _=>⟨zF j0,rfl⟩),Kh (fun _=>⟨zF j0,w.heap.size,rfl,List.Mem.head _⟩),(hs7N H2),(hs7Q H6),(hs7N h4),(hs7P H9),Kh (fun h=>⟨zF (H1.out (zG jd h)).1,let ⟨g,h1,h2⟩:=(H1.out (zG jd h)).2;⟨g,h1,List.Mem.tail _ h2⟩⟩),(hs7N h7),(hs7R H0),(hs7P H8),(hs7P H7),(hs7N B2n),(hs7R B2),(hs7N B3n),(hs7R B3),zD HB (Ga w (.cells #[Value.bool (decide (b=1))] 4) none),HM.alloc (.cells #[Value.bool (decide (b=1))] 4),HT.kept (Ga w (.cells #[Value.bool (decide (b=1))] 4) none) yq⟩
 case s6 =>
  intro h3 h0 K hK;have DH5:=H5.out (zO (h0 ⟨5,.data⟩ yq rfl));obtain⟨j0,g5,rfl,k4⟩:=DH5;obtain⟨rfl,rfl,rfl⟩:=H2.out h3;simp only[ha,h5,Act.put,sPa,sPb,sPc];refine tL (by simp[Region.wanted]) (.tmp 31) (.tmp 35) 26 rfl xK 0 g5 1 rfl HM rfl rfl rfl rfl ?g16 ?g26 ?g36 k4 rfl ?_
  case g16=>show q+1<=maxLen;unfold maxLen;omega
  case g26=>show (q+1)*1<=140737488355328;omega
  case g36=>exact a9
  intro sa sc w6 k5 h8;refine hK.out _ _ ?_;refine⟨x33,x34,(.slice (some ⟨g5,0,none⟩) 1 1),(.slice sa (q+1) sc),x40,x41,x42,x43,x44,b,(.slice sa (q+1) sc),(q+1),(bls fs++[Value.bool (decide (b=1))]),vN,nN,xN,vR,nR,xR,ls,c2,c3,(by simp only[h5,Act.put,sPa,sPb,sPc]),fun j hj=>zF (HR j hj),(hs7P H3),(hs7Q H4),Kh (fun _=>⟨zF j0,g5,rfl,k4⟩),Kh (fun h=>yF h),Kh (fun _=>⟨zF j0,sa,sc,rfl,rfl,rfl,rfl⟩),(hs7N h4),(hs7P H9),(hs7Q H1),(hs7N h7),(hs7A H0 h3),(hs7P H8),(hs7P H7),(hs7N B2n),(hs7A B2 h3),(hs7N B3n),(hs7R B3),zD HB h8 (fun e=>HM.not_type HB yq 0 _ rfl e),k5,HT.kept h8 (fun k e=>by have:=((HM.own 0 _ rfl).lt k e).1;simp only at this;omega)⟩
 case s10 =>
  intro h3 h0 K hK;obtain⟨rfl,rfl,rfl⟩:=h4.out h3;rw[ha,h5];go_simp;rw[a7.out];have k5:=HM.make (j:=2) rfl a9 (cs:=List.replicate letters (.int .i64 0)) (n:=letters) yq jm;refine hK.out _ _ ?_;refine⟨x33,x34,x35,x36,(.slice (some ⟨w.heap.size,0,none⟩) letters letters),x41,x42,x43,x44,b,vF,nF,xF,vN,nN,xN,(.slice (some ⟨w.heap.size,0,none⟩) letters letters),letters,(List.replicate letters (.int .i64 0)),ls,c2,c3,(by rw[h5]),fun j hj=>zF (HR j hj),(hs7P H3),(hs7Q H4),(hs7Q H5),(hs7N H2),(hs7Q H6),Kh (fun h=>yF h),Kh (fun _=>⟨w.heap.size,rfl,rfl,rfl,rfl⟩),(hs7A H1 h3),(hs7N h7),(hs7B H0 h3),(hs7P H8),(hs7P H7),(hs7N B2n),(hs7R B2),(hs7N B3n),(hs7R B3),zD HB (Ga w (.cells (List.replicate letters (Value.int .i64 0)).toArray 3) none),k5,HT.kept (Ga w (.cells (List.replicate letters (Value.int .i64 0)).toArray 3) none) yq⟩
 case s11 =>
  intro h3 h0 K hK;have DH10:=H9.out (zO (h0 ⟨10,.data⟩ yq rfl));obtain⟨g10,rfl,rfl,rfl,rfl⟩:=DH10;rw[ha,h5];go_simp;refine hK.out _ _ ?_;refine⟨x33,x34,x35,x36,(Value.slice (some ⟨g10,0,none⟩) letters letters),(.slice (some ⟨w.heap.size,0,none⟩) 1 1),x42,x43,x44,b,vF,nF,xF,vN,nN,xN,(Value.slice (some ⟨g10,0,none⟩) letters letters),letters,(List.replicate letters (.int .i64 0)),((w.heap.size,Obj.cells #[Value.slice (some ⟨g10,0,none⟩) letters letters] 22 (0,0))::ls),c2,c3,(by rw[h5]),fun j hj=>zF (HR j hj),(hs7P H3),(hs7Q H4),Kh (fun h=>⟨zF (H5.out (zG jd h)).1,let ⟨g,h1,h2⟩:=(H5.out (zG jd h)).2;⟨g,h1,List.Mem.tail _ h2⟩⟩),(hs7N H2),(hs7Q H6),(hs7N h4),Kh (fun _=>⟨g10,rfl,rfl,rfl,rfl⟩),Kh (fun _=>⟨zF (zO (h0 ⟨10,.data⟩ yq rfl)),w.heap.size,rfl,List.Mem.head _⟩),(hs7N h7),(hs7R H0),(hs7P H8),(hs7P H7),(hs7N B2n),(hs7R B2),(hs7N B3n),(hs7R B3),zD HB (Ga w (.cells #[Value.slice (some ⟨g10,0,none⟩) letters letters] 22) none),HM.alloc (.cells #[Value.slice (some ⟨g10,0,none⟩) letters letters] 22),HT.kept (Ga w (.cells #[Value.slice (some ⟨g10,0,none⟩) letters letters] 22) none) yq⟩
 case s12 =>
  intro h3 h0 K hK;have DH11:=H1.out (zO (h0 ⟨11,.data⟩ yq rfl));have DH6:=H6.out (zO (h0 ⟨6,.chain⟩ yq rfl));obtain⟨h9,g5,rfl,k4⟩:=DH11;obtain⟨g10,rfl,e40,rfl,rfl⟩:=H9.out h9;obtain⟨rfl,rfl,rfl⟩:=h7.out h3;simp only[ha,h5,Act.put,sPa,sPb,sPc];refine tL (by simp[Region.wanted]) (.tmp 38) (.tmp 41) 27 rfl xT 1 g5 1 rfl HM rfl rfl rfl rfl ?g112 ?g212 ?g312 k4 rfl ?_
  case g112=>show q+1<=maxLen;unfold maxLen;omega
  case g212=>show (q+1)*24<=140737488355328;omega
  case g312=>exact a9
  intro sa sc w6 k5 h8;refine hK.out _ _ ?_;refine⟨x33,x34,x35,x36,x40,(.slice (some ⟨g5,0,none⟩) 1 1),(.slice sa (q+1) sc),x43,x44,b,vF,nF,xF,(.slice sa (q+1) sc),(q+1),(hs++[Value.slice (some ⟨g10,0,none⟩) letters letters]),(Value.slice (some ⟨g10,0,none⟩) letters letters),letters,(List.replicate letters (.int .i64 0)),ls,c2,c3,(by simp only[h5,Act.put,sPa,sPb,sPc]),fun j hj=>zF (HR j hj),(hs7P H3),(hs7Q H4),(hs7Q H5),(hs7N H2),(hs7Q H6),(hs7N h4),Kh (fun _=>⟨g10,rfl,e40,rfl,rfl⟩),Kh (fun _=>⟨zF h9,g5,rfl,k4⟩),Kh (fun h=>yF h),Kh (fun _=>⟨zF (zO (h0 ⟨6,.chain⟩ yq rfl)),zF h9,sa,sc,rfl,rfl,rfl,rfl⟩),(hs7P H8),(hs7P H7),(hs7N B2n),(hs7B B2 h3),(hs7N B3n),(hs7A B3 h3),zD HB h8 (fun e=>HM.not_type HB yq 1 _ rfl e),k5,HT.kept h8 (fun k e=>by have:=((HM.own 1 _ rfl).lt k e).1;simp only at this;omega)⟩
 case s13 =>
  intro h3 h0 K hK;rw[ha,h5];go_simp;refine hK.out _ _ ?_;refine⟨x33,x34,x35,x36,x40,x41,x42,(.pointer (some ⟨P+1,2,none⟩)),x44,b,vF,nF,xF,vN,nN,xN,vR,nR,xR,ls,c2,c3,(by rw[h5]),fun j hj=>zF (HR j hj),(hs7P H3),(hs7Q H4),(hs7Q H5),(hs7N H2),(hs7Q H6),(hs7N h4),(hs7P H9),(hs7Q H1),(hs7N h7),(hs7R H0),Kh (fun _=>rfl),(hs7P H7),(hs7N B2n),(hs7R B2),(hs7N B3n),(hs7R B3),HB,HM,HT⟩
 case s14 =>
  intro h3 h0 K hK;have DH13:=H8.out (zO (h0 ⟨13,.data⟩ yq rfl));have DH6:=H6.out (zO (h0 ⟨6,.data⟩ yq rfl));have DH12:=H0.out (zO (h0 ⟨12,.chain⟩ yq rfl));subst DH13;obtain⟨j0,sa,sc,rfl,rfl,rfl,rfl⟩:=DH6;have k7:=zO (h0 ⟨6,.data⟩ yq rfl);rw[ha,h5];obtain⟨k0,k1,k2,k3⟩:=zM HB;have kf:=zB HB 2;clear k0 k1;go_simp;have h8:=zH w ⟨P+1,2,none⟩ (.slice sa (q+1) sc);have k6:=heap_setCell_same w (P+1) 2 _ _ (.slice sa (q+1) sc) HB;refine hK.out _ _ ?_;refine⟨x33,x34,x35,(.slice sa (q+1) sc),x40,x41,x42,(.pointer (some ⟨P+1,2,none⟩)),x44,b,(.slice sa (q+1) sc),(q+1),(bls fs++[Value.bool (decide (b=1))]),vN,nN,xN,vR,nR,xR,ls,(.slice sa (q+1) sc),c3,(by rw[h5]),fun j hj=>zF (HR j hj),(hs7P H3),(hs7Q H4),(hs7Q H5),Kh (fun h=>by rw[zF k7]at h;cases h),Kh (fun _=>⟨zF j0,sa,sc,rfl,rfl,rfl,rfl⟩),(hs7N h4),(hs7P H9),(hs7Q H1),(hs7N h7),(hs7R H0),Kh (fun _=>rfl),(hs7P H7),Kh (fun h=>yF h),Kh (fun _=>⟨zF (zO (h0 ⟨6,.data⟩ yq rfl)),zF (zO (h0 ⟨12,.chain⟩ yq rfl)),rfl⟩),(hs7N B3n),(hs7B B3 h3),(by simpa using k6),HM.far h8 (by rw[a6];exact Or.inr (Or.inr rfl)) a5 (HM.not_type HB yq),HT.kept h8 (fun k e=>by have e:P+1=k:=Oj e;omega)⟩
 case s15 =>
  intro h3 h0 K hK;rw[ha,h5];go_simp;refine hK.out _ _ ?_;refine⟨x33,x34,x35,x36,x40,x41,x42,x43,(.pointer (some ⟨P+1,3,none⟩)),b,vF,nF,xF,vN,nN,xN,vR,nR,xR,ls,c2,c3,(by rw[h5]),fun j hj=>zF (HR j hj),(hs7P H3),(hs7Q H4),(hs7Q H5),(hs7N H2),(hs7Q H6),(hs7N h4),(hs7P H9),(hs7Q H1),(hs7N h7),(hs7R H0),(hs7P H8),Kh (fun _=>rfl),(hs7N B2n),(hs7R B2),(hs7N B3n),(hs7R B3),HB,HM,HT⟩
 case s16 =>
  intro h3 h0 K hK;have DH15:=H7.out (zO (h0 ⟨15,.data⟩ yq rfl));have DH12:=H0.out (zO (h0 ⟨12,.data⟩ yq rfl));have DB2:=B2.out (zO (h0 ⟨14,.chain⟩ yq rfl));subst DH15;obtain⟨k7,h9,sa,sc,rfl,rfl,rfl,rfl⟩:=DH12;have k8:=zO (h0 ⟨12,.data⟩ yq rfl);rw[ha,h5];obtain⟨k0,k1,k2,k3⟩:=zM HB;have kf:=zB HB 3;clear k0 k1;go_simp;have h8:=zH w ⟨P+1,3,none⟩ (.slice sa (q+1) sc);have k6:=heap_setCell_same w (P+1) 3 _ _ (.slice sa (q+1) sc) HB;refine hK.out _ _ ?_;refine⟨x33,x34,x35,x36,x40,x41,(.slice sa (q+1) sc),x43,(.pointer (some ⟨P+1,3,none⟩)),b,vF,nF,xF,(.slice sa (q+1) sc),(q+1),(hs++[vR]),vR,nR,xR,ls,c2,(.slice sa (q+1) sc),(by rw[h5]),fun j hj=>zF (HR j hj),(hs7P H3),(hs7Q H4),(hs7Q H5),(hs7N H2),(hs7Q H6),(hs7N h4),(hs7P H9),(hs7Q H1),Kh (fun h=>by rw[zF k8]at h;cases h),Kh (fun _=>⟨zF k7,zF h9,sa,sc,rfl,rfl,rfl,rfl⟩),(hs7P H8),Kh (fun _=>rfl),(hs7N B2n),(hs7R B2),Kh (fun h=>yF h),Kh (fun _=>⟨zF (zO (h0 ⟨12,.data⟩ yq rfl)),zF (zO (h0 ⟨14,.chain⟩ yq rfl)),rfl⟩),(by simpa using k6),HM.far h8 (by rw[a6];exact Or.inr (Or.inr rfl)) a5 (HM.not_type HB yq),HT.kept h8 (fun k e=>by have e:P+1=k:=Oj e;omega)⟩
 all_goals exact hs7Z (qRB HH _ yq)
theorem eB (B tb:Nat)(w:World)(letters most:Nat)(h1:1<=letters)(h6:letters<=6)(a9:1<=most)(hm:most<=500)(hT:wJ B w tb):Calls Tryz.prog 16 #[.pointer (some ⟨tb,0,none⟩),.int .i64 (letters:Int),.int .i64 (most:Int)] w (iG qEL B tb w letters most):=by
 have o7:=hT.lt;have A0:=hT.ge;obtain⟨wA,l5⟩:=Nm ((w.alloc (.cells #[.int .i64 0,.int .i64 0,.slice none 0 0,.slice none 0 0] 29)).alloc (.cells #[.int .i64 letters,.int .i64 0,.slice none 0 0,.slice none 0 0] 29));obtain⟨i9,i8,i4,o1⟩:=rK w #[.int .i64 0,.int .i64 0,.slice none 0 0,.slice none 0 0] #[.int .i64 letters,.int .i64 0,.slice none 0 0,.slice none 0 0] 29;rw[<-l5]at i9 i8 i4 o1;obtain⟨P,hP⟩:=Nm w.heap.size;have a2:=Kh hP;rw[<-hP]at i9 i8 o1 o7;have r0:=hT.kept i4 yq;obtain⟨n4,B9,B5,A1,A5⟩:=Ke i9 i8 i4 l5 r0;clear i9 i8 i4 l5 r0 hT;go_enter Tryz.func16,Tryz.ntmps16;go_upto_region 2 with fail;rw[<-A1.out,<-a2.out];clear hP;go_wp2_with fail;refine(uS B tb _ _ yo A5.out).mono ?_;rintro e w1 ⟨r,rfl,x9,k3,r4,q6⟩;replace k3:=k3 yo;obtain⟨n,rfl⟩:∃n:Nat,r=(n:Int)-1:=⟨(r+1).toNat,yo⟩;have y9:1<=n:=yo
 have y8:n<=most:=yo
 have z0:(1:Int)+((n:Int)-1)=n:=yo
 obtain⟨s4,t3,D4⟩:=Kc r4 q6 z0;clear x9 k3 r4 q6;go_wp2_with fail;refine(uS B tb _ _ yo s4.out).mono ?_;rintro e w2 ⟨s,rfl,x8,k1,r3,q5⟩;replace k1:=k1 yo;obtain⟨s,rfl⟩:∃s':Nat,s=s':=⟨s.toNat,yo⟩;have b4:=zI t3.out q5;have i7:=zD B9.out b4 (by simp;omega);obtain⟨c0,c1,c2,c3⟩:=zM i7;have f1:=frozen_of_row w2 (P+1) 1 _ _ i7;have s3:=Kh r3;have m9:=Kh b4;clear r3 q5 b4 s4 t3;go_wp2;obtain⟨w3,i0⟩:=Nm (w2.setCell ⟨P+1,1,none⟩ (.int .i64 (s:Int)));have q9:w3.heap[P+1]?=some (.cells #[.int .i64 (letters:Int),.int .i64 (s:Int),.slice none 0 0,.slice none 0 0] 29 (0,0)):=by rw[i0,heap_setCell_same w2 (P+1) 1 _ _ _ i7];simp
 have i5:w2.grownBy w3 (some (P+1)):=by rw[i0];exact zH w2 ⟨P+1,1,none⟩ _
 have f9:=zD (zD n4.out m9.out (by simp;omega)) i5;have r2:=s3.out.kept i5 (fun k e=>by have:=Oj e;subst this;omega);have q3:w.grownBy w3 (some tb):=zE (zI (zE (zX w (some tb)) B5.out) m9.out) i5 (fun x e=>by have:=Oj e;have:=a2.out;omega);have r7:Half (P+1) w3 (P+1) letters s [] [] [] none 0 none 0:=⟨q9,World.ownsRow_nil _ _ _ _,World.ownsRow_nil _ _ _ _,OwnsT.nil⟩;obtain⟨H3,t7,s2,d4⟩:=Kd r7 f9 r2 q3;rw[<-i0];clear i0 q9 i5 f9 r2 q3 r7 c0 c1 c2 c3 f1 i7 s3 m9;have p2:=qKD letters yo
 have f4:Hid (madeCells #[.int .i64 0] letters=(List.replicate letters (Value.int .i64 0)).toArray):=Kh (by
  apply Array.toList_inj.1
  rw[aL];simp[nats])
 go_loopg [9] n (fun gh i wr=>∃(q:Nat) (fs:List Bool) (t:List (List Int)) (hs:List Value) (sf:Option Addr) (cf:Nat) (sn:Option Addr) (cn:Nat),gh+q=n/\i=.int .i64 q/\fs.length=q/\t.length=q/\pJ t n letters/\Half (P+1) wr (P+1) letters s fs t hs sf cf sn cn/\wJ B wr tb/\wr.heap[P]?=some (.cells #[.int .i64 0,.int .i64 0,.slice none 0 0,.slice none 0 0] 29 (0,0))/\w.grownBy wr (some tb))
 case atStart=>exact⟨0,[],[],[],none,0,none,0,yo,rfl,rfl,rfl,(fun r hr=>by simp at hr),H3.out,s2.out,t7.out,d4.out⟩
 obtain⟨q,fs,t,hs,sf,cf,sn,cn,hg,rfl,q7,a5,a6,hH,a8,H9,h8⟩:=hrel;obtain⟨HG,j0,a4,j2,m0,g7⟩:=Kf hg a8 H9 h8 a6 q7;have c9:=Kh a5;have HH:=Kh hH;clear hg a8 H9 h8 a6 q7 a5 hH H3 t7 s2 d4;by_cases hq:q<n
 ·have y7:(q:Int)<n:=yo
  obtain⟨w5,j7⟩:=Nm wr.drew;have f6:wr.grownBy w5 none:=(by rw[j7];exact zY wr none);have A2:=Kh j7;have H0:=Kh (HH.out.grow f6);have b6:=Kh (j0.out.kept f6 yq);have j3:=Kh (zE j2.out f6);have n4:=Kh (zD a4.out f6);have b0:Hid (w5.heap[P+1]?=some (.cells #[.int .i64 letters,.int .i64 s,.slice sf q cf,.slice sn q cn] 29 (0,0))):=Kh (by have:=H0.out.box;rw[g7.out,c9.out]at this;exact this);obtain⟨d0,d1,d2,d3⟩:=zM b0.out;have C:=Kh (And.intro d2 d3);have z8:=zS b0.out;have x7:Hid (tb<w5.heap.size):=Kh yo;have z9:Hid (P+1<w5.heap.size):=Kh z8;have f8:Hid (P+1<=w5.heap.size):=Kh yo;obtain⟨FF,l6⟩:∃FF:Nat->Prop,FF=fun k=>FB sf sn k\/k=tb\/k=P+1:=⟨_,rfl⟩
  have A7:Hid (Many w5 FF w5 [⟨P+1,4,.slice sf q cf,q,bls fs,1⟩,⟨P+1,22,.slice sn q cn,q,hs,1⟩,⟨P+1,3,.slice none 0 0,0,[],1⟩] [] []):=Kh (by
   have hF:=H0.out.ownF;have hN:=H0.out.ownN;rw[g7.out]at hF;rw[c9.out]at hN;refine Many.start (fun r hr=>?_) (fun r hr k hk=>?_) ?_
   ·simp only[List.mem_cons,List.not_mem_nil,or_false]at hr
    rcases hr with rfl|rfl|rfl
    ·exact hF
    ·exact hN
    exact World.ownsRow_nil _ _ _ _
   ·simp only[List.mem_cons,List.not_mem_nil,or_false]at hr
    rw[l6];rcases hr with rfl|rfl|rfl
    ·exact .inl (.inr (by rw[<-yG sf q cf];exact hk))
    ·exact .inl (.inl (by rw[<-yG sn q cn];exact hk))
    simp[Value.ownBlock]at hk
   simp only[List.pairwise_cons,List.mem_cons,List.not_mem_nil,or_false,forall_eq_or_imp,forall_eq]
   exact⟨⟨qJR hF hN jd,by simp[Value.ownBlock]⟩,by simp[Value.ownBlock],yq,List.Pairwise.nil⟩)
  clear d0 d1 d2 d3 j7 f6;have n1:=Kh l6;clear l6;go_upto_region 7 with fail;refine wp_region_noPanic ?_;refine yI (G:=xM 14 (fun _=>True) (fun W=>W.cell? ⟨P+1,2,none⟩=some (.slice sf q cf)/\W.cell? ⟨P+1,3,none⟩=some (.slice sn q cn))) yk ?_;rw[<-A2.out];refine zP 0 ?_;refine xD 1 ?_;refine zP 2 ?_;refine zP 7 ?_;refine xD 8 ?_;refine zP 9 ?_;refine uM (fun Wp hWp a0 ha0=>?_);subst hWp
  try simp only[Act.put,sPd,sPe,sPf,sPa,sPb,sPc]at ha0
  have C0:=Kh ha0;refine uL (I:=perm7I B tb P letters q s fs hs sf cf sn cn w5 FF a0) (fun l a w h=>qRC h) (qDI ha0 A0 o7 h6 yo x7.out z9.out f8.out n1.out p2 f4) yk ?hend (by decide +kernel) ?hinit
  case hinit =>
   clear ha0;refine⟨a0.tmps.getD 33 undef,a0.tmps.getD 34 undef,a0.tmps.getD 35 undef,a0.tmps.getD 36 undef,a0.tmps.getD 40 undef,a0.tmps.getD 41 undef,a0.tmps.getD 42 undef,a0.tmps.getD 43 undef,a0.tmps.getD 44 undef,0,.slice sf q cf,q,bls fs,.slice sn q cn,q,hs,.slice none 0 0,0,[],[],.slice sf q cf,.slice sn q cn,(uF yq).symm,by decide +kernel,hs7C,hs7C,hs7C,Kh (fun _=>⟨rfl,rfl,rfl⟩),hs7C,Kh (fun _=>⟨rfl,rfl,rfl⟩),hs7C,hs7C,Kh (fun _=>⟨rfl,rfl,rfl⟩),hs7C,hs7C,hs7C,Kh (fun _=>rfl),hs7C,Kh (fun _=>rfl),hs7C,b0.out,A7.out,b6.out⟩
  clear ha0;intro l a w h h5;obtain⟨x33,x34,x35,x36,x40,x41,x42,x43,x44,b,vF,nF,xF,vN,nN,xN,vR,nR,xR,ls,c2,c3,ha,HR,H3,H4,H5,C1,H6,n9,o0,n8,n7,g8,n6,n5,B2n,B2,B3n,B3,HB,HM,HT⟩:=h;have H3:=H3.out (h5 3 jd);have H4:=H4.out (h5 4 jd);have H5:=H5.out (h5 5 jd);have H6:=H6.out (h5 6 jd);have o0:=o0.out (h5 10 jd);have n8:=n8.out (h5 11 jd);have g8:=g8.out (h5 12 jd);have n6:=n6.out (h5 13 jd);have n5:=n5.out (h5 15 jd);have B2:=B2.out (h5 14 jd);have B3:=B3.out (h5 16 jd);have H6:=H6.2;have g8:=g8.2.2;obtain⟨sa,sc,rfl,rfl,y6,rfl⟩:=H6;obtain⟨g10,rfl,rfl,k5,rfl⟩:=o0;obtain⟨sa2,sc2,rfl,rfl,k4,rfl⟩:=g8;subst y6;subst k5;subst k4;have e2:=B2.2.2;have e3:=B3.2.2;rw[e2,e3]at HB
  have d8:∀k,FF k->yS w5 3 k:=by
   intro k hk;rw[n1.out]at hk;rcases hk with (hk|hk)|rfl|rfl
   ·exact wH H0.out.ownN jd k (by rw[yG];exact hk)
   ·exact wH H0.out.ownF jd k (by rw[yG];exact hk)
   ·obtain⟨sl,zs,j,hr,_⟩:=b6.out
    exact⟨_,_,_,hr,jd⟩
   exact⟨_,_,_,b0.out,jd⟩
  have l0:∀k,FF k->k=tb\/P+1<=k:=by
   intro k hk;rw[n1.out]at hk;rcases hk with (hk|hk)|rfl|rfl
   ·exact .inr (H0.out.ownN.lt k (by rw[yG];exact hk)).1
   ·exact .inr (H0.out.ownF.lt k (by rw[yG];exact hk)).1
   ·exact .inl rfl
   exact .inr (Nat.le_refl _)
  have r5:=H0.out.ofMany g7.out c9.out (row:=List.replicate letters 0) (k:=letters) yq (by simpa [ints] using HM) d8 HB;have A8:=Kh r5;have A3:=Kh HT
  have B0:=Kh (HM.but.grown j3.out (fun k hk=>by
   rcases l0 k hk with e|e
   ·exact .inl (by rw[e])
   exact .inr (by have:=a2.out;omega)))
  have B7:=Kh (HM.but.heap n4.out (fun hk=>by
   rcases l0 P hk with e|e
   ·omega
   omega))
  clear r5 HM HB HT d8 l0 e2 e3 B2 B3 H3 H4 H5 n8 n6 n5 B2n B3n C1 n9 n7 HR;subst ha;rw[C0.out];simp only[yK,List.foldl_cons,List.foldl_nil,Act.put,sPa,sPb,sPc];refine NoPanic.normal ?_;go_wp2;go_roundg (n-(q+1))
  case measure=>have:=HG.out;omega
  refine⟨q+1,fs++[decide (b=1)],t++[List.replicate letters 0],_,sa,sc,sa2,sc2,yo,by go_num,by simp[g7.out],by simp[c9.out],?_,A8.out,A3.out,B7.out,B0.out⟩;intro r hr;rcases List.mem_append.1 hr with hr|hr
  ·exact m0.out r hr
  rw[List.mem_singleton]at hr;subst hr;exact⟨yq,fun x hx=>by rw[List.mem_replicate]at hx;omega⟩
 have y0:q=n:=by have:=HG.out;omega
 subst y0;clear HG p2 f4;obtain⟨wo,o2⟩:=Nm wr;rw[<-o2]at j0 a4 j2 HH⊢;clear o2 wr;go_wp2
 go_loopg [10,11,12,13,14] letters (fun gh ia v11 v12 v13 v14 wr=>∃(a:Nat) (t:List (List Int)),gh+a=letters/\ia=.int .i64 a/\t.length=q/\pJ t q letters/\(∀a',a'<a->∀q1 q2,q1<q->q2<q->ent t q1 a'=ent t q2 a'->q1=q2)/\Half (P+1) wr (P+1) letters s fs t hs sf cf sn cn/\wJ B wr tb/\wr.heap[P]?=some (.cells #[.int .i64 0,.int .i64 0,.slice none 0 0,.slice none 0 0] 29 (0,0))/\w.grownBy wr (some tb))
 case atStart=>exact⟨0,t,yo,rfl,c9.out,m0.out,fun a' h=>by omega,HH.out,j0.out,a4.out,j2.out⟩
 obtain⟨a,t,hg,rfl,a5,a6,d7,hH,a8,H9,h8⟩:=hrel;obtain⟨HG,a1,h0,c4,g3,a3⟩:=Kf hg a8 H9 h8 a6 a5;have b8:=Kh hH;have g5:=Kh d7;clear hg a8 H9 h8 a6 a5 hH d7 c9 m0 HH j0 a4 j2;by_cases ha:a<letters
 ·have D1:(a:Int)<letters:=yo
  obtain⟨w9,o5⟩:=Nm wr;rw[<-o5]at a1 h0 c4 b8⊢;clear o5 wr;go_wp2
  go_loopg [11,12] q (fun gh lv i wx=>∃(c:Nat) (sl:Option Addr) (cl:Nat),gh+c=q/\i=.int .i64 c/\lv=.slice sl c cl/\wx.ownsRow w9.heap.size 3 1 (.slice sl c cl) c (ints ((List.range c).map fun(x:Nat)=>(x:Int)))/\w9.grownBy wx none)
  case atStart=>exact⟨0,none,0,yo,rfl,rfl,World.ownsRow_nil _ _ _ _,zX _ _⟩
  obtain⟨c,sl,cl,hg,rfl,rfl,H2,q0⟩:=hrel;obtain⟨d4,g6,c8⟩:=Kc hg H2 q0;clear hg H2 q0;by_cases hc:c<q
  ·have C9:(c:Int)<q:=yo
   have g9:=c8.out.size;go_wp2_with (first|(at_builtin;refine app1 rfl _ _ _ rfl yJ w9.heap.size _ c _ rfl g6.out _ rfl rfl ?c1 ?c2 ?c3 ?_)|fail)
   case c1=>unfold maxLen;omega
   case c2=>omega
   case c3=>exact g9
   intro sl' cl' w10 H1 f7 p3;have m4:=Kh H1;have n0:=Kh (zE c8.out f7 (fun k e=>(g6.out.lt k e).1));clear H1 f7;go_wp2;go_roundg (q-(c+1))
   case measure=>have:=d4.out;omega
   refine⟨c+1,sl',cl',yo,by go_num,rfl,?_,n0.out⟩;rw[List.range_succ,List.map_append,show ints (List.map (fun(x:Nat)=>(x:Int)) (List.range c)++List.map (fun(x:Nat)=>(x:Int)) [c])=ints (List.map (fun(x:Nat)=>(x:Int)) (List.range c))++[.int .i64 (c:Int)] by simp[ints]];exact m4.out
  have z7:c=q:=by have:=d4.out;omega
  subst z7;have f5:=c8.out;have m6:=Kh (b8.out.grow f5);have b5:=Kh (a1.out.kept f5 yq);have n3:=Kh (zD h0.out f5);have m8:=Kh (zE c4.out f5)
  have q4:∀q',q'<c->∀g cc n',hs[q']?=some (.slice (some ⟨g,0,none⟩) n' cc)->g<w9.heap.size:=fun q' y7 g cc n' e=>by
   obtain⟨hi,he⟩:=List.getElem?_eq_some_iff.1 e;exact(b8.out.rows.lt hi (by rw[he];rfl)).2
  have B4:=Kh q4;have g9:=c8.out.size;have j8:=a1.out.lt;clear f5 q4 d4;obtain⟨wi,o3⟩:=Nm wr;rw[<-o3]at g6 c8 m6 b5 n3 m8 g9⊢;clear o3 wr;go_wp2
  go_loopg [11,13,14] c (fun gh lv i kv wy=>∃(p:Nat) (t:List (List Int)) (L:List Int) (sl:Option Addr) (cl:Nat),gh+p=c/\i=.int .i64 p/\lv=.slice sl L.length cl/\wy.ownsRow w9.heap.size 3 1 (.slice sl L.length cl) L.length (ints L)/\PermTo t c p a L/\t.length=c/\pJ t c letters/\Half (P+1) wy (P+1) letters s fs t hs sf cf sn cn/\wJ B wy tb/\wy.heap[P]?=some (.cells #[.int .i64 0,.int .i64 0,.slice none 0 0,.slice none 0 0] 29 (0,0))/\w.grownBy wy (some tb)/\w9.heap.size<=wy.heap.size)
  case atStart=>exact⟨0,t,(List.range c).map fun(x:Nat)=>(x:Int),sl,cl,yo,rfl,yq,by simpa using g6.out,PermTo.begin g5.out,a3.out,g3.out,m6.out,b5.out,n3.out,m8.out,g9⟩
  obtain⟨p,t,L,sl,cl,hg,rfl,rfl,H2,k6,a5,a6,hH,a8,q8,h8,o8⟩:=hrel;obtain⟨j3,s6,g4,b7,H0,b6⟩:=Kf hg H2 k6 a6 hH a8;obtain⟨b0,b9,h7⟩:=Kc q8 h8 a5;have s7:=Kh k6.len;clear hg H2 k6 a6 hH a8 q8 h8 a5 m6 b5 n3 m8 g6 c8;by_cases hp:p<c
  ·have C4:(p:Int)<c:=yo
   have D2:1<=L.length:=by have:=s7.out;omega
   have D3:L.length<=500:=by have:=s7.out;omega
   go_wp2_with fail;refine(uS B tb _ _ yo b6.out).mono ?_;rintro e w6 ⟨k,rfl,C5,p9,r1,c7⟩;replace p9:=p9 yo;obtain⟨k,rfl⟩:∃k':Nat,k=k':=⟨k.toNat,yo⟩;have i2:k<L.length:=yo;have r6:=H0.out.tape b6.out c7;have p1:=yY s6.out c7 (by simpa using j8);obtain⟨s9,s1,s5⟩:=Kc r6 r1 p1;have t2:=Kh (zI b9.out c7);have t6:=Kh (zD b0.out c7 (by simp;have:=a2.out;omega));have d6:=Nat.le_trans o8 c7.size;clear r6 r1 p1 c7 b6 s6 H0 b0 b9 o8;have k2:(t.getD p []).length=letters:=(b7.out _ (wT (by have:=h7.out;omega))).1;obtain⟨w7,j6⟩:=Nm w6.drew;have b3:w6.grownBy w7 none:=(by rw[j6];exact zY w6 none);have r8:=Kh j6;have j1:=Kh (s9.out.grow b3);have s0:=Kh (s1.out.kept b3 yq);have m3:=Kh (yY s5.out b3 yq);have t1:=Kh (zE t2.out b3);have t5:=Kh (zD t6.out b3);have d5:=Nat.le_trans d6 b3.size;clear j6 b3 s9 s1 s5 t2 t6 d6;obtain⟨lb,rfl,p8,k9,g2⟩:=yV m3.out yo;obtain⟨kb,g,cc,rfl,e1,e2,e3,e4,e5,e6,e7,e8⟩:=j1.out.at (q:=p) (by have:=h7.out;omega) yo;have H8:=j1.out.box;rw[h7.out]at H8;obtain⟨d0,d1,d2,d3⟩:=zM H8;rw[k2]at e3 e4 e5;rw[h7.out]at e1;have H7:=g2.int k i2;obtain⟨x,j5⟩:=Nm (L.getD k 0);rw[<-j5]at H7;have HX:=Kh j5;have i6:=e8.frozen a;have E3:=Kh e3;have E8:=Kh e8;have C6:cn<=9223372036854775807:=(by unfold maxLen at e2;omega)
   have C8:cc<=9223372036854775807:=(by unfold maxLen at e6;omega)
   have C7:cl<=9223372036854775807:=(by unfold maxLen at k9;omega)
   have z5:=B4.out p yo g cc _ e3;have p4:letters<=6:=h6;have z4:(k:Int)<(L.length:Nat):=yo;have C:=Kh (And.intro d3 (And.intro e4 (And.intro H7 i6)));have l9:=Kh k2;clear d0 d1 d2 d3 e3 e4 e8 g2 H7 i6 j5 H8 k2 e2 e6;go_upto_region 20 with fail;refine wp_region_noPanic ?_;refine yI (G:=xM 11 (fun _=>True) (fun W=>W.cell? ⟨P+1,3,none⟩=some (.slice (some ⟨kb,0,none⟩) c cn)/\W.cell? ⟨kb,p,none⟩=some (.slice (some ⟨g,0,none⟩) letters cc)/\W.cell? ⟨lb,k,none⟩=some (.int .i64 x)/\W.frozen? ⟨g,a,none⟩=false)) yk ?_;rw[<-r8.out];refine zP 0 ?_;refine xD 1 ?_;refine zP 2 ?_;refine zP 3 ?_;refine xD 4 ?_;refine zP 5 ?_;refine zP 6 ?_;refine zP 7 ?_;refine zP 8 ?_;refine xD 9 ?_;refine zP 10 ?_;refine jg 11 fun K hK=>?_;have i6:=C.out.2.2.2;have z6:=E8.out.int a (by rw[l9.out];exact ha);go_simp;refine hK.out _ _ ⟨trivial,fun h=>by simp at h⟩ ?_;clear hK K
   try simp only[Act.put,sPa,sPb,sPc]
   refine uY yk ?_ _;refine NoPanic.normal ?_;have c6:=zH w7 ⟨g,a,none⟩ (.int .i64 x);have m5:=Kh (j1.out.poke E3.out E8.out (by rw[l9.out];exact ha) x);have l8:=Kh (s0.out.kept c6 (fun k e=>by have e:g=k:=Oj e;omega));have n2:=Kh (zD t5.out c6 (fun e=>by have e:g=P:=Oj e;omega));have m7:=Kh (yM t1.out c6 (by show _<=g;have:=a2.out;omega));have m2:=Kh (yY m3.out c6 (fun k e=>by have e:g=k:=Oj e;omega));have b2:w9.heap.size<=(w7.setCell ⟨g,a,none⟩ (.int .i64 x)).heap.size:=Nat.le_trans d5 c6.size;obtain⟨w8,o6⟩:=Nm (w7.setCell ⟨g,a,none⟩ (.int .i64 x));rw[<-o6]at m5 l8 n2 m7 m2 b2⊢;obtain⟨wA2,b1⟩:=Nm w8.drew;have h9:w8.grownBy wA2 none:=(by rw[b1];exact zY w8 none);have l7:=Kh b1;have s8:=Kh (m5.out.grow h9);have r9:=Kh (l8.out.kept h9 yq);have m1:=Kh (yY m2.out h9 yq);have t0:=Kh (zE m7.out h9);have t4:=Kh (zD n2.out h9);have k0:=Nat.le_trans b2 h9.size;clear z6 o6 c6 b1 h9 m5 l8 n2 m7 m2 b2 i6 C r8 j1 s0 m3 t1 t5 d5 E8 E3;go_upto_region 21 with fail;refine wp_region_noPanic ?_;refine yI (G:=xM 99 (fun _=>True) (fun _=>True)) yk ?_;rw[<-l7.out];have z3:k<=cl:=yo
   have t9:IntKind.i64.wrap ((k:Int)+1)=(k:Int)+1:=IntWalk.i64_in _ yo;have l4:(0:Int)<=(k:Int)+1:=yo
   have l3:(k:Int)+1<=(L.length:Nat):=yo
   have x0:((k:Int)+1).toNat=k+1:=yo
   refine uB 1 ⟨trivial,fun _=>trivial⟩ ?_;refine uB 2 ⟨trivial,fun _=>trivial⟩ ?_;refine uB 3 ⟨trivial,fun _=>trivial⟩ ?_;refine uB 5 ⟨trivial,fun _=>trivial⟩ ?_;refine uB 6 ⟨trivial,fun _=>trivial⟩ ?_;refine uB 7 ⟨trivial,fun _=>trivial⟩ ?_;refine uB 8 ⟨trivial,fun _=>trivial⟩ ?_;clear t9 l4 l3 x0
   generalize hEE:(if cl=k+1 then (some ⟨lb,0,none⟩:Option Addr) else some ⟨lb,k+1,none⟩)=EE
   have B6:=Kh hEE;clear hEE;refine jg 0 fun K hK=>?_;go_simp;refine hK.out _ _ ⟨trivial,fun _=>trivial⟩ ?_;clear hK K
   try simp only[Act.put,sPa,sPb,sPc]
   have i3:=heap_alloc_new wA2 (.cells #[] 3);have h8:=Ga wA2 (.cells #[] 3) none;have j4:=zW wA2 (.cells #[] 3);obtain⟨gN,l2⟩:=Nm wA2.heap.size;obtain⟨wN,o4⟩:=Nm (wA2.alloc (.cells #[] 3));rw[<-o4]at i3 h8 j4⊢;rw[<-l2]at i3 j4⊢;have p0:=jK (base:=w9.heap.size) i3 yo;have k7:=yY m1.out h8 yq;have k8:lb<gN:=(by rw[l2];exact(m1.out.lt lb rfl).2);obtain⟨lb',e9,z2,z1,g2⟩:=yV k7 yo;have e9:lb=lb':=by simpa using e9
   subst e9;refine jg 4 fun K hK=>?_;refine fM rfl (.tmp 79) (.tmp 82) 22 rfl yJ w9.heap.size (.slice (some ⟨gN,0,none⟩) 0 0) 0 [] rfl p0 _ (ints (L.take k)) rfl ⟨_,qJB g2 yo p8 k9⟩ ?x1 k ?x2 ?x3 ?x4 ?x5 ?_
   case x1=>intro u hu;obtain⟨y,_,rfl⟩:=List.mem_map.1 hu;rfl
   case x2=>rw[zL,List.length_take];omega
   case x3=>unfold maxLen;omega
   case x4=>omega
   case x5=>omega
   intro sb cb wM i1 a7;have d9:=k7.kept a7 (.inr (fun e=>Nat.ne_of_lt k8 (by simpa [Value.ownBlock] using e)));have t8:=a7.size;refine hK.out _ _ ⟨trivial,fun _=>trivial⟩ ?_;clear hK K
   try simp only[Act.put,sPa,sPb,sPc]
   rw[List.nil_append]at i1;obtain⟨lb',e9,p7,p6,g0⟩:=yV d9 yo;have e9:lb=lb':=by simpa using e9
   subst e9;refine jg 9 fun K hK=>?_;refine fM rfl (.tmp 83) (.tmp 87) 22 rfl yJ w9.heap.size (.slice sb k cb) k _ rfl i1 _ (ints (L.drop (k+1))) rfl ⟨_,by rw[<-B6.out];exact qMX g0 yo p8 k9⟩ ?y1 (L.length-1) ?y2 ?y3 ?y4 ?y5 ?_
   case y1=>intro u hu;obtain⟨y,_,rfl⟩:=List.mem_map.1 hu;rfl
   case y2=>rw[zL,List.length_drop];omega
   case y3=>unfold maxLen;omega
   case y4=>omega
   case y5=>omega
   intro sd cd wQ o9 c5;refine hK.out _ _ ⟨trivial,fun _=>trivial⟩ ?_;clear hK K
   try simp only[Act.put,sPa,sPb,sPc]
   refine jg 10 fun K hK=>?_;go_simp;refine hK.out _ _ ⟨trivial,fun _=>trivial⟩ ?_;clear hK K
   try simp only[Act.put,sPa,sPb,sPc]
   refine uY yk ?_ _;refine NoPanic.normal ?_;have g1:=h8
   have lo:∀kk,(Value.slice (some ⟨gN,0,none⟩) 0 0).ownBlock=some kk->w9.heap.size<=kk/\P+2<=kk:=fun kk e=>by
    have e:gN=kk:=by simpa [Value.ownBlock] using e
    omega
   have lM:∀kk,(Value.slice sb k cb).ownBlock=some kk->w9.heap.size<=kk/\P+2<=kk:=fun kk e=>by
    have:=(i1.lt kk e).1;omega
   have A9:=Kh (((s8.out.grow h8).keptAbove b8.out (by rw[List.length_set,a3.out,h7.out]) a7 (fun kk e=>(lo kk e).1)).keptAbove b8.out (by rw[List.length_set,a3.out,h7.out]) c5 (fun kk e=>(lM kk e).1));have A4:=Kh (((r9.out.kept h8 yq).kept a7 (fun kk e=>by have:=lo kk e;omega)).kept c5 (fun kk e=>by have:=lM kk e;omega));have B8:=Kh (zD (zD (zD t4.out h8) a7 (fun e=>by have:=lo P e;omega)) c5 (fun e=>by have:=lM P e;omega));have B1:=Kh (zE (zE (zE t0.out h8) a7 (fun kk e=>by have:=lo kk e;have:=a2.out;omega)) c5 (fun kk e=>by have:=lM kk e;have:=a2.out;omega));have j9:=Nat.le_trans k0 (Nat.le_trans h8.size (Nat.le_trans a7.size c5.size));have A6:=Kh o9;clear h8 a7 c5 i1 o9 p0 k7 d9 g2 g0 i3 lo lM s8 r9 t4 t0 m1 o4 l2 j4 t8;go_wp2;go_roundg (c-(p+1))
   case measure=>have:=j3.out;omega
   have p5:(L.take k++L.drop (k+1)).length=L.length-1:=by simp only[List.length_append,List.length_take,List.length_drop];omega
   refine⟨p+1,t.set p ((t.getD p []).set a x),L.take k++L.drop (k+1),sd,cd,yo,by go_num,by rw[p5],?_,?_,by rw[List.length_set];exact h7.out,b7.out.set (by have:=h7.out;omega) ?_ ?_,A9.out,A4.out,B8.out,B1.out,j9⟩
   ·rw[p5,show ints (L.take k++L.drop (k+1))=ints (L.take k)++ints (L.drop (k+1)) by simp[ints]]
    exact A6.out
   ·rw[HX.out]
    exact g4.out.step (by have:=h7.out;omega) (by rw[l9.out];exact ha) i2
   ·rw[HX.out];exact(g4.out.rng _ (wT i2)).1
   rw[HX.out];exact(g4.out.rng _ (wT i2)).2
  have C3:p=c:=by have:=j3.out;omega
  go_wp2;go_roundg (letters-(a+1))
  case measure=>have:=HG.out;omega
  refine⟨a+1,t,yo,by go_num,h7.out,b7.out,fun a' h1 q1 q2 h2 h3 e=>?_,H0.out,b6.out,b0.out,b9.out⟩;rcases Nat.lt_or_ge a' a with h4|h4
  ·exact g4.out.done a' h4 q1 q2 h2 h3 e
  have e5:a'=a:=yo
  subst e5;exact g4.out.col q1 q2 yo yo e
 have D0:a=letters:=by have:=HG.out;omega
 have hH:=b8.out;obtain⟨d0,d1,d2,d3⟩:=zM hH.box;obtain⟨e0,e1,e2,e3⟩:=zM h0.out;have f0:=zB h0.out 0;have f1:=zB h0.out 1;have f2:=zB h0.out 2;have f3:=zB h0.out 3;clear hH;go_wp2;refine bodyPost_ret (v:=.agg #[.int .i64 letters,.int .i64 s,.slice sf fs.length cf,.slice sn t.length cn]) (by simp[results,Tryz.results16,go_sem,e0,e1,e2,e3]) rfl ?_;obtain⟨C2,l1⟩:=vS h0.out (.int .i64 letters) (.int .i64 s) (.slice sf fs.length cf) (.slice sn t.length cn);have x6:=a1.out.lt;refine⟨_,⟨letters,s,fs,t⟩,q,rfl,⟨P+1,hs,sf,cf,sn,cn,rfl,by have:=a2.out;omega,(b8.out.base (by have:=a2.out;omega)).far l1 h0.out yo⟩,g3.out.vd h1 h6 y9 yo g7.out a3.out x8 k1,y8,fun k hk a' ha2=>?_,a1.out.kept l1 (fun k e=>by have e:P=k:=Oj e;omega),yM c4.out l1 (by show _<=P;have:=a2.out;omega)⟩;have hk:letters=k:=Int.ofNat.inj hk;exact g5.out a' yo
def wAt (letters most:Nat):Nat->List (List Nat)
 | 0=>[[]]
 | i+1=>if i<(wAt letters most i).length/\((wAt letters most i).getD i []).length<most then wAt letters most i++(List.range letters).map (fun c=>(wAt letters most i).getD i []++[c]) else wAt letters most i
def wIn (letters most i a:Nat):List (List Nat):=wAt letters most i++(List.range a).map (fun c=>(wAt letters most i).getD i []++[c])
def rR (letters most:Nat):List (List Nat):=wAt letters most 7
theorem qPS {P:Nat->Nat->Prop}{x y:Nat}(h1:1<=x)(h2:x<=2)(h3:1<=y)(h4:y<=2)(h:P 1 1/\P 1 2/\P 2 1/\P 2 2):P x y:=by
 rcases (by omega:x=1\/x=2) with rfl|rfl<;>rcases (by omega:y=1\/y=2) with rfl|rfl
 ·exact h.1
 ·exact h.2.1
 ·exact h.2.2.1
 exact h.2.2.2
theorem qQH (h1:1<=letters)(h2:letters<=2)(h3:1<=most)(h4:most<=2):∀i,i<=7->(i<(wAt letters most i).length->i<7)/\(¬i<(wAt letters most i).length->wAt letters most i=rR letters most)/\(wAt letters most i).length<=7/\(∀u∈wAt letters most i,u.length<=2) :=
 qPS (P:=fun letters most=>∀i,i<=7->(i<(wAt letters most i).length->i<7)/\(¬i<(wAt letters most i).length->wAt letters most i=rR letters most)/\(wAt letters most i).length<=7/\(∀u∈wAt letters most i,u.length<=2)) h1 h2 h3 h4
  ⟨by decide +kernel,by decide +kernel,by decide +kernel,by decide +kernel⟩
theorem bI (letters most i:Nat):wIn letters most i 0=wAt letters most i:=by simp[wIn]
theorem qMG (letters most i a:Nat):wIn letters most i (a+1)=wIn letters most i a++[(wAt letters most i).getD i []++[a]]:=by simp[wIn,List.range_succ]
theorem dI (letters most i a:Nat):(wIn letters most i a).length=(wAt letters most i).length+a:=by simp[wIn]
theorem qMH (hi:i<(wAt letters most i).length)(h:((wAt letters most i).getD i []).length<most):wAt letters most (i+1)=wIn letters most i letters:=by rw[wAt,if_pos ⟨hi,h⟩];rfl
theorem qMI (h:¬((wAt letters most i).getD i []).length<most):wAt letters most (i+1)=wAt letters most i:=by rw[wAt,if_neg (fun h'=>h h'.2)]
theorem qQI (h:i<(wAt letters most i).length):(wIn letters most i a).getD i []=(wAt letters most i).getD i []:=by
 simp[wIn,List.getD_eq_getElem?_getD,List.getElem?_append_left h]
theorem qGY (w:World)(letters most:Nat)(h1:1<=letters)(h2:letters<=2)(h3:1<=most)(h4:most<=2):Calls Tryz.prog 34 #[.int .i64 (letters:Int),.int .i64 (most:Int)] w fun e w'=>∃sa sc,e=.returned (.slice sa (rR letters most).length sc)/\w'.ownsRow w.heap.size 9 1 (.slice sa (rR letters most).length sc) (rR letters most).length (uV (rR letters most))/\w.grownBy w' none:=by
 have hF:=qQH h1 h2 h3 h4;have HF:=Kh hF;clear hF;obtain⟨P,hP⟩:=Nm w.heap.size;have a0:=Kh hP;go_enter Tryz.func34,Tryz.ntmps34;go_upto_region 2 with fail;have hb:=heap_alloc_new w (.cells #[.string ⟨#[]⟩] 9);have hg:=Ga w (.cells #[.string ⟨#[]⟩] 9) none;have ho:(w.alloc (.cells #[.string ⟨#[]⟩] 9)).ownsRow w.heap.size 9 1 (.slice (some ⟨w.heap.size,0,none⟩) 1 1) 1 (uV [[]]):=jL hb (Nat.le_refl _) rfl jm;have a7:=zW w (.cells #[.string ⟨#[]⟩] 9);rw[<-hP]at ho hb a7⊢;have HO:=Kh ho;have HG:=Kh hg;have d0:=Kh (bI letters most 0);clear ho hb hg a7 hP;obtain⟨w1,a6⟩:=Nm (w.alloc (.cells #[.string ⟨#[]⟩] 9));rw[<-a6]at HO HG⊢;clear a6;go_wp2
 go_loopg [5,6,7] 7 (fun gh lv i av wr=>∃(q:Nat) (sa:Option Addr) (sc:Nat),gh+q=7/\i=.int .i64 q/\lv=.slice sa (wAt letters most q).length sc/\wr.ownsRow P 9 1 (.slice sa (wAt letters most q).length sc) (wAt letters most q).length (uV (wAt letters most q))/\w.grownBy wr none)
 case atStart=>exact⟨0,some ⟨P,0,none⟩,1,rfl,rfl,rfl,HO.out,HG.out⟩
 obtain⟨q,sa,sc,hg,rfl,rfl,h0,H0⟩:=hrel;obtain⟨f1,f2,f3,f4⟩:=HF.out q yo;obtain⟨m,hm⟩:=Nm ((wAt letters most q).length);have HM:=Kh hm;rw[<-hm]at h0 f1 f2 f3⊢;obtain⟨b6,a1,a2⟩:=Kc hg h0 H0;clear hg h0 H0 hm HO HG d0;by_cases hq:q<m
 ·have c1:(q:Int)<m:=yo
  have d4:=f1 hq;have b8:((wAt letters most q).getD q []).length<=2:=f4 _ (wT (by have:=HM.out;omega));obtain⟨U,hU⟩:=Nm ((wAt letters most q).getD q []);rw[<-hU]at b8;have HU:=Kh hU;clear f1 f2 f4 hU;obtain⟨X,hX⟩:=Nm (strOfNums (lets U));have a3:X.size=U.length:=by rw[hX,strOfNums_size];simp[lets]
  have HX:=Kh hX;have H9:=Kh a3;obtain⟨wo,a4⟩:=Nm wr;rw[<-a4]at a1 a2⊢;clear a4 wr;go_wp2
  go_loopg [5,7] letters (fun gh lv av wr=>∃(a:Nat) (sb:Option Addr) (sd:Nat),gh+a=letters/\av=.int .i64 a/\lv=.slice sb (m+a) sd/\wr.ownsRow P 9 1 (.slice sb (m+a) sd) (m+a) (uV (wIn letters most q a))/\w.grownBy wr none/\(most<=U.length->a=0))
  case atStart=>exact⟨0,sa,sc,rfl,rfl,rfl,by rw[bI];exact a1.out,a2.out,fun _=>rfl⟩
  obtain⟨a,sb,sd,hg,rfl,rfl,h0,H0,hz⟩:=hrel;obtain⟨kb,rfl,d8,b1,H3⟩:=yV h0 yo;have h5:=H3.strL q (by rw[dI];have:=HM.out;omega);rw[qQI (by have:=HM.out;omega),<-HU.out,<-HX.out]at h5;have d5:(q:Int)<(m:Int)+(a:Int):=yo;have c2:q<m+a:=yo;obtain⟨b5,h6,h7,HZ⟩:=Kd hg h0 H0 hz;have c4:sd<=9223372036854775807:=(by unfold maxLen at b1;omega)
  clear hg h0 H0 hz H3 b1 hX a3;by_cases ha:a<letters
  ·have e0:(a:Int)<letters:=yo
   by_cases hu:X.size<most
   ·have b9:(X.size:Int)<most:=yo
    have e1:IntKind.i64.wrap (97+(a:Int))=97+(a:Int):=IntWalk.i64_in _ yo;have d9:IntKind.u8.wrap (97+(a:Int))=97+(a:Int):=IntWalk.u8_in _ yo;obtain⟨Y,hY⟩:=Nm (strOfNums [97+(a:Int)]);have d6:∀(W:World) (g:Nat),W.cell? ⟨g,0,none⟩=some (.int .u8 (97+(a:Int)))->(convert 67 9 (.slice (some ⟨g,0,none⟩) 1 1)).run Tryz.prog W=.ok (.string Y) W:=fun W g h=>by rw[hY];exact mD 67 5 Tryz.underlying67 Tryz.underlying5 9 Tryz.underlying9 h
    have d7:∀W:World,(Op.stringOp .add X Y).run Tryz.prog W=.ok (.string (X++Y)) W:=fun W=>run_string_add_sum W X Y (by
     rw[hY,strOfNums_size];simp;omega)
    have c8:Hid (X++Y=strOfNums (lets (U++[a]))):=Kh (by rw[HX.out,hY,gV];simp[lets]);clear hY;obtain⟨w5,H6⟩:=Nm wr.drew;have H5:wr.grownBy w5 none:=(by rw[H6];exact zY wr none);have c9:=Kh H6;have b2:=Kh (yY h6.out H5 yq);have b4:=Kh (zE h7.out H5);have C:=Kh (zN h5 H5);clear H6 H5 h6 h7;go_upto_region 8 with fail;clear h5;refine wp_region_noPanic ?_;refine yI (G:=xM 10 (fun _=>True) (fun W=>W.cell? ⟨kb,q,none⟩=some (.string X))) yk ?_;rw[<-c9.out];refine zP 0 ?_;refine zP 1 ?_;refine zP 2 ?_;refine zP 3 ?_;refine xD 4 ?_;refine zP 5 ?_;refine zP 6 ?_;refine zP 7 ?_;refine jg 8 fun K hK=>?_;go_simp;have h9:=heap_alloc_new w5 (.cells #[.int .u8 (97+(a:Int))] 5);have H2:=Ga w5 (.cells #[.int .u8 (97+(a:Int))] 5) none;obtain⟨g6,H1⟩:=Nm w5.heap.size;obtain⟨w6,a5⟩:=Nm (w5.alloc (.cells #[.int .u8 (97+(a:Int))] 5));rw[<-H1]at h9⊢;rw[<-a5]at h9 H2⊢;have c5:=zJ h9 0;simp only[List.getElem_toArray,List.getElem_cons_zero]at c5;have d2:=Kh (yY b2.out H2 yq);have b3:=Kh (zE b4.out H2);have C6:=Kh (zN C.out H2);refine hK.out _ _ ⟨trivial,fun _=>C6.out⟩ ?_;clear hK K h9 H2 H1 a5 b2 b4 C
    try simp only[Act.put,sPa,sPb,sPc]
    refine jg 9 fun K hK=>?_;go_simp;refine hK.out _ _ ⟨trivial,fun _=>C6.out⟩ ?_;clear hK K
    try simp only[Act.put,sPa,sPb,sPc]
    refine jg 10 fun K hK=>?_;go_simp;refine hK.out _ _ ⟨trivial,fun h=>by simp at h⟩ ?_;clear hK K
    try simp only[Act.put,sPa,sPb,sPc]
    refine jg 11 fun K hK=>?_;go_simp;have h9:=heap_alloc_new w6 (.cells #[.string (X++Y)] 9);have H8:=Ga w6 (.cells #[.string (X++Y)] 9) none;have H7:=yY d2.out H8 yq;refine hK.out _ _ ⟨trivial,fun h=>by simp at h⟩ ?_;clear hK K
    try simp only[Act.put,sPa,sPb,sPc]
    have c0:P<=w6.heap.size:=by have:=b3.out.size;have:=a0.out;omega
    refine jg 12 fun K hK=>?_;refine mB rfl (.tmp 29) (.tmp 40) 37 rfl rZ P _ _ _ rfl H7 _ _ _ rfl h9 rfl ?g1 ?g2 ?g3 ?_
    case g1=>unfold maxLen;omega
    case g2=>omega
    case g3=>rw[zW];omega
    intro sa' sc' w8 h8 b0;refine hK.out _ _ ⟨trivial,fun h=>by simp at h⟩ ?_;clear hK K
    try simp only[Act.put,sPa,sPb,sPc]
    refine jg 13 fun K hK=>?_;go_simp;refine hK.out _ _ ⟨trivial,fun h=>by simp at h⟩ ?_;clear hK K
    try simp only[Act.put,sPa,sPb,sPc]
    refine uY yk ?_ _;refine NoPanic.normal ?_;have d1:=Kh h8;have d3:=Kh (zE (zE b3.out H8) b0 (fun k e=>by have:=(H7.lt k e).1;have:=a0.out;omega));clear h8 b0 H8 H7 h9;go_wp2;go_roundg (letters-(a+1))
    case measure=>have:=b5.out;omega
    refine⟨a+1,sa',sc',yo,by go_num,by rw[Nat.add_assoc],?_,d3.out,by have:=H9.out;omega⟩;rw[qMG,<-HU.out,show uV (wIn letters most q a++[U++[a]])=uV (wIn letters most q a)++[.string (X++Y)] by rw[c8.out];simp[uV],<-Nat.add_assoc];exact d1.out
   have b9:¬(X.size:Int)<most:=yo;have c7:a=0:=HZ.out (by have:=H9.out;omega);subst c7;have a8:=qMI (letters:=letters) (most:=most) (i:=q) (by rw[<-HU.out];have:=H9.out;omega);have H4:=Kh a8;clear a8;go_wp2;go_roundg (7-(q+1))
   case measure=>have:=b6.out;omega
   refine⟨q+1,some ⟨kb,0,none⟩,sd,yo,by go_num,?_,?_,h7.out⟩
   ·rw[H4.out,<-HM.out]
   have:=h6.out;rw[bI]at this;rw[H4.out,<-HM.out];exact this
  have c6:a=letters:=by have:=b5.out;omega
  subst c6
  have c3:U.length<most:=by
   rcases Nat.lt_or_ge U.length most with h|h
   ·exact h
   have:=HZ.out h;omega
  have H4:=Kh (qMH (letters:=a) (most:=most) (i:=q) (by have:=HM.out;omega) (by rw[<-HU.out];exact c3));go_wp2;go_roundg (7-(q+1))
  case measure=>have:=b6.out;omega
  have a9:(wAt a most (q+1)).length=m+a:=by rw[H4.out,dI,<-HM.out]
  refine⟨q+1,some ⟨kb,0,none⟩,sd,yo,by go_num,by rw[a9],?_,h7.out⟩;rw[a9,H4.out];exact h6.out
 have c1:¬(q:Int)<m:=yo
 have b7:=Kh (f2 hq);clear f1 f2 f3 f4;go_wp2;go_ret;refine⟨sa,sc,?_,?_,a2.out⟩
 ·rw[<-b7.out,<-HM.out];rfl
 rw[<-b7.out,<-HM.out,<-a0.out];exact a1.out
end Go.Proofs.YtiknckajkdlppaaGreat
