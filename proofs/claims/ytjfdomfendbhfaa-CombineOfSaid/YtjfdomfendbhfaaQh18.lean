/- Part 18 of the proof. -/
import Derived.Test.YtjfdomfendbhfaaQh15
import Derived.Test.YtjfdomfendbhfaaQh17
set_option linter.unusedVariables false
set_option linter.unusedSimpArgs false
set_option maxRecDepth 100000
set_option maxHeartbeats 16000000
namespace Go.Proofs.Ytjfdomfendbhfaa
open Go.RowKit
def qDS (m:DfaV)(n:Nat):Prop:=∀k:Nat,m.letters=k->∀a,a<k->∀q q',q<n->q'<n->ent m.next q a=ent m.next q' a->q=q'
theorem owns_keptF {w w':World}{F:Nat->Prop}{base n:Nat}{v:Value}{xs:List Value}(h:w.ownsRow base 3 1 v n xs)(hg:GrownBut w w' F)(hF:∀k,F k->zX w 3 k):w'.ownsRow base 3 1 v n xs:=by
 obtain⟨h1,h2⟩:=h;refine⟨h1,?_⟩;rcases h2 with h2|⟨g,cap,cur,e1,e2,e3,e4⟩
 ·exact .inl h2
 ·refine .inr ⟨g,cap,cur,e1,e2,hg.heap e3 (fun hf=>?_),e4⟩
  obtain⟨c,e',m,hp,h0⟩:=hF g hf;rw[e3]at hp;simp at hp;exact h0 hp.2.1.symm
theorem Half.ofMany {base o q:Nat}{w5 w:World}{L S:Int}{fs:List Bool}{t:List (List Int)}{hs:List Value}{sf sn sa sa2:Option Addr}{cf cn sc sc2:Nat}{FF:Nat->Prop}{b:Bool}{row:List Int}{rv:Value}{k:Nat}{ls:List (Nat×Obj)}(h:Half base w5 o L S fs t hs sf cf sn cn)(hfl:fs.length=q)(htl:t.length=q)(hk:row.length=k)(hM:Many w5 FF w [⟨base,4,.slice sa (q+1) sc,q+1,bls fs++[.bool b],1⟩,⟨base,34,.slice sa2 (q+1) sc2,q+1,hs++[rv],1⟩,⟨base,3,rv,k,ints row,1⟩] ls [])(hF:∀k,FF k->zX w5 3 k)(hB:w.heap[o]?=some (.cells #[.int .i64 L,.int .i64 S,.slice sa (q+1) sc,.slice sa2 (q+1) sc2] 42 (0,0))):Half base w o L S (fs++[b]) (t++[row]) (hs++[rv]) sa sc sa2 sc2:=by
 have e1:(fs++[b]).length=q+1:=by simp[hfl]
 have e2:(t++[row]).length=q+1:=by simp[htl]
 have o0:=hM.own 0 _ rfl;have o1:=hM.own 1 _ rfl;have o2:=hM.own 2 _ rfl;simp only at o0 o1 o2;refine⟨by rw[e1,e2];exact hB,by rw[e1,show bls (fs++[b])=bls fs++[.bool b] by simp[bls]];exact o0,by rw[e2];exact o1,?_⟩;refine OwnsT.snoc ⟨h.rows.len,fun i h1 h2=>owns_keptF (h.rows.own i h1 h2) hM.but hF,h.rows.dis⟩ (by rw[hk];exact o2) (fun i hi j hj e=>?_);have h3:=(h.rows.lt hi hj).2;rcases hM.mine 2 _ rfl j e with hf|hf
 ·obtain⟨c,e',m,hp,h0⟩:=hF j hf
  exact zQ (h.rows.own i hi (by rw[<-h.rows.len];exact hi)) hp (Ne.symm h0) hj
 ·omega
structure PermTo (t:List (List Int))(n q a:Nat)(L:List Int):Prop where
 done:∀a',a'<a->∀q1 q2,q1<n->q2<n->ent t q1 a'=ent t q2 a'->q1=q2
 col:∀q1 q2,q1<q->q2<q->ent t q1 a=ent t q2 a->q1=q2
 out:∀q1,q1<q->ent t q1 a ∉ L
 nodup:L.Nodup
 rng:∀x∈L,0<=x/\x<n
 len:L.length+q=n
theorem PermTo.step {t:List (List Int)}{n q a k:Nat}{L:List Int}(h:PermTo t n q a L)(hq:q<t.length)(ha:a<(t.getD q []).length)(hk:k<L.length):PermTo (t.set q ((t.getD q []).set a (L.getD k 0))) n (q+1) a (L.take k++L.drop (k+1)):=by
 have hx:L.getD k 0=L[k]:=by simp[List.getD_eq_getElem?_getD,hk]
 have hL:L=L.take k++L[k]::L.drop (k+1):=by rw[<-List.drop_eq_getElem_cons hk,List.take_append_drop]
 have h4:=h.nodup;rw[hL,List.nodup_append]at h4;obtain⟨n1,n2,n3⟩:=h4;rw[List.nodup_cons]at n2
 have h0:∀y,y∈L.take k++L.drop (k+1)->y∈L:=fun y hy=>by
  rcases List.mem_append.1 hy with hy|hy
  ·exact List.mem_of_mem_take hy
  ·exact List.mem_of_mem_drop hy
 have h5:L[k] ∉ L.take k++L.drop (k+1):=fun hy=>by
  rcases List.mem_append.1 hy with hy|hy
  ·exact n3 _ hy _ List.mem_cons_self rfl
  ·exact n2.1 hy
 have h3:L[k]∈L:=List.getElem_mem hk;rw[hx];refine⟨fun a' ha' q1 q2 h1 h2=>?_,fun q1 q2 h1 h2=>?_,fun q1 h1=>?_,?_,fun y hy=>h.rng y (h0 y hy),?_⟩
 ·rw[lD hq ha,lD hq ha,if_neg (by omega),if_neg (by omega)]
  exact h.done a' ha' q1 q2 h1 h2
 ·rw[lD hq ha,lD hq ha]
  simp only[and_true];by_cases e1:q1=q<;>by_cases e2:q2=q
  ·intro _;omega
  ·rw[if_pos e1,if_neg e2]
   intro e;exact absurd (e ▸ h3) (h.out q2 (by omega))
  ·rw[if_neg e1,if_pos e2]
   intro e;exact absurd (e ▸ h3) (h.out q1 (by omega))
  ·rw[if_neg e1,if_neg e2]
   exact h.col q1 q2 (by omega) (by omega)
 ·rw[lD hq ha]
  simp only[and_true];by_cases e1:q1=q
  ·rw[if_pos e1];exact h5
  ·rw[if_neg e1];exact fun hy=>h.out q1 (by omega) (h0 _ hy)
 ·rw[List.nodup_append]
  exact⟨n1,n2.2,fun x h1 y h2=>n3 x h1 y (List.mem_cons_of_mem _ h2)⟩
 ·have:=h.len
  simp only[List.length_append,List.length_take,List.length_drop];omega
theorem PermTo.begin {t:List (List Int)}{n a:Nat}(h:∀a',a'<a->∀q1 q2,q1<n->q2<n->ent t q1 a'=ent t q2 a'->q1=q2):PermTo t n 0 a ((List.range n).map fun(x:Nat)=>(x:Int)) where
 done:=h
 col:=fun q1 q2 h1=>by omega
 out:=fun q1 h1=>by omega
 nodup:=by
  refine List.Pairwise.map _ (fun x y hxy=>?_) (List.nodup_range (n:=n));intro e;exact hxy (Int.ofNat.inj e)
 rng:=fun x hx=>by
  obtain⟨y,hy,rfl⟩:=List.mem_map.1 hx;have:=List.mem_range.1 hy;omega
 len:=by simp
theorem row_front {w:World}{lb cl k:Nat}{e:TypeId}{L:List Int}(hA:Arr w lb e (ints L))(hk:k<=L.length)(hc:L.length<=cl)(hm:cl<=maxLen):Row w.heap.size w (.slice (some ⟨lb,0,none⟩) k cl) (ints (L.take k)):=by
 have hl:(ints (L.take k)).length=k:=by rw[yE,List.length_take];omega
 refine .inr ⟨lb,0,cl,by rw[hl],hA.lt,by rw[hl];omega,hm,?_⟩;have:=hA.row.take k
 rwa [show ints (L.take k)=(ints L).take k by simp[ints,List.map_take]]
theorem row_back {w:World}{lb cl k:Nat}{e:TypeId}{L:List Int}(hA:Arr w lb e (ints L))(hk:k<L.length)(hc:L.length<=cl)(hm:cl<=maxLen):Row w.heap.size w (.slice (if cl=k+1 then some ⟨lb,0,none⟩ else some ⟨lb,k+1,none⟩) (L.length-(k+1)) (cl-(k+1))) (ints (L.drop (k+1))):=by
 have hl:(ints (L.drop (k+1))).length=L.length-(k+1):=by rw[yE,List.length_drop]
 by_cases h:cl=k+1
 ·rw[if_pos h]
  refine .inr ⟨lb,0,cl-(k+1),by rw[hl],hA.lt,by rw[hl];omega,by omega,hA.lt,fun i hi=>by omega⟩
 ·rw[if_neg h]
  refine .inr ⟨lb,k+1,cl-(k+1),by rw[hl],hA.lt,by rw[hl];omega,by omega,?_⟩;have:=hA.row.drop (k+1);rw[Nat.zero_add]at this
  rwa [show ints (L.drop (k+1))=(ints L).drop (k+1) by simp[ints,List.map_drop]]
theorem Half.keptAbove {base o:Nat}{w0 W W':World}{L S L0 S0:Int}{fs:List Bool}{t t0:List (List Int)}{hs:List Value}{sf sn:Option Addr}{cf cn:Nat}{row:Option Nat}(h:Half base W o L S fs t hs sf cf sn cn)(h0:Half base w0 o L0 S0 fs t0 hs sf cf sn cn)(ht:t0.length=t.length)(hg:W.grownBy W' row)(hr:∀k,row=some k->w0.heap.size<=k):Half base W' o L S fs t hs sf cf sn cn:=by
 have key:∀(v:Value),(∀k,v.ownBlock=some k->k<w0.heap.size)->v.ownBlock=none\/v.ownBlock≠row:=fun v hv=>by
  rcases e:v.ownBlock with _|k
  ·exact .inl rfl
  ·refine .inr fun e2=>?_
   have:=hr k e2.symm;have:=hv k e;omega
 refine⟨zB h.box hg (fun e=>by have:=hr _ e;have:=zK h0.box;omega),h.ownF.kept hg (key _ fun k e=>(h0.ownF.lt k e).2),h.ownN.kept hg (key _ fun k e=>(h0.ownN.lt k (by rw[ht];exact e)).2),⟨h.rows.len,fun i h1 h2=>(h.rows.own i h1 h2).kept hg (key _ fun k e=>(h0.rows.lt h1 e).2),h.rows.dis⟩⟩
theorem tape_not {w0 W:World}{F:Nat->Prop}{rs:List RowS}{ls:List (Nat×Obj)}{ps:List (Nat×TypeId×List Value)}(h:Many w0 F W rs ls ps){B tb:Nat}(hT:xL B W tb)(hty:∀s∈rs,s.e≠82):∀(j:Nat) (s:RowS),rs[j]?=some s->s.v.ownBlock≠some tb:=by
 obtain⟨sl,zs,n,hr,_⟩:=hT;exact h.not_type hr hty
inductive perm7I (B tb P letters q:Nat)(s:Int)(fs:List Bool)(hs:List Value)(sf:Option Addr)(cf:Nat)(sn:Option Addr)(cn:Nat)(w5:World)(FF:Nat->Prop)(a0:Act)(l:Array Bool)(a:Act)(w:World):Prop
 | mk (x33:Value) (x34:Value) (x35:Value) (x36:Value) (x40:Value) (x41:Value) (x42:Value) (x43:Value) (x44:Value) (b:Int) (vF:Value) (nF:Nat) (xF:List Value) (vN:Value) (nN:Nat) (xN:List Value) (vR:Value) (nR:Nat) (xR:List Value) (ls:List (Nat×Obj)) (c2:Value) (c3:Value) (ha:a=yJ a0 [(33,x33),(34,x34),(35,x35),(36,x36),(40,x40),(41,x41),(42,x42),(43,x43),(44,x44)]) (HR:∀j∈[0,1,2,7,8,9],l.getD j true=true) (H3:Hid (l.getD 3 true=true->x33=.int .i64 b)) (H4:Hid (l.getD 4 true=true->l.getD 3 true=true/\x34=Value.bool (decide (b=1)))) (H5:Hid (l.getD 5 true=true->l.getD 3 true=true/\∃g,x35=.slice (some ⟨g,0,none⟩) 1 1/\(g,Obj.cells #[Value.bool (decide (b=1))] 4 (0,0))∈ls)) (H6n:Hid (l.getD 6 true=false->vF=.slice sf q cf/\q=nF/\xF=bls fs)) (H6:Hid (l.getD 6 true=true->l.getD 3 true=true/\∃sa sc,vF=.slice sa (q+1) sc/\x36=.slice sa (q+1) sc/\nF=q+1/\xF=bls fs++[Value.bool (decide (b=1))])) (H10n:Hid (l.getD 10 true=false->vR=.slice none 0 0/\nR=0/\xR=[])) (H10:Hid (l.getD 10 true=true->∃g,vR=.slice (some ⟨g,0,none⟩) letters letters/\x40=.slice (some ⟨g,0,none⟩) letters letters/\letters=nR/\xR=List.replicate letters (.int .i64 0))) (H11:Hid (l.getD 11 true=true->l.getD 10 true=true/\∃g,x41=.slice (some ⟨g,0,none⟩) 1 1/\(g,Obj.cells #[vR] 34 (0,0))∈ls)) (H12n:Hid (l.getD 12 true=false->vN=.slice sn q cn/\q=nN/\hs=xN)) (H12:Hid (l.getD 12 true=true->l.getD 6 true=true/\l.getD 10 true=true/\∃sa sc,vN=.slice sa (q+1) sc/\x42=.slice sa (q+1) sc/\nN=q+1/\xN=hs++[vR])) (H13:Hid (l.getD 13 true=true->x43=.pointer (some ⟨P+1,2,none⟩))) (H15:Hid (l.getD 15 true=true->x44=.pointer (some ⟨P+1,3,none⟩))) (B2n:Hid (l.getD 14 true=false->c2=.slice sf q cf)) (B2:Hid (l.getD 14 true=true->l.getD 6 true=true/\l.getD 12 true=true/\c2=vF)) (B3n:Hid (l.getD 16 true=false->c3=.slice sn q cn)) (B3:Hid (l.getD 16 true=true->l.getD 12 true=true/\l.getD 14 true=true/\c3=vN)) (HB:(w.heap[P+1]?=some (.cells #[.int .i64 letters,.int .i64 s,c2,c3] 42 (0,0)))) (HM:(Many w5 FF w [⟨P+1,4,vF,nF,xF,1⟩,⟨P+1,34,vN,nN,xN,1⟩,⟨P+1,3,vR,nR,xR,1⟩] ls [])) (HT:(xL B w tb))
theorem perm7_G {B tb P letters q:Nat}{s:Int}{fs:List Bool}{hs:List Value}{sf:Option Addr}{cf:Nat}{sn:Option Addr}{cn:Nat}{w5:World}{FF:Nat->Prop}{a0:Act}{l:Array Bool}{a:Act}{w:World}(h:perm7I B tb P letters q s fs hs sf cf sn cn w5 FF a0 l a w):uI 14 (fun _=>True) (fun W=>W.cell? ⟨P+1,2,none⟩=some (.slice sf q cf)/\W.cell? ⟨P+1,3,none⟩=some (.slice sn q cn)) l w:=by
 obtain⟨x33,x34,x35,x36,x40,x41,x42,x43,x44,b,vF,nF,xF,vN,nN,xN,vR,nR,xR,ls,c2,c3,ha,HR,H3,H4,H5,h3,H6,h2,h8,h7,h1,h6,h5,h4,B2n,B2,B3n,B3,HB,HM,HT⟩:=h;obtain⟨k0,k1,k2,k3⟩:=zF HB;refine⟨trivial,fun h14=>?_⟩
 have h0:l.getD 16 true=false:=by
  rcases h0:l.getD 16 true with _|_
  ·rfl
  ·have:=(B3.out h0).2.1
   rw[h14]at this;cases this
 rw[B2n.out h14]at k2;rw[B3n.out h0]at k3;exact⟨k2,k3⟩
theorem iA {B tb P letters q:Nat}{s:Int}{fs:List Bool}{hs:List Value}{sf:Option Addr}{cf:Nat}{sn:Option Addr}{cn:Nat}{w5:World}{FF:Nat->Prop}{a0:Act}{l:Array Bool}{a:Act}{w:World}(h:perm7I B tb P letters q s fs hs sf cf sn cn w5 FF a0 l a w):∀j∈[0,1,2,7,8,9],l.getD j true=true:=by
 obtain⟨x33,x34,x35,x36,x40,x41,x42,x43,x44,b,vF,nF,xF,vN,nN,xN,vR,nR,xR,ls,c2,c3,ha,HR,H3,H4,H5,h2,H6,h1,h7,h6,h0,h5,h4,h3,B2n,B2,B3n,B3,HB,HM,HT⟩:=h;exact HR
theorem perm7_steps {B tb P letters q:Nat}{s:Int}{fs:List Bool}{hs:List Value}{sf:Option Addr}{cf:Nat}{sn:Option Addr}{cn:Nat}{w5:World}{FF:Nat->Prop}{v0 v1 v2 v3 v4 v5 v6 v8 v9 v10 v11 v12 v13 v14 v15 v16 v17 v18 v19 v20 v21 v22 v23 v24 v25 v26 v27 v28 v29 v33 v34 v35 v36 v40 v41 v42 v43 v44 v45 v46 v47 v48 v49 v50 v51 v52 v53 v54 v55 v56 v57 v58 v59 v60 v61 v62 v63 v64 v65 v66 v67 v68 v69 v70 v71 v72 v73 v74 v75 v76 v77 v78 v79 v80 v81 v82 v83 v84 v85 v86 v87 v88 v89:Value}{dd:_}{a0:Act}(ha0:a0=⟨#[v0,v1,v2,v3,v4,v5,v6,.pointer (some ⟨P+1,0,none⟩),v8,v9,v10,v11,v12,v13,v14,v15,v16,v17,v18,v19,v20,v21,v22,v23,v24,v25,v26,v27,v28,v29,.pointer (some ⟨P+1,2,none⟩),.slice sf q cf,.pointer (some ⟨tb,0,none⟩),v33,v34,v35,v36,.pointer (some ⟨P+1,3,none⟩),.slice sn q cn,.int .i64 letters,v40,v41,v42,v43,v44,v45,v46,v47,v48,v49,v50,v51,v52,v53,v54,v55,v56,v57,v58,v59,v60,v61,v62,v63,v64,v65,v66,v67,v68,v69,v70,v71,v72,v73,v74,v75,v76,v77,v78,v79,v80,v81,v82,v83,v84,v85,v86,v87,v88,v89],dd⟩)(hBt:B<=tb)(htb:tb<P)(h6:letters<=6)(hq5:q<=500)(htW:tb<w5.heap.size)(hQW:P+1<w5.heap.size)(hbase:P+1<=w5.heap.size)(HFF:FF=fun k=>FB sf sn k\/k=tb\/k=P+1)(hmk:∀w:World,(Instr.makeSlice 34 (.int .i64 (letters:Int)) (.int .i64 (letters:Int))).run Try.prog w=.ok (.slice (some ⟨w.heap.size,0,none⟩) letters letters) (w.alloc (.cells (madeCells #[.int .i64 0] letters) 3)))(hmkz:Hid (madeCells #[.int .i64 0] letters=(List.replicate letters (Value.int .i64 0)).toArray))(ops7:Array Oper)(Q7:Exit->Act->World->Prop):gG (qIB Try.prog .any ops7 Q7 (perm7I B tb P letters q s fs hs sf cf sn cn w5 FF a0)) 0 (qBK Try.f48 7).toList:=by
 refine⟨?s0,?s1,?s2,?s3,?s4,?s5,?s6,?s7,?s8,?s9,?s10,?s11,?s12,?s13,?s14,?s15,?s16,trivial⟩
 case s0 =>
  exact fun l a w h h5=>absurd (iA h 0 (by simp)) (by rw[h5];simp)
 case s1 =>
  exact fun l a w h h5=>absurd (iA h 1 (by simp)) (by rw[h5];simp)
 case s2 =>
  exact fun l a w h h5=>absurd (iA h 2 (by simp)) (by rw[h5];simp)
 case s3 =>
  intro l a w h h5 h0 K hK;obtain⟨x33,x34,x35,x36,x40,x41,x42,x43,x44,b,vF,nF,xF,vN,nN,xN,vR,nR,xR,ls,c2,c3,ha,HR,H3,H4,H5,h9,H6,h3,H2,h8,h4,h7,H1,H0,B2n,B2,B3n,B3,HB,HM,HT⟩:=h;subst ha;rw[ha0];simp only[yJ,List.foldl_cons,List.foldl_nil,Act.put,sPa,sPb,sPc];go_simp
  go_at_call 15
  refine(wW B tb _ _ (by omega) HT).mono ?_;rintro e w6 ⟨b',rfl,a8,a7,a6,H7⟩;refine hK.out _ _ ?_;refine⟨(.int .i64 b'),x34,x35,x36,x40,x41,x42,x43,x44,b',vF,nF,xF,vN,nN,xN,vR,nR,xR,ls,c2,c3,?fa3,fun j hj=>zS (HR j hj),Kh (fun _=>rfl),(hsA H4 h5),(hsA H5 h5),(hsN h9),(hsA H6 h5),(hsN h3),(hsP H2),(hsQ h8),(hsN h4),(hsR h7),(hsP H1),(hsP H0),(hsN B2n),(hsR B2),(hsN B3n),(hsR B3),zB HB H7 (by simp;omega),HM.far H7 (by rw[HFF];exact Or.inr (Or.inl rfl)) htW (tape_not HM HT (by simp)),a6⟩
  case fa3=>rw[ha0];simp only[yJ,List.foldl_cons,List.foldl_nil,Act.put,sPa,sPb,sPc]
 case s4 =>
  intro l a w h h5 h0 K hK;obtain⟨x33,x34,x35,x36,x40,x41,x42,x43,x44,b,vF,nF,xF,vN,nN,xN,vR,nR,xR,ls,c2,c3,ha,HR,H3,H4,H5,h9,H6,h3,H2,h8,h4,h7,H1,H0,B2n,B2,B3n,B3,HB,HM,HT⟩:=h;have DH3:=H3.out (yH (h0 ⟨3,.data⟩ (by simp) rfl));subst DH3;subst ha;rw[ha0];simp only[yJ,List.foldl_cons,List.foldl_nil,Act.put,sPa,sPb,sPc];go_simp;refine hK.out _ _ ?_;refine⟨(.int .i64 b),(.bool (b == 1)),x35,x36,x40,x41,x42,x43,x44,b,vF,nF,xF,vN,nN,xN,vR,nR,xR,ls,c2,c3,?fa4,fun j hj=>zS (HR j hj),Kh (fun _=>rfl),Kh (fun _=>⟨zS (yH (h0 ⟨3,.data⟩ (by simp) rfl)),rfl⟩),(hsQ H5),(hsN h9),(hsQ H6),(hsN h3),(hsP H2),(hsQ h8),(hsN h4),(hsR h7),(hsP H1),(hsP H0),(hsN B2n),(hsR B2),(hsN B3n),(hsR B3),HB,HM,HT⟩
  case fa4=>rw[ha0];simp only[yJ,List.foldl_cons,List.foldl_nil,Act.put,sPa,sPb,sPc]
 case s5 =>
  intro l a w h h5 h0 K hK;obtain⟨x33,x34,x35,x36,x40,x41,x42,x43,x44,b,vF,nF,xF,vN,nN,xN,vR,nR,xR,ls,c2,c3,ha,HR,H3,H4,H5,h9,H6,h3,H2,h8,h4,h7,H1,H0,B2n,B2,B3n,B3,HB,HM,HT⟩:=h;have DH4:=H4.out (yH (h0 ⟨4,.data⟩ (by simp) rfl));obtain⟨H9,rfl⟩:=DH4;subst ha;rw[ha0];simp only[yJ,List.foldl_cons,List.foldl_nil,Act.put,sPa,sPb,sPc];go_simp;refine hK.out _ _ ?_;refine⟨x33,(Value.bool (decide (b=1))),(.slice (some ⟨w.heap.size,0,none⟩) 1 1),x36,x40,x41,x42,x43,x44,b,vF,nF,xF,vN,nN,xN,vR,nR,xR,((w.heap.size,Obj.cells #[Value.bool (decide (b=1))] 4 (0,0))::ls),c2,c3,?fa5,fun j hj=>zS (HR j hj),(hsP H3),Kh (fun _=>⟨zS H9,rfl⟩),Kh (fun _=>⟨zS H9,w.heap.size,rfl,List.Mem.head _⟩),(hsN h9),(hsQ H6),(hsN h3),(hsP H2),Kh (fun h=>⟨zS (h8.out (yS (by decide) h)).1,let ⟨g,h1,h2⟩:=(h8.out (yS (by decide) h)).2;⟨g,h1,List.Mem.tail _ h2⟩⟩),(hsN h4),(hsR h7),(hsP H1),(hsP H0),(hsN B2n),(hsR B2),(hsN B3n),(hsR B3),zB HB (Ga w (.cells #[Value.bool (decide (b=1))] 4) none) (by simp),HM.alloc (.cells #[Value.bool (decide (b=1))] 4),HT.kept (Ga w (.cells #[Value.bool (decide (b=1))] 4) none) (by simp)⟩
  case fa5=>rw[ha0];simp only[yJ,List.foldl_cons,List.foldl_nil,Act.put,sPa,sPb,sPc]
 case s6 =>
  intro l a w h h5 h0 K hK;obtain⟨x33,x34,x35,x36,x40,x41,x42,x43,x44,b,vF,nF,xF,vN,nN,xN,vR,nR,xR,ls,c2,c3,ha,HR,H3,H4,H5,h9,H6,h3,H2,h8,h4,h7,H1,H0,B2n,B2,B3n,B3,HB,HM,HT⟩:=h;have DH5:=H5.out (yH (h0 ⟨5,.data⟩ (by simp) rfl));obtain⟨H9,g5,rfl,a1⟩:=DH5;obtain⟨rfl,rfl,rfl⟩:=h9.out h5;subst ha;rw[ha0];simp only[yJ,List.foldl_cons,List.foldl_nil,Act.put,sPa,sPb,sPc];refine mR (by simp[Region.wanted]) (.tmp 31) (.tmp 35) 39 rfl xJ 0 g5 1 rfl HM rfl rfl rfl rfl ?g16 ?g26 ?g36 a1 rfl ?_
  case g16=>show q+1<=maxLen;unfold maxLen;omega
  case g26=>show (q+1)*1<=140737488355328;omega
  case g36=>exact hbase
  intro sa sc w6 a2 H7;refine hK.out _ _ ?_;refine⟨x33,x34,(.slice (some ⟨g5,0,none⟩) 1 1),(.slice sa (q+1) sc),x40,x41,x42,x43,x44,b,(.slice sa (q+1) sc),(q+1),(bls fs++[Value.bool (decide (b=1))]),vN,nN,xN,vR,nR,xR,ls,c2,c3,?fa6,fun j hj=>zS (HR j hj),(hsP H3),(hsQ H4),Kh (fun _=>⟨zS H9,g5,rfl,a1⟩),Kh (fun h=>uD h),Kh (fun _=>⟨zS H9,sa,sc,rfl,rfl,rfl,rfl⟩),(hsN h3),(hsP H2),(hsQ h8),(hsN h4),(hsA h7 h5),(hsP H1),(hsP H0),(hsN B2n),(hsA B2 h5),(hsN B3n),(hsR B3),zB HB H7 (fun e=>HM.not_type HB (by simp) 0 _ rfl e),a2,HT.kept H7 (fun k e=>by have:=((HM.own 0 _ rfl).lt k e).1;simp only at this;omega)⟩
  case fa6=>rw[ha0];simp only[yJ,List.foldl_cons,List.foldl_nil,Act.put,sPa,sPb,sPc]
 case s7 =>
  exact fun l a w h h5=>absurd (iA h 7 (by simp)) (by rw[h5];simp)
 case s8 =>
  exact fun l a w h h5=>absurd (iA h 8 (by simp)) (by rw[h5];simp)
 case s9 =>
  exact fun l a w h h5=>absurd (iA h 9 (by simp)) (by rw[h5];simp)
 case s10 =>
  intro l a w h h5 h0 K hK;obtain⟨x33,x34,x35,x36,x40,x41,x42,x43,x44,b,vF,nF,xF,vN,nN,xN,vR,nR,xR,ls,c2,c3,ha,HR,H3,H4,H5,h9,H6,h3,H2,h8,h4,h7,H1,H0,B2n,B2,B3n,B3,HB,HM,HT⟩:=h;obtain⟨rfl,rfl,rfl⟩:=h3.out h5;subst ha;rw[ha0];simp only[yJ,List.foldl_cons,List.foldl_nil,Act.put,sPa,sPb,sPc];go_simp;rw[hmkz.out];have a2:=HM.make (j:=2) rfl hbase (cs:=List.replicate letters (.int .i64 0)) (n:=letters) (by simp) (by unfold maxLen;omega);refine hK.out _ _ ?_;refine⟨x33,x34,x35,x36,(.slice (some ⟨w.heap.size,0,none⟩) letters letters),x41,x42,x43,x44,b,vF,nF,xF,vN,nN,xN,(.slice (some ⟨w.heap.size,0,none⟩) letters letters),letters,(List.replicate letters (.int .i64 0)),ls,c2,c3,?fa10,fun j hj=>zS (HR j hj),(hsP H3),(hsQ H4),(hsQ H5),(hsN h9),(hsQ H6),Kh (fun h=>uD h),Kh (fun _=>⟨w.heap.size,rfl,rfl,rfl,rfl⟩),(hsA h8 h5),(hsN h4),(hsB h7 h5),(hsP H1),(hsP H0),(hsN B2n),(hsR B2),(hsN B3n),(hsR B3),zB HB (Ga w (.cells (List.replicate letters (Value.int .i64 0)).toArray 3) none) (by simp),a2,HT.kept (Ga w (.cells (List.replicate letters (Value.int .i64 0)).toArray 3) none) (by simp)⟩
  case fa10=>rw[ha0];simp only[yJ,List.foldl_cons,List.foldl_nil,Act.put,sPa,sPb,sPc]
 case s11 =>
  intro l a w h h5 h0 K hK;obtain⟨x33,x34,x35,x36,x40,x41,x42,x43,x44,b,vF,nF,xF,vN,nN,xN,vR,nR,xR,ls,c2,c3,ha,HR,H3,H4,H5,h9,H6,h3,H2,h8,h4,h7,H1,H0,B2n,B2,B3n,B3,HB,HM,HT⟩:=h;have DH10:=H2.out (yH (h0 ⟨10,.data⟩ (by simp) rfl));obtain⟨g10,rfl,rfl,rfl,rfl⟩:=DH10;subst ha;rw[ha0];simp only[yJ,List.foldl_cons,List.foldl_nil,Act.put,sPa,sPb,sPc];go_simp;refine hK.out _ _ ?_;refine⟨x33,x34,x35,x36,(Value.slice (some ⟨g10,0,none⟩) letters letters),(.slice (some ⟨w.heap.size,0,none⟩) 1 1),x42,x43,x44,b,vF,nF,xF,vN,nN,xN,(Value.slice (some ⟨g10,0,none⟩) letters letters),letters,(List.replicate letters (.int .i64 0)),((w.heap.size,Obj.cells #[Value.slice (some ⟨g10,0,none⟩) letters letters] 34 (0,0))::ls),c2,c3,?fa11,fun j hj=>zS (HR j hj),(hsP H3),(hsQ H4),Kh (fun h=>⟨zS (H5.out (yS (by decide) h)).1,let ⟨g,h1,h2⟩:=(H5.out (yS (by decide) h)).2;⟨g,h1,List.Mem.tail _ h2⟩⟩),(hsN h9),(hsQ H6),(hsN h3),Kh (fun _=>⟨g10,rfl,rfl,rfl,rfl⟩),Kh (fun _=>⟨zS (yH (h0 ⟨10,.data⟩ (by simp) rfl)),w.heap.size,rfl,List.Mem.head _⟩),(hsN h4),(hsR h7),(hsP H1),(hsP H0),(hsN B2n),(hsR B2),(hsN B3n),(hsR B3),zB HB (Ga w (.cells #[Value.slice (some ⟨g10,0,none⟩) letters letters] 34) none) (by simp),HM.alloc (.cells #[Value.slice (some ⟨g10,0,none⟩) letters letters] 34),HT.kept (Ga w (.cells #[Value.slice (some ⟨g10,0,none⟩) letters letters] 34) none) (by simp)⟩
  case fa11=>rw[ha0];simp only[yJ,List.foldl_cons,List.foldl_nil,Act.put,sPa,sPb,sPc]
 case s12 =>
  intro l a w h h5 h0 K hK;obtain⟨x33,x34,x35,x36,x40,x41,x42,x43,x44,b,vF,nF,xF,vN,nN,xN,vR,nR,xR,ls,c2,c3,ha,HR,H3,H4,H5,h9,H6,h3,H2,h8,h4,h7,H1,H0,B2n,B2,B3n,B3,HB,HM,HT⟩:=h;have DH11:=h8.out (yH (h0 ⟨11,.data⟩ (by simp) rfl));have DH6:=H6.out (yH (h0 ⟨6,.chain⟩ (by simp) rfl));obtain⟨H8,g5,rfl,a1⟩:=DH11;obtain⟨g10,rfl,e40,rfl,rfl⟩:=H2.out H8;obtain⟨rfl,rfl,rfl⟩:=h4.out h5;subst ha;rw[ha0];simp only[yJ,List.foldl_cons,List.foldl_nil,Act.put,sPa,sPb,sPc];refine mR (by simp[Region.wanted]) (.tmp 38) (.tmp 41) 40 rfl vU 1 g5 1 rfl HM rfl rfl rfl rfl ?g112 ?g212 ?g312 a1 rfl ?_
  case g112=>show q+1<=maxLen;unfold maxLen;omega
  case g212=>show (q+1)*24<=140737488355328;omega
  case g312=>exact hbase
  intro sa sc w6 a2 H7;refine hK.out _ _ ?_;refine⟨x33,x34,x35,x36,x40,(.slice (some ⟨g5,0,none⟩) 1 1),(.slice sa (q+1) sc),x43,x44,b,vF,nF,xF,(.slice sa (q+1) sc),(q+1),(hs++[Value.slice (some ⟨g10,0,none⟩) letters letters]),(Value.slice (some ⟨g10,0,none⟩) letters letters),letters,(List.replicate letters (.int .i64 0)),ls,c2,c3,?fa12,fun j hj=>zS (HR j hj),(hsP H3),(hsQ H4),(hsQ H5),(hsN h9),(hsQ H6),(hsN h3),Kh (fun _=>⟨g10,rfl,e40,rfl,rfl⟩),Kh (fun _=>⟨zS H8,g5,rfl,a1⟩),Kh (fun h=>uD h),Kh (fun _=>⟨zS (yH (h0 ⟨6,.chain⟩ (by simp) rfl)),zS H8,sa,sc,rfl,rfl,rfl,rfl⟩),(hsP H1),(hsP H0),(hsN B2n),(hsB B2 h5),(hsN B3n),(hsA B3 h5),zB HB H7 (fun e=>HM.not_type HB (by simp) 1 _ rfl e),a2,HT.kept H7 (fun k e=>by have:=((HM.own 1 _ rfl).lt k e).1;simp only at this;omega)⟩
  case fa12=>rw[ha0];simp only[yJ,List.foldl_cons,List.foldl_nil,Act.put,sPa,sPb,sPc]
 case s13 =>
  intro l a w h h5 h0 K hK;obtain⟨x33,x34,x35,x36,x40,x41,x42,x43,x44,b,vF,nF,xF,vN,nN,xN,vR,nR,xR,ls,c2,c3,ha,HR,H3,H4,H5,h9,H6,h3,H2,h8,h4,h7,H1,H0,B2n,B2,B3n,B3,HB,HM,HT⟩:=h;subst ha;rw[ha0];simp only[yJ,List.foldl_cons,List.foldl_nil,Act.put,sPa,sPb,sPc];go_simp;refine hK.out _ _ ?_;refine⟨x33,x34,x35,x36,x40,x41,x42,(.pointer (some ⟨P+1,2,none⟩)),x44,b,vF,nF,xF,vN,nN,xN,vR,nR,xR,ls,c2,c3,?fa13,fun j hj=>zS (HR j hj),(hsP H3),(hsQ H4),(hsQ H5),(hsN h9),(hsQ H6),(hsN h3),(hsP H2),(hsQ h8),(hsN h4),(hsR h7),Kh (fun _=>rfl),(hsP H0),(hsN B2n),(hsR B2),(hsN B3n),(hsR B3),HB,HM,HT⟩
  case fa13=>rw[ha0];simp only[yJ,List.foldl_cons,List.foldl_nil,Act.put,sPa,sPb,sPc]
 case s14 =>
  intro l a w h h5 h0 K hK;obtain⟨x33,x34,x35,x36,x40,x41,x42,x43,x44,b,vF,nF,xF,vN,nN,xN,vR,nR,xR,ls,c2,c3,ha,HR,H3,H4,H5,h9,H6,h3,H2,h8,h4,h7,H1,H0,B2n,B2,B3n,B3,HB,HM,HT⟩:=h;have DH13:=H1.out (yH (h0 ⟨13,.data⟩ (by simp) rfl));have DH6:=H6.out (yH (h0 ⟨6,.data⟩ (by simp) rfl));have DH12:=h7.out (yH (h0 ⟨12,.chain⟩ (by simp) rfl));subst DH13;obtain⟨H9,sa,sc,rfl,rfl,rfl,rfl⟩:=DH6;have a4:=yH (h0 ⟨6,.data⟩ (by simp) rfl);subst ha;rw[ha0];simp only[yJ,List.foldl_cons,List.foldl_nil,Act.put,sPa,sPb,sPc];obtain⟨k0,k1,k2,k3⟩:=zF HB;have kf:=zE HB 2;clear k0 k1;go_simp;have H7:=zC w ⟨P+1,2,none⟩ (.slice sa (q+1) sc);have a3:=heap_setCell_same w (P+1) 2 _ _ (.slice sa (q+1) sc) HB;refine hK.out _ _ ?_;refine⟨x33,x34,x35,(.slice sa (q+1) sc),x40,x41,x42,(.pointer (some ⟨P+1,2,none⟩)),x44,b,(.slice sa (q+1) sc),(q+1),(bls fs++[Value.bool (decide (b=1))]),vN,nN,xN,vR,nR,xR,ls,(.slice sa (q+1) sc),c3,?fa14,fun j hj=>zS (HR j hj),(hsP H3),(hsQ H4),(hsQ H5),Kh (fun h=>by rw[zS a4]at h;cases h),Kh (fun _=>⟨zS H9,sa,sc,rfl,rfl,rfl,rfl⟩),(hsN h3),(hsP H2),(hsQ h8),(hsN h4),(hsR h7),Kh (fun _=>rfl),(hsP H0),Kh (fun h=>uD h),Kh (fun _=>⟨zS (yH (h0 ⟨6,.data⟩ (by simp) rfl)),zS (yH (h0 ⟨12,.chain⟩ (by simp) rfl)),rfl⟩),(hsN B3n),(hsB B3 h5),(by simpa using a3),HM.far H7 (by rw[HFF];exact Or.inr (Or.inr rfl)) hQW (HM.not_type HB (by simp)),HT.kept H7 (fun k e=>by have e:P+1=k:=Oj e;omega)⟩
  case fa14=>rw[ha0];simp only[yJ,List.foldl_cons,List.foldl_nil,Act.put,sPa,sPb,sPc]
 case s15 =>
  intro l a w h h5 h0 K hK;obtain⟨x33,x34,x35,x36,x40,x41,x42,x43,x44,b,vF,nF,xF,vN,nN,xN,vR,nR,xR,ls,c2,c3,ha,HR,H3,H4,H5,h9,H6,h3,H2,h8,h4,h7,H1,H0,B2n,B2,B3n,B3,HB,HM,HT⟩:=h;subst ha;rw[ha0];simp only[yJ,List.foldl_cons,List.foldl_nil,Act.put,sPa,sPb,sPc];go_simp;refine hK.out _ _ ?_;refine⟨x33,x34,x35,x36,x40,x41,x42,x43,(.pointer (some ⟨P+1,3,none⟩)),b,vF,nF,xF,vN,nN,xN,vR,nR,xR,ls,c2,c3,?fa15,fun j hj=>zS (HR j hj),(hsP H3),(hsQ H4),(hsQ H5),(hsN h9),(hsQ H6),(hsN h3),(hsP H2),(hsQ h8),(hsN h4),(hsR h7),(hsP H1),Kh (fun _=>rfl),(hsN B2n),(hsR B2),(hsN B3n),(hsR B3),HB,HM,HT⟩
  case fa15=>rw[ha0];simp only[yJ,List.foldl_cons,List.foldl_nil,Act.put,sPa,sPb,sPc]
 case s16 =>
  intro l a w h h5 h0 K hK;obtain⟨x33,x34,x35,x36,x40,x41,x42,x43,x44,b,vF,nF,xF,vN,nN,xN,vR,nR,xR,ls,c2,c3,ha,HR,H3,H4,H5,h9,H6,h3,H2,h8,h4,h7,H1,H0,B2n,B2,B3n,B3,HB,HM,HT⟩:=h;have DH15:=H0.out (yH (h0 ⟨15,.data⟩ (by simp) rfl));have DH12:=h7.out (yH (h0 ⟨12,.data⟩ (by simp) rfl));have DB2:=B2.out (yH (h0 ⟨14,.chain⟩ (by simp) rfl));subst DH15;obtain⟨a4,H8,sa,sc,rfl,rfl,rfl,rfl⟩:=DH12;have a5:=yH (h0 ⟨12,.data⟩ (by simp) rfl);subst ha;rw[ha0];simp only[yJ,List.foldl_cons,List.foldl_nil,Act.put,sPa,sPb,sPc];obtain⟨k0,k1,k2,k3⟩:=zF HB;have kf:=zE HB 3;clear k0 k1;go_simp;have H7:=zC w ⟨P+1,3,none⟩ (.slice sa (q+1) sc);have a3:=heap_setCell_same w (P+1) 3 _ _ (.slice sa (q+1) sc) HB;refine hK.out _ _ ?_;refine⟨x33,x34,x35,x36,x40,x41,(.slice sa (q+1) sc),x43,(.pointer (some ⟨P+1,3,none⟩)),b,vF,nF,xF,(.slice sa (q+1) sc),(q+1),(hs++[vR]),vR,nR,xR,ls,c2,(.slice sa (q+1) sc),?fa16,fun j hj=>zS (HR j hj),(hsP H3),(hsQ H4),(hsQ H5),(hsN h9),(hsQ H6),(hsN h3),(hsP H2),(hsQ h8),Kh (fun h=>by rw[zS a5]at h;cases h),Kh (fun _=>⟨zS a4,zS H8,sa,sc,rfl,rfl,rfl,rfl⟩),(hsP H1),Kh (fun _=>rfl),(hsN B2n),(hsR B2),Kh (fun h=>uD h),Kh (fun _=>⟨zS (yH (h0 ⟨12,.data⟩ (by simp) rfl)),zS (yH (h0 ⟨14,.chain⟩ (by simp) rfl)),rfl⟩),(by simpa using a3),HM.far H7 (by rw[HFF];exact Or.inr (Or.inr rfl)) hQW (HM.not_type HB (by simp)),HT.kept H7 (fun k e=>by have e:P+1=k:=Oj e;omega)⟩
  case fa16=>rw[ha0];simp only[yJ,List.foldl_cons,List.foldl_nil,Act.put,sPa,sPb,sPc]
theorem eJ (B tb:Nat)(w:World)(letters most:Nat)(h1:1<=letters)(h6:letters<=6)(hm1:1<=most)(hm:most<=500)(hT:xL B w tb):Calls Try.prog 48 #[.pointer (some ⟨tb,0,none⟩),.int .i64 (letters:Int),.int .i64 (most:Int)] w (jT qDS B tb w letters most):=by
 have o6:=hT.lt;have z9:=hT.ge;obtain⟨wA,l4⟩:∃wA,wA=(w.alloc (.cells #[.int .i64 0,.int .i64 0,.slice none 0 0,.slice none 0 0] 42)).alloc (.cells #[.int .i64 letters,.int .i64 0,.slice none 0 0,.slice none 0 0] 42):=⟨_,rfl⟩;obtain⟨i8,i7,i3,o0⟩:=sZ w #[.int .i64 0,.int .i64 0,.slice none 0 0,.slice none 0 0] #[.int .i64 letters,.int .i64 0,.slice none 0 0,.slice none 0 0] 42;rw[<-l4]at i8 i7 i3 o0;obtain⟨P,hP⟩:∃P,P=w.heap.size:=⟨_,rfl⟩;have a2:=Kh hP;rw[<-hP]at i8 i7 o0 o6;have q9:=hT.kept i3 (by simp);have n3:=Kh i8;have B8:=Kh i7;have B4:=Kh i3;have A0:=Kh l4;have A4:=Kh q9;clear i8 i7 i3 l4 q9 hT;go_enter Try.func48,Try.ntmps48;go_upto_region 2 with fail;rw[<-A0.out,<-a2.out];clear hP;go_wp2_with fail;refine(wW B tb _ _ (by omega) A4.out).mono ?_;rintro e w1 ⟨r,rfl,x8,k2,r3,q5⟩;replace k2:=k2 (by omega);obtain⟨n,rfl⟩:∃n:Nat,r=(n:Int)-1:=⟨(r+1).toNat,by omega⟩;have y8:1<=n:=by omega
 have y7:n<=most:=by omega
 have y9:(1:Int)+((n:Int)-1)=n:=by omega
 have s3:=Kh r3;have t2:=Kh q5;have D2:=Kh y9;clear x8 k2 r3 q5;go_wp2_with fail;refine(wW B tb _ _ (by omega) s3.out).mono ?_;rintro e w2 ⟨s,rfl,x7,k0,r2,q4⟩;replace k0:=k0 (by omega);obtain⟨s,rfl⟩:∃s':Nat,s=s':=⟨s.toNat,by omega⟩;have b3:=zD t2.out q4;have i6:=zB B8.out b3 (by simp;omega);obtain⟨c0,c1,c2,c3⟩:=zF i6;have f1:=frozen_of_row w2 (P+1) 1 _ _ i6;have s2:=Kh r2;have m8:=Kh b3;clear r2 q4 b3 s3 t2;go_wp2;obtain⟨w3,g9⟩:∃w3,w3=w2.setCell ⟨P+1,1,none⟩ (.int .i64 (s:Int)):=⟨_,rfl⟩;have q8:w3.heap[P+1]?=some (.cells #[.int .i64 (letters:Int),.int .i64 (s:Int),.slice none 0 0,.slice none 0 0] 42 (0,0)):=by rw[g9,heap_setCell_same w2 (P+1) 1 _ _ _ i6];simp
 have i4:w2.grownBy w3 (some (P+1)):=by rw[g9];exact zC w2 ⟨P+1,1,none⟩ _
 have f8:=zB (zB n3.out m8.out (by simp;omega)) i4 (by simp);have r1:=s2.out.kept i4 (fun k e=>by have:=Oj e;subst this;omega);have q0:w.grownBy w3 (some tb):=zA (zD (zA (zH w (some tb)) B4.out (by simp)) m8.out) i4 (fun x e=>by have:=Oj e;have:=a2.out;omega);have r6:Half (P+1) w3 (P+1) letters s [] [] [] none 0 none 0:=⟨q8,World.ownsRow_nil _ _ _ _,World.ownsRow_nil _ _ _ _,OwnsT.nil⟩;have H3:=Kh r6;have t6:=Kh f8;have s1:=Kh r1;have c9:=Kh q0;rw[<-g9];clear g9 q8 i4 f8 r1 q0 r6 c0 c1 c2 c3 f1 i6 s2 m8;have p1:=mk_int letters (by omega)
 have d9:Hid (madeCells #[.int .i64 0] letters=(List.replicate letters (Value.int .i64 0)).toArray):=Kh (by
  apply Array.toList_inj.1
  rw[made_int];simp[nats])
 go_loopg [9] n (fun gh i wr=>∃(q:Nat) (fs:List Bool) (t:List (List Int)) (hs:List Value) (sf:Option Addr) (cf:Nat) (sn:Option Addr) (cn:Nat),gh+q=n/\i=.int .i64 q/\fs.length=q/\t.length=q/\qN t n letters/\Half (P+1) wr (P+1) letters s fs t hs sf cf sn cn/\xL B wr tb/\wr.heap[P]?=some (.cells #[.int .i64 0,.int .i64 0,.slice none 0 0,.slice none 0 0] 42 (0,0))/\w.grownBy wr (some tb))
 case atStart=>exact⟨0,[],[],[],none,0,none,0,by omega,rfl,rfl,rfl,(fun r hr=>by simp at hr),H3.out,s1.out,t6.out,c9.out⟩
 case round =>
  obtain⟨q,fs,t,hs,sf,cf,sn,cn,hg,rfl,q6,a5,a6,hH,a8,H9,h8⟩:=hrel;have HG:=Kh hg;have i9:=Kh a8;have a4:=Kh H9;have j1:=Kh h8;have l9:=Kh a6;have g6:=Kh q6;have c8:=Kh a5;have HH:=Kh hH;clear hg a8 H9 h8 a6 q6 a5 hH H3 t6 s1 c9;by_cases hq:q<n
  ·have y6:(q:Int)<n:=by omega
   obtain⟨w5,j6⟩:∃w5,w5=wr.drew:=⟨_,rfl⟩;have f5:wr.grownBy w5 none:=(by rw[j6];exact zO wr none);have A1:=Kh j6;have H0:=Kh (HH.out.grow f5);have b5:=Kh (i9.out.kept f5 (by simp));have j2:=Kh (zA j1.out f5 (by simp));have n3:=Kh (zB a4.out f5 (by simp));have a9:Hid (w5.heap[P+1]?=some (.cells #[.int .i64 letters,.int .i64 s,.slice sf q cf,.slice sn q cn] 42 (0,0))):=Kh (by have:=H0.out.box;rw[g6.out,c8.out]at this;exact this);obtain⟨d0,d1,d2,d3⟩:=zF a9.out;have C:=Kh (And.intro d2 d3);have z7:=zK a9.out;have x6:Hid (tb<w5.heap.size):=Kh (by omega);have z8:Hid (P+1<w5.heap.size):=Kh z7;have f7:Hid (P+1<=w5.heap.size):=Kh (by omega);obtain⟨FF,l5⟩:∃FF:Nat->Prop,FF=fun k=>FB sf sn k\/k=tb\/k=P+1:=⟨_,rfl⟩
   have A6:Hid (Many w5 FF w5 [⟨P+1,4,.slice sf q cf,q,bls fs,1⟩,⟨P+1,34,.slice sn q cn,q,hs,1⟩,⟨P+1,3,.slice none 0 0,0,[],1⟩] [] []):=Kh (by
    have hF:=H0.out.ownF;have hN:=H0.out.ownN;rw[g6.out]at hF;rw[c8.out]at hN;refine Many.start (fun r hr=>?_) (fun r hr k hk=>?_) ?_
    ·simp only[List.mem_cons,List.not_mem_nil,or_false]at hr
     rcases hr with rfl|rfl|rfl
     ·exact hF
     ·exact hN
     ·exact World.ownsRow_nil _ _ _ _
    ·simp only[List.mem_cons,List.not_mem_nil,or_false]at hr
     rw[l5];rcases hr with rfl|rfl|rfl
     ·exact .inl (.inr (by rw[<-zR sf q cf];exact hk))
     ·exact .inl (.inl (by rw[<-zR sn q cn];exact hk))
     ·simp[Value.ownBlock]at hk
    ·simp only[List.pairwise_cons,List.mem_cons,List.not_mem_nil,or_false,forall_eq_or_imp,forall_eq]
     exact⟨⟨own_apart hF hN (by decide),by simp[Value.ownBlock]⟩,by simp[Value.ownBlock],by simp,List.Pairwise.nil⟩)
   clear d0 d1 d2 d3 j6 f5;have n0:=Kh l5;clear l5;go_upto_region 7 with fail;refine wp_region_noPanic ?_;refine yY (G:=uI 14 (fun _=>True) (fun W=>W.cell? ⟨P+1,2,none⟩=some (.slice sf q cf)/\W.cell? ⟨P+1,3,none⟩=some (.slice sn q cn))) (by kernel_rfl) ?_;rw[<-A1.out];refine zV 0 ⟨trivial,fun _=>C.out⟩ ?_;refine uA 1 ⟨trivial,fun _=>C.out⟩ ?_;refine zV 2 ⟨trivial,fun _=>C.out⟩ ?_;refine zV 7 ⟨trivial,fun _=>C.out⟩ ?_;refine uA 8 ⟨trivial,fun _=>C.out⟩ ?_;refine zV 9 ⟨trivial,fun _=>C.out⟩ ?_;refine iP (fun Wp hWp a0 ha0=>?_);subst hWp
   try simp only[Act.put,sPd,sPe,sPf,sPa,sPb,sPc]at ha0
   have B9:=Kh ha0;refine iO (I:=perm7I B tb P letters q s fs hs sf cf sn cn w5 FF a0) (fun l a w h=>perm7_G h) (perm7_steps ha0 z9 o6 h6 (by omega) x6.out z8.out f7.out n0.out p1 d9) (by kernel_rfl) ?hend (by decide +kernel) ?hinit
   case hinit =>
    clear ha0;refine⟨a0.tmps.getD 33 undef,a0.tmps.getD 34 undef,a0.tmps.getD 35 undef,a0.tmps.getD 36 undef,a0.tmps.getD 40 undef,a0.tmps.getD 41 undef,a0.tmps.getD 42 undef,a0.tmps.getD 43 undef,a0.tmps.getD 44 undef,0,.slice sf q cf,q,bls fs,.slice sn q cn,q,hs,.slice none 0 0,0,[],[],.slice sf q cf,.slice sn q cn,(nT (by simp)).symm,by decide +kernel,Kh (fun h=>absurd h (by decide +kernel)),Kh (fun h=>absurd h (by decide +kernel)),Kh (fun h=>absurd h (by decide +kernel)),Kh (fun _=>⟨rfl,rfl,rfl⟩),Kh (fun h=>absurd h (by decide +kernel)),Kh (fun _=>⟨rfl,rfl,rfl⟩),Kh (fun h=>absurd h (by decide +kernel)),Kh (fun h=>absurd h (by decide +kernel)),Kh (fun _=>⟨rfl,rfl,rfl⟩),Kh (fun h=>absurd h (by decide +kernel)),Kh (fun h=>absurd h (by decide +kernel)),Kh (fun h=>absurd h (by decide +kernel)),Kh (fun _=>rfl),Kh (fun h=>absurd h (by decide +kernel)),Kh (fun _=>rfl),Kh (fun h=>absurd h (by decide +kernel)),a9.out,A6.out,b5.out⟩
   case hend =>
    clear ha0;intro l a w h h5;obtain⟨x33,x34,x35,x36,x40,x41,x42,x43,x44,b,vF,nF,xF,vN,nN,xN,vR,nR,xR,ls,c2,c3,ha,HR,H3,H4,H5,C0,H6,n8,n9,n7,n6,g7,n5,n4,B2n,B2,B3n,B3,HB,HM,HT⟩:=h;have H3:=H3.out (h5 3 (by decide));have H4:=H4.out (h5 4 (by decide));have H5:=H5.out (h5 5 (by decide));have H6:=H6.out (h5 6 (by decide));have n9:=n9.out (h5 10 (by decide));have n7:=n7.out (h5 11 (by decide));have g7:=g7.out (h5 12 (by decide));have n5:=n5.out (h5 13 (by decide));have n4:=n4.out (h5 15 (by decide));have B2:=B2.out (h5 14 (by decide));have B3:=B3.out (h5 16 (by decide));have H6:=H6.2;have g7:=g7.2.2;obtain⟨sa,sc,rfl,rfl,y0,rfl⟩:=H6;obtain⟨g10,rfl,rfl,k4,rfl⟩:=n9;obtain⟨sa2,sc2,rfl,rfl,k3,rfl⟩:=g7;subst y0;subst k4;subst k3;have e2:=B2.2.2;have e3:=B3.2.2;rw[e2,e3]at HB
    have d7:∀k,FF k->zX w5 3 k:=by
     intro k hk;rw[n0.out]at hk;rcases hk with (hk|hk)|rfl|rfl
     ·exact yF H0.out.ownN (by decide) k (by rw[zR];exact hk)
     ·exact yF H0.out.ownF (by decide) k (by rw[zR];exact hk)
     ·obtain⟨sl,zs,j,hr,_⟩:=b5.out
      exact⟨_,_,_,hr,by decide⟩
     ·exact⟨_,_,_,a9.out,by decide⟩
    have k9:∀k,FF k->k=tb\/P+1<=k:=by
     intro k hk;rw[n0.out]at hk;rcases hk with (hk|hk)|rfl|rfl
     ·exact .inr (H0.out.ownN.lt k (by rw[zR];exact hk)).1
     ·exact .inr (H0.out.ownF.lt k (by rw[zR];exact hk)).1
     ·exact .inl rfl
     ·exact .inr (Nat.le_refl _)
    have r4:=H0.out.ofMany g6.out c8.out (row:=List.replicate letters 0) (k:=letters) (by simp) (by simpa [ints] using HM) d7 HB;have A7:=Kh r4;have A2:=Kh HT
    have A9:=Kh (HM.but.grown j2.out (fun k hk=>by
     rcases k9 k hk with e|e
     ·exact .inl (by rw[e])
     ·exact .inr (by have:=a2.out;omega)))
    have B6:=Kh (HM.but.heap n3.out (fun hk=>by
     rcases k9 P hk with e|e
     ·omega
     ·omega))
    clear r4 HM HB HT d7 k9 e2 e3 B2 B3 H3 H4 H5 n7 n5 n4 B2n B3n C0 n8 n6 HR;subst ha;rw[B9.out];simp only[yJ,List.foldl_cons,List.foldl_nil,Act.put,sPa,sPb,sPc];refine NoPanic.normal ?_;go_wp2;go_roundg (n-(q+1))
    case measure=>have:=HG.out;omega
    case rel =>
     refine⟨q+1,fs++[decide (b=1)],t++[List.replicate letters 0],_,sa,sc,sa2,sc2,by omega,by go_num,by simp[g6.out],by simp[c8.out],?_,A7.out,A2.out,B6.out,A9.out⟩;intro r hr;rcases List.mem_append.1 hr with hr|hr
     ·exact l9.out r hr
     ·rw[List.mem_singleton]at hr
      subst hr;exact⟨by simp,fun x hx=>by rw[List.mem_replicate]at hx;omega⟩
  ·have x9:q=n:=by have:=HG.out;omega
   subst x9;clear HG p1 d9;obtain⟨wo,o1⟩:∃wo,wo=wr:=⟨_,rfl⟩;rw[<-o1]at i9 a4 j1 HH⊢;clear o1 wr;go_wp2
   go_loopg [10,11,12,13,14] letters (fun gh ia v11 v12 v13 v14 wr=>∃(a:Nat) (t:List (List Int)),gh+a=letters/\ia=.int .i64 a/\t.length=q/\qN t q letters/\(∀a',a'<a->∀q1 q2,q1<q->q2<q->ent t q1 a'=ent t q2 a'->q1=q2)/\Half (P+1) wr (P+1) letters s fs t hs sf cf sn cn/\xL B wr tb/\wr.heap[P]?=some (.cells #[.int .i64 0,.int .i64 0,.slice none 0 0,.slice none 0 0] 42 (0,0))/\w.grownBy wr (some tb))
   case atStart=>exact⟨0,t,by omega,rfl,c8.out,l9.out,fun a' h=>by omega,HH.out,i9.out,a4.out,j1.out⟩
   case round =>
    obtain⟨a,t,hg,rfl,a5,a6,d6,hH,a8,H9,h8⟩:=hrel;have HG:=Kh hg;have a1:=Kh a8;have h0:=Kh H9;have b9:=Kh h8;have g2:=Kh a6;have a3:=Kh a5;have b7:=Kh hH;have g4:=Kh d6;clear hg a8 H9 h8 a6 a5 hH d6 c8 l9 HH i9 a4 j1;by_cases ha:a<letters
    ·have C9:(a:Int)<letters:=by omega
     obtain⟨w9,o4⟩:∃w9,w9=wr:=⟨_,rfl⟩;rw[<-o4]at a1 h0 b9 b7⊢;clear o4 wr;go_wp2
     go_loopg [11,12] q (fun gh lv i wx=>∃(c:Nat) (sl:Option Addr) (cl:Nat),gh+c=q/\i=.int .i64 c/\lv=.slice sl c cl/\wx.ownsRow w9.heap.size 3 1 (.slice sl c cl) c (ints ((List.range c).map fun(x:Nat)=>(x:Int)))/\w9.grownBy wx none)
     case atStart=>exact⟨0,none,0,by omega,rfl,rfl,World.ownsRow_nil _ _ _ _,zH _ _⟩
     case round =>
      obtain⟨c,sl,cl,hg,rfl,rfl,H2,p9⟩:=hrel;have c9:=Kh hg;have g5:=Kh H2;have c7:=Kh p9;clear hg H2 p9;by_cases hc:c<q
      ·have C7:(c:Int)<q:=by omega
       have g8:=c7.out.size;go_wp2_with (first|(at_builtin;refine app1 rfl _ _ _ rfl yP w9.heap.size _ c _ rfl g5.out _ rfl rfl ?c1 ?c2 ?c3 ?_)|fail)
       case c1=>unfold maxLen;omega
       case c2=>omega
       case c3=>exact g8
       intro sl' cl' w10 H1 f6 p2;have m3:=Kh H1;have m9:=Kh (zA c7.out f6 (fun k e=>(g5.out.lt k e).1));clear H1 f6;go_wp2;go_roundg (q-(c+1))
       case measure=>have:=c9.out;omega
       case rel =>
        refine⟨c+1,sl',cl',by omega,by go_num,rfl,?_,m9.out⟩;rw[List.range_succ,List.map_append,show ints (List.map (fun(x:Nat)=>(x:Int)) (List.range c)++List.map (fun(x:Nat)=>(x:Int)) [c])=ints (List.map (fun(x:Nat)=>(x:Int)) (List.range c))++[.int .i64 (c:Int)] by simp[ints]];exact m3.out
      ·have z6:c=q:=by have:=c9.out;omega
       subst z6;have f4:=c7.out;have m5:=Kh (b7.out.grow f4);have b4:=Kh (a1.out.kept f4 (by simp));have n2:=Kh (zB h0.out f4 (by simp));have m7:=Kh (zA b9.out f4 (by simp))
       have q3:∀q',q'<c->∀g cc n',hs[q']?=some (.slice (some ⟨g,0,none⟩) n' cc)->g<w9.heap.size:=fun q' y6 g cc n' e=>by
        obtain⟨hi,he⟩:=List.getElem?_eq_some_iff.1 e;exact(b7.out.rows.lt hi (by rw[he];rfl)).2
       have B1:=Kh q3;have g8:=c7.out.size;have j7:=a1.out.lt;clear f4 q3 c9;obtain⟨wi,o2⟩:∃wi,wi=wr:=⟨_,rfl⟩;rw[<-o2]at g5 c7 m5 b4 n2 m7 g8⊢;clear o2 wr;go_wp2
       go_loopg [11,13,14] c (fun gh lv i kv wy=>∃(p:Nat) (t:List (List Int)) (L:List Int) (sl:Option Addr) (cl:Nat),gh+p=c/\i=.int .i64 p/\lv=.slice sl L.length cl/\wy.ownsRow w9.heap.size 3 1 (.slice sl L.length cl) L.length (ints L)/\PermTo t c p a L/\t.length=c/\qN t c letters/\Half (P+1) wy (P+1) letters s fs t hs sf cf sn cn/\xL B wy tb/\wy.heap[P]?=some (.cells #[.int .i64 0,.int .i64 0,.slice none 0 0,.slice none 0 0] 42 (0,0))/\w.grownBy wy (some tb)/\w9.heap.size<=wy.heap.size)
       case atStart=>exact⟨0,t,(List.range c).map fun(x:Nat)=>(x:Int),sl,cl,by omega,rfl,by simp,by simpa using g5.out,PermTo.begin g4.out,a3.out,g2.out,m5.out,b4.out,n2.out,m7.out,g8⟩
       case round =>
        obtain⟨p,t,L,sl,cl,hg,rfl,rfl,H2,k5,a5,a6,hH,a8,q7,h8,o7⟩:=hrel;have j2:=Kh hg;have s5:=Kh H2;have g3:=Kh k5;have b6:=Kh a6;have H0:=Kh hH;have b5:=Kh a8;have a9:=Kh q7;have b8:=Kh h8;have h7:=Kh a5;have s6:=Kh k5.len;clear hg H2 k5 a6 hH a8 q7 h8 a5 m5 b4 n2 m7 g5 c7;by_cases hp:p<c
        ·have C2:(p:Int)<c:=by omega
         have D0:1<=L.length:=by have:=s6.out;omega
         have D1:L.length<=500:=by have:=s6.out;omega
         go_wp2_with fail;refine(wW B tb _ _ (by omega) b5.out).mono ?_;rintro e w6 ⟨k,rfl,C3,p8,r0,c6⟩;replace p8:=p8 (by omega);obtain⟨k,rfl⟩:∃k':Nat,k=k':=⟨k.toNat,by omega⟩;have i1:k<L.length:=(by omega);have r5:=H0.out.tape b5.out c6;have p0:=zY s5.out c6 (by simpa using j7);have s8:=Kh r5;have s0:=Kh r0;have s4:=Kh p0;have t1:=Kh (zD b8.out c6);have t5:=Kh (zB a9.out c6 (by simp;have:=a2.out;omega));have d5:=Nat.le_trans o7 c6.size;clear r5 r0 p0 c6 b5 s5 H0 a9 b8 o7;have k1:(t.getD p []).length=letters:=(b6.out _ (mG (by have:=h7.out;omega))).1;obtain⟨w7,j5⟩:∃w7,w7=w6.drew:=⟨_,rfl⟩;have b2:w6.grownBy w7 none:=(by rw[j5];exact zO w6 none);have r7:=Kh j5;have j0:=Kh (s8.out.grow b2);have r9:=Kh (s0.out.kept b2 (by simp));have m2:=Kh (zY s4.out b2 (by simp));have t0:=Kh (zA t1.out b2 (by simp));have t4:=Kh (zB t5.out b2 (by simp));have d4:=Nat.le_trans d5 b2.size;clear j5 b2 s8 s0 s4 t1 t5 d5;obtain⟨lb,rfl,p7,k8,g0⟩:=yG m2.out (by omega);obtain⟨kb,g,cc,rfl,e1,e2,e3,e4,e5,e6,e7,e8⟩:=j0.out.at (q:=p) (by have:=h7.out;omega) (by omega);have H8:=j0.out.box;rw[h7.out]at H8;obtain⟨d0,d1,d2,d3⟩:=zF H8;rw[k1]at e3 e4 e5;rw[h7.out]at e1;have H7:=g0.int k i1;obtain⟨x,j4⟩:∃x,x=L.getD k 0:=⟨_,rfl⟩;rw[<-j4]at H7;have HX:=Kh j4;have i5:=e8.frozen a;have E3:=Kh e3;have E8:=Kh e8;have C4:cn<=9223372036854775807:=by unfold maxLen at e2;omega
         have C6:cc<=9223372036854775807:=by unfold maxLen at e6;omega
         have C5:cl<=9223372036854775807:=by unfold maxLen at k8;omega
         have z4:=B1.out p (by omega) g cc _ e3;have p3:letters<=6:=h6;have z3:(k:Int)<(L.length:Nat):=(by omega);have C:=Kh (And.intro d3 (And.intro e4 (And.intro H7 i5)));have l8:=Kh k1;clear d0 d1 d2 d3 e3 e4 e8 g0 H7 i5 j4 H8 k1 e2 e6;go_upto_region 20 with fail;refine wp_region_noPanic ?_;refine yY (G:=uI 11 (fun _=>True) (fun W=>W.cell? ⟨P+1,3,none⟩=some (.slice (some ⟨kb,0,none⟩) c cn)/\W.cell? ⟨kb,p,none⟩=some (.slice (some ⟨g,0,none⟩) letters cc)/\W.cell? ⟨lb,k,none⟩=some (.int .i64 x)/\W.frozen? ⟨g,a,none⟩=false)) (by kernel_rfl) ?_;rw[<-r7.out];refine zV 0 ⟨trivial,fun _=>C.out⟩ ?_;refine uA 1 ⟨trivial,fun _=>C.out⟩ ?_;refine zV 2 ⟨trivial,fun _=>C.out⟩ ?_;refine zV 3 ⟨trivial,fun _=>C.out⟩ ?_;refine uA 4 ⟨trivial,fun _=>C.out⟩ ?_;refine zV 5 ⟨trivial,fun _=>C.out⟩ ?_;refine zV 6 ⟨trivial,fun _=>C.out⟩ ?_;refine zV 7 ⟨trivial,fun _=>C.out⟩ ?_;refine zV 8 ⟨trivial,fun _=>C.out⟩ ?_;refine uA 9 ⟨trivial,fun _=>C.out⟩ ?_;refine zV 10 ⟨trivial,fun _=>C.out⟩ ?_;refine oneG (i:=11) (by kernel_rfl) rfl (fun K hK=>?_);have i5:=C.out.2.2.2;have z5:=E8.out.int a (by rw[l8.out];exact ha);go_simp;refine hK.out _ _ ⟨trivial,fun h=>by simp at h⟩ ?_;clear hK K
         try simp only[Act.put,sPa,sPb,sPc]
         refine rP (by kernel_rfl) ?_ _;refine NoPanic.normal ?_;have c5:=zC w7 ⟨g,a,none⟩ (.int .i64 x);have m4:=Kh (j0.out.poke E3.out E8.out (by rw[l8.out];exact ha) x);have l7:=Kh (r9.out.kept c5 (fun k e=>by have e:g=k:=Oj e;omega));have n1:=Kh (zB t4.out c5 (fun e=>by have e:g=P:=Oj e;omega));have m6:=Kh (zA t0.out c5 (fun k e=>by have e:g=k:=Oj e;have:=a2.out;omega));have m1:=Kh (zY m2.out c5 (fun k e=>by have e:g=k:=Oj e;omega));have b1:w9.heap.size<=(w7.setCell ⟨g,a,none⟩ (.int .i64 x)).heap.size:=Nat.le_trans d4 c5.size;obtain⟨w8,o5⟩:∃w8,w8=w7.setCell ⟨g,a,none⟩ (.int .i64 x):=⟨_,rfl⟩;rw[<-o5]at m4 l7 n1 m6 m1 b1⊢;obtain⟨wA2,b0⟩:∃wA2,wA2=w8.drew:=⟨_,rfl⟩;have h9:w8.grownBy wA2 none:=(by rw[b0];exact zO w8 none);have l6:=Kh b0;have s7:=Kh (m4.out.grow h9);have r8:=Kh (l7.out.kept h9 (by simp));have m0:=Kh (zY m1.out h9 (by simp));have s9:=Kh (zA m6.out h9 (by simp));have t3:=Kh (zB n1.out h9 (by simp));have j9:=Nat.le_trans b1 h9.size;clear z5 o5 c5 b0 h9 m4 l7 n1 m6 m1 b1 i5 C r7 j0 r9 m2 t0 t4 d4 E8 E3;go_upto_region 21 with fail;refine wp_region_noPanic ?_;refine yY (G:=uI 99 (fun _=>True) (fun _=>True)) (by kernel_rfl) ?_;rw[<-l6.out];have z2:k<=cl:=by omega
         have t8:IntKind.i64.wrap ((k:Int)+1)=(k:Int)+1:=IntWalk.i64_in _ (by omega);have l3:(0:Int)<=(k:Int)+1:=by omega
         have l2:(k:Int)+1<=(L.length:Nat):=by omega
         have t9:((k:Int)+1).toNat=k+1:=by omega
         refine zV 1 ⟨trivial,fun _=>trivial⟩ ?_;refine zV 2 ⟨trivial,fun _=>trivial⟩ ?_;refine zV 3 ⟨trivial,fun _=>trivial⟩ ?_;refine zV 5 ⟨trivial,fun _=>trivial⟩ ?_;refine zV 6 ⟨trivial,fun _=>trivial⟩ ?_;refine zV 7 ⟨trivial,fun _=>trivial⟩ ?_;refine zV 8 ⟨trivial,fun _=>trivial⟩ ?_;clear t8 l3 l2 t9
         generalize hEE:(if cl=k+1 then (some ⟨lb,0,none⟩:Option Addr) else some ⟨lb,k+1,none⟩)=EE
         have B5:=Kh hEE;clear hEE;refine oneG (i:=0) (by kernel_rfl) rfl (fun K hK=>?_);go_simp;refine hK.out _ _ ⟨trivial,fun _=>trivial⟩ ?_;clear hK K
         try simp only[Act.put,sPa,sPb,sPc]
         have i2:=heap_alloc_new wA2 (.cells #[] 3);have h8:=Ga wA2 (.cells #[] 3) none;have j3:=zL wA2 (.cells #[] 3);obtain⟨gN,l1⟩:∃gN,gN=wA2.heap.size:=⟨_,rfl⟩;obtain⟨wN,o3⟩:∃wN,wN=wA2.alloc (.cells #[] 3):=⟨_,rfl⟩;rw[<-o3]at i2 h8 j3⊢;rw[<-l1]at i2 j3⊢;have o9:=qE (base:=w9.heap.size) i2 (by omega);have k6:=zY m0.out h8 (by simp);have k7:lb<gN:=(by rw[l1];exact(m0.out.lt lb rfl).2);obtain⟨lb',e9,z1,z0,g0⟩:=yG k6 (by omega);have e9:lb=lb':=by simpa using e9
         subst e9;refine oneG (i:=4) (by kernel_rfl) rfl (fun K hK=>?_);refine qBE rfl (.tmp 79) (.tmp 82) 34 rfl yP w9.heap.size (.slice (some ⟨gN,0,none⟩) 0 0) 0 [] rfl o9 _ (ints (L.take k)) rfl ⟨_,row_front g0 (by omega) p7 k8⟩ ?x1 k ?x2 ?x3 ?x4 ?x5 ?_
         case x1=>intro u hu;obtain⟨y,_,rfl⟩:=List.mem_map.1 hu;rfl
         case x2=>rw[yE,List.length_take];omega
         case x3=>unfold maxLen;omega
         case x4=>omega
         case x5=>omega
         intro sb cb wM i0 a7;have d8:=k6.kept a7 (.inr (fun e=>Nat.ne_of_lt k7 (by simpa [Value.ownBlock] using e)));have t7:=a7.size;refine hK.out _ _ ⟨trivial,fun _=>trivial⟩ ?_;clear hK K
         try simp only[Act.put,sPa,sPb,sPc]
         rw[List.nil_append]at i0;obtain⟨lb',e9,p6,p5,f9⟩:=yG d8 (by omega);have e9:lb=lb':=by simpa using e9
         subst e9;refine oneG (i:=9) (by kernel_rfl) rfl (fun K hK=>?_);refine qBE rfl (.tmp 83) (.tmp 87) 34 rfl yP w9.heap.size (.slice sb k cb) k _ rfl i0 _ (ints (L.drop (k+1))) rfl ⟨_,by rw[<-B5.out];exact row_back f9 (by omega) p7 k8⟩ ?y1 (L.length-1) ?y2 ?y3 ?y4 ?y5 ?_
         case y1=>intro u hu;obtain⟨y,_,rfl⟩:=List.mem_map.1 hu;rfl
         case y2=>rw[yE,List.length_drop];omega
         case y3=>unfold maxLen;omega
         case y4=>omega
         case y5=>omega
         intro sd cd wQ o8 c4;refine hK.out _ _ ⟨trivial,fun _=>trivial⟩ ?_;clear hK K
         try simp only[Act.put,sPa,sPb,sPc]
         refine oneG (i:=10) (by kernel_rfl) rfl (fun K hK=>?_);go_simp;refine hK.out _ _ ⟨trivial,fun _=>trivial⟩ ?_;clear hK K
         try simp only[Act.put,sPa,sPb,sPc]
         refine rP (by kernel_rfl) ?_ _;refine NoPanic.normal ?_;have g1:=h8
         have lo:∀kk,(Value.slice (some ⟨gN,0,none⟩) 0 0).ownBlock=some kk->w9.heap.size<=kk/\P+2<=kk:=fun kk e=>by
          have e:gN=kk:=by simpa [Value.ownBlock] using e
          omega
         have lM:∀kk,(Value.slice sb k cb).ownBlock=some kk->w9.heap.size<=kk/\P+2<=kk:=fun kk e=>by
          have:=(i0.lt kk e).1;omega
         have A8:=Kh (((s7.out.grow h8).keptAbove b7.out (by rw[List.length_set,a3.out,h7.out]) a7 (fun kk e=>(lo kk e).1)).keptAbove b7.out (by rw[List.length_set,a3.out,h7.out]) c4 (fun kk e=>(lM kk e).1));have A3:=Kh (((r8.out.kept h8 (by simp)).kept a7 (fun kk e=>by have:=lo kk e;omega)).kept c4 (fun kk e=>by have:=lM kk e;omega));have B7:=Kh (zB (zB (zB t3.out h8 (by simp)) a7 (fun e=>by have:=lo P e;omega)) c4 (fun e=>by have:=lM P e;omega));have B0:=Kh (zA (zA (zA s9.out h8 (by simp)) a7 (fun kk e=>by have:=lo kk e;have:=a2.out;omega)) c4 (fun kk e=>by have:=lM kk e;have:=a2.out;omega));have j8:=Nat.le_trans j9 (Nat.le_trans h8.size (Nat.le_trans a7.size c4.size));have A5:=Kh o8;clear h8 a7 c4 i0 o8 o9 k6 d8 g0 f9 i2 lo lM s7 r8 t3 s9 m0 o3 l1 j3 t7;go_wp2;go_roundg (c-(p+1))
         case measure=>have:=j2.out;omega
         case rel =>
          have p4:(L.take k++L.drop (k+1)).length=L.length-1:=by simp only[List.length_append,List.length_take,List.length_drop];omega
          refine⟨p+1,t.set p ((t.getD p []).set a x),L.take k++L.drop (k+1),sd,cd,by omega,by go_num,by rw[p4],?_,?_,by rw[List.length_set];exact h7.out,b6.out.set (by have:=h7.out;omega) ?_ ?_,A8.out,A3.out,B7.out,B0.out,j8⟩
          ·rw[p4,show ints (L.take k++L.drop (k+1))=ints (L.take k)++ints (L.drop (k+1)) by simp[ints]]
           exact A5.out
          ·rw[HX.out]
           exact g3.out.step (by have:=h7.out;omega) (by rw[l8.out];exact ha) i1
          ·rw[HX.out];exact(g3.out.rng _ (mG i1)).1
          ·rw[HX.out];exact(g3.out.rng _ (mG i1)).2
        ·have C1:p=c:=by have:=j2.out;omega
         go_wp2;go_roundg (letters-(a+1))
         case measure=>have:=HG.out;omega
         case rel =>
          refine⟨a+1,t,by omega,by go_num,h7.out,b6.out,fun a' h1 q1 q2 h2 h3 e=>?_,H0.out,b5.out,a9.out,b8.out⟩;rcases Nat.lt_or_ge a' a with h4|h4
          ·exact g3.out.done a' h4 q1 q2 h2 h3 e
          ·have e5:a'=a:=by omega
           subst e5;exact g3.out.col q1 q2 (by omega) (by omega) e
    ·have C8:a=letters:=by have:=HG.out;omega
     have hH:=b7.out;obtain⟨d0,d1,d2,d3⟩:=zF hH.box;obtain⟨e0,e1,e2,e3⟩:=zF h0.out;have f0:=zE h0.out 0;have f1:=zE h0.out 1;have f2:=zE h0.out 2;have f3:=zE h0.out 3;clear hH;go_wp2;refine bodyPost_ret (v:=.agg #[.int .i64 letters,.int .i64 s,.slice sf fs.length cf,.slice sn t.length cn]) (by simp[results,Try.results48,go_sem,e0,e1,e2,e3]) rfl ?_;obtain⟨hsR,l0⟩:=wF h0.out (.int .i64 letters) (.int .i64 s) (.slice sf fs.length cf) (.slice sn t.length cn);have x0:=a1.out.lt;refine⟨_,⟨letters,s,fs,t⟩,q,rfl,⟨P+1,hs,sf,cf,sn,cn,rfl,by have:=a2.out;omega,(b7.out.base (by have:=a2.out;omega)).far l0 h0.out (by omega)⟩,g2.out.vd h1 h6 y8 (by omega) g6.out a3.out x7 k0,y7,fun k hk a' ha2=>?_,a1.out.kept l0 (fun k e=>by have e:P=k:=Oj e;omega),zA b9.out l0 (fun k e=>by have e:P=k:=Oj e;have:=a2.out;omega)⟩;have hk:letters=k:=Int.ofNat.inj hk;exact g4.out a' (by omega)
def oI (l:List (List Nat)):List Value:=l.map fun u=>.string (strOfNums (lets u))
theorem strsL_length (l:List (List Nat)):(oI l).length=l.length:=by simp[oI]
theorem Arr.strL {w:World}{g:Nat}{e:TypeId}{l:List (List Nat)}(h:Arr w g e (oI l))(i:Nat)(hi:i<l.length):w.cell? ⟨g,i,none⟩=some (.string (strOfNums (lets (l.getD i [])))):=by
 rw[h.cell i (by rw[strsL_length];exact hi)];simp[oI,List.getD_eq_getElem?_getD,hi]
theorem qEQ {W:World}{e base g:Nat}{xs:List Value}{k:Nat}(h:W.heap[g]?=some (.cells xs.toArray e (0,0)))(hb:base<=g)(hk:xs.length=k)(hm:k<=maxLen):W.ownsRow base e 1 (.slice (some ⟨g,0,none⟩) k k) k xs :=
 ⟨by omega,.inr ⟨g,k,xs.toArray,rfl,hb,h,Nat.le_refl _,hm,by simp[hk],by simp[<-hk]⟩⟩
def wAt (letters most:Nat):Nat->List (List Nat)
 | 0=>[[]]
 | i+1=>if i<(wAt letters most i).length/\((wAt letters most i).getD i []).length<most then wAt letters most i++(List.range letters).map (fun c=>(wAt letters most i).getD i []++[c]) else wAt letters most i
def wIn (letters most i a:Nat):List (List Nat):=wAt letters most i++(List.range a).map (fun c=>(wAt letters most i).getD i []++[c])
def sO (letters most:Nat):List (List Nat):=wAt letters most 7
theorem qIR {P:Nat->Nat->Prop}{x y:Nat}(h1:1<=x)(h2:x<=2)(h3:1<=y)(h4:y<=2)(h:P 1 1/\P 1 2/\P 2 1/\P 2 2):P x y:=by
 rcases (by omega:x=1\/x=2) with rfl|rfl<;>rcases (by omega:y=1\/y=2) with rfl|rfl
 ·exact h.1
 ·exact h.2.1
 ·exact h.2.2.1
 ·exact h.2.2.2
theorem w_facts {letters most:Nat}(h1:1<=letters)(h2:letters<=2)(h3:1<=most)(h4:most<=2):∀i,i<=7->(i<(wAt letters most i).length->i<7)/\(¬i<(wAt letters most i).length->wAt letters most i=sO letters most)/\(wAt letters most i).length<=7/\(∀u∈wAt letters most i,u.length<=2) :=
 qIR (P:=fun letters most=>∀i,i<=7->(i<(wAt letters most i).length->i<7)/\(¬i<(wAt letters most i).length->wAt letters most i=sO letters most)/\(wAt letters most i).length<=7/\(∀u∈wAt letters most i,u.length<=2)) h1 h2 h3 h4
  ⟨by decide +kernel,by decide +kernel,by decide +kernel,by decide +kernel⟩
theorem aF (letters most i:Nat):wIn letters most i 0=wAt letters most i:=by simp[wIn]
theorem wIn_succ (letters most i a:Nat):wIn letters most i (a+1)=wIn letters most i a++[(wAt letters most i).getD i []++[a]]:=by simp[wIn,List.range_succ]
theorem cK (letters most i a:Nat):(wIn letters most i a).length=(wAt letters most i).length+a:=by simp[wIn]
theorem wAt_step {letters most i:Nat}(hi:i<(wAt letters most i).length)(h:((wAt letters most i).getD i []).length<most):wAt letters most (i+1)=wIn letters most i letters:=by rw[wAt,if_pos ⟨hi,h⟩];rfl
theorem wAt_stay {letters most i:Nat}(h:¬((wAt letters most i).getD i []).length<most):wAt letters most (i+1)=wAt letters most i:=by rw[wAt,if_neg (fun h'=>h h'.2)]
theorem wIn_get {letters most i a:Nat}(h:i<(wAt letters most i).length):(wIn letters most i a).getD i []=(wAt letters most i).getD i []:=by
 simp[wIn,List.getD_eq_getElem?_getD,List.getElem?_append_left h]
theorem mwords_any (w:World)(letters most:Nat)(h1:1<=letters)(h2:letters<=2)(h3:1<=most)(h4:most<=2):Calls Try.prog 22 #[.int .i64 (letters:Int),.int .i64 (most:Int)] w fun e w'=>∃sa sc,e=.returned (.slice sa (sO letters most).length sc)/\w'.ownsRow w.heap.size 9 1 (.slice sa (sO letters most).length sc) (sO letters most).length (oI (sO letters most))/\w.grownBy w' none:=by
 have hF:=w_facts h1 h2 h3 h4;have HF:=Kh hF;clear hF;obtain⟨P,hP⟩:∃P,P=w.heap.size:=⟨_,rfl⟩;have a0:=Kh hP;go_enter Try.func22,Try.ntmps22;go_upto_region 2 with fail;have hb:=heap_alloc_new w (.cells #[.string ⟨#[]⟩] 9);have hg:=Ga w (.cells #[.string ⟨#[]⟩] 9) none;have ho:(w.alloc (.cells #[.string ⟨#[]⟩] 9)).ownsRow w.heap.size 9 1 (.slice (some ⟨w.heap.size,0,none⟩) 1 1) 1 (oI [[]]):=qEQ hb (Nat.le_refl _) rfl (by unfold maxLen;omega);have a7:=zL w (.cells #[.string ⟨#[]⟩] 9);rw[<-hP]at ho hb a7⊢;have HO:=Kh ho;have HG:=Kh hg;have d0:=Kh (aF letters most 0);clear ho hb hg a7 hP;obtain⟨w1,a6⟩:∃w1,w1=w.alloc (.cells #[.string ⟨#[]⟩] 9):=⟨_,rfl⟩;rw[<-a6]at HO HG⊢;clear a6;go_wp2
 go_loopg [5,6,7] 7 (fun gh lv i av wr=>∃(q:Nat) (sa:Option Addr) (sc:Nat),gh+q=7/\i=.int .i64 q/\lv=.slice sa (wAt letters most q).length sc/\wr.ownsRow P 9 1 (.slice sa (wAt letters most q).length sc) (wAt letters most q).length (oI (wAt letters most q))/\w.grownBy wr none)
 case atStart=>exact⟨0,some ⟨P,0,none⟩,1,rfl,rfl,rfl,HO.out,HG.out⟩
 case round =>
  obtain⟨q,sa,sc,hg,rfl,rfl,h0,H0⟩:=hrel;obtain⟨f1,f2,f3,f4⟩:=HF.out q (by omega);obtain⟨m,hm⟩:∃m,m=(wAt letters most q).length:=⟨_,rfl⟩;have HM:=Kh hm;rw[<-hm]at h0 f1 f2 f3⊢;have b6:=Kh hg;have a1:=Kh h0;have a2:=Kh H0;clear hg h0 H0 hm HO HG d0;by_cases hq:q<m
  ·have c1:(q:Int)<m:=by omega
   have d4:=f1 hq;have b8:((wAt letters most q).getD q []).length<=2:=f4 _ (mG (by have:=HM.out;omega));obtain⟨U,hU⟩:∃U,U=(wAt letters most q).getD q []:=⟨_,rfl⟩;rw[<-hU]at b8;have HU:=Kh hU;clear f1 f2 f4 hU;obtain⟨X,hX⟩:∃X,X=strOfNums (lets U):=⟨_,rfl⟩;have a3:X.size=U.length:=by rw[hX,strOfNums_size];simp[lets]
   have HX:=Kh hX;have H9:=Kh a3;obtain⟨wo,a4⟩:∃wo,wo=wr:=⟨_,rfl⟩;rw[<-a4]at a1 a2⊢;clear a4 wr;go_wp2
   go_loopg [5,7] letters (fun gh lv av wr=>∃(a:Nat) (sb:Option Addr) (sd:Nat),gh+a=letters/\av=.int .i64 a/\lv=.slice sb (m+a) sd/\wr.ownsRow P 9 1 (.slice sb (m+a) sd) (m+a) (oI (wIn letters most q a))/\w.grownBy wr none/\(most<=U.length->a=0))
   case atStart=>exact⟨0,sa,sc,rfl,rfl,rfl,by rw[aF];exact a1.out,a2.out,fun _=>rfl⟩
   case round =>
    obtain⟨a,sb,sd,hg,rfl,rfl,h0,H0,hz⟩:=hrel;obtain⟨kb,rfl,d8,b1,H3⟩:=yG h0 (by omega);have h5:=H3.strL q (by rw[cK];have:=HM.out;omega);rw[wIn_get (by have:=HM.out;omega),<-HU.out,<-HX.out]at h5;have d5:(q:Int)<(m:Int)+(a:Int):=(by omega);have c2:q<m+a:=(by omega);have b5:=Kh hg;have h6:=Kh h0;have h7:=Kh H0;have HZ:=Kh hz;have c4:sd<=9223372036854775807:=by unfold maxLen at b1;omega
    clear hg h0 H0 hz H3 b1 hX a3;by_cases ha:a<letters
    ·have e0:(a:Int)<letters:=by omega
     by_cases hu:X.size<most
     ·have b9:(X.size:Int)<most:=by omega
      have e1:IntKind.i64.wrap (97+(a:Int))=97+(a:Int):=IntWalk.i64_in _ (by omega);have d9:IntKind.u8.wrap (97+(a:Int))=97+(a:Int):=IntWalk.u8_in _ (by omega);obtain⟨Y,hY⟩:∃Y,Y=strOfNums [97+(a:Int)]:=⟨_,rfl⟩;have d6:∀(W:World) (g:Nat),W.cell? ⟨g,0,none⟩=some (.int .u8 (97+(a:Int)))->(convert 106 9 (.slice (some ⟨g,0,none⟩) 1 1)).run Try.prog W=.ok (.string Y) W:=fun W g h=>by rw[hY];exact nU 106 5 Try.underlying106 Try.underlying5 9 Try.underlying9 h
      have d7:∀W:World,(Op.stringOp .add X Y).run Try.prog W=.ok (.string (X++Y)) W:=fun W=>run_string_add_sum W X Y (by
       rw[hY,strOfNums_size];simp;omega)
      have c8:Hid (X++Y=strOfNums (lets (U++[a]))):=Kh (by rw[HX.out,hY,qED];simp[lets]);clear hY;obtain⟨w5,H6⟩:∃w5,w5=wr.drew:=⟨_,rfl⟩;have H5:wr.grownBy w5 none:=(by rw[H6];exact zO wr none);have c9:=Kh H6;have b2:=Kh (zY h6.out H5 (by simp));have b4:=Kh (zA h7.out H5 (by simp));have C:=Kh (vD h5 H5);clear H6 H5 h6 h7;go_upto_region 8 with fail;clear h5;refine wp_region_noPanic ?_;refine yY (G:=uI 10 (fun _=>True) (fun W=>W.cell? ⟨kb,q,none⟩=some (.string X))) (by kernel_rfl) ?_;rw[<-c9.out];refine zV 0 ⟨trivial,fun _=>C.out⟩ ?_;refine zV 1 ⟨trivial,fun _=>C.out⟩ ?_;refine zV 2 ⟨trivial,fun _=>C.out⟩ ?_;refine zV 3 ⟨trivial,fun _=>C.out⟩ ?_;refine uA 4 ⟨trivial,fun _=>C.out⟩ ?_;refine zV 5 ⟨trivial,fun _=>C.out⟩ ?_;refine zV 6 ⟨trivial,fun _=>C.out⟩ ?_;refine zV 7 ⟨trivial,fun _=>C.out⟩ ?_;refine oneG (i:=8) (by kernel_rfl) rfl (fun K hK=>?_);go_simp;have h9:=heap_alloc_new w5 (.cells #[.int .u8 (97+(a:Int))] 5);have H2:=Ga w5 (.cells #[.int .u8 (97+(a:Int))] 5) none;obtain⟨g6,H1⟩:∃g6,g6=w5.heap.size:=⟨_,rfl⟩;obtain⟨w6,a5⟩:∃w6,w6=w5.alloc (.cells #[.int .u8 (97+(a:Int))] 5):=⟨_,rfl⟩;rw[<-H1]at h9⊢;rw[<-a5]at h9 H2⊢;have c5:=zI h9 0 (by simp);simp only[List.getElem_toArray,List.getElem_cons_zero]at c5;have d2:=Kh (zY b2.out H2 (by simp));have b3:=Kh (zA b4.out H2 (by simp));have C6:=Kh (vD C.out H2);refine hK.out _ _ ⟨trivial,fun _=>C6.out⟩ ?_;clear hK K h9 H2 H1 a5 b2 b4 C
      try simp only[Act.put,sPa,sPb,sPc]
      refine oneG (i:=9) (by kernel_rfl) rfl (fun K hK=>?_);go_simp;refine hK.out _ _ ⟨trivial,fun _=>C6.out⟩ ?_;clear hK K
      try simp only[Act.put,sPa,sPb,sPc]
      refine oneG (i:=10) (by kernel_rfl) rfl (fun K hK=>?_);go_simp;refine hK.out _ _ ⟨trivial,fun h=>by simp at h⟩ ?_;clear hK K
      try simp only[Act.put,sPa,sPb,sPc]
      refine oneG (i:=11) (by kernel_rfl) rfl (fun K hK=>?_);go_simp;have h9:=heap_alloc_new w6 (.cells #[.string (X++Y)] 9);have H8:=Ga w6 (.cells #[.string (X++Y)] 9) none;have H7:=zY d2.out H8 (by simp);refine hK.out _ _ ⟨trivial,fun h=>by simp at h⟩ ?_;clear hK K
      try simp only[Act.put,sPa,sPb,sPc]
      have c0:P<=w6.heap.size:=by have:=b3.out.size;have:=a0.out;omega
      refine oneG (i:=12) (by kernel_rfl) rfl (fun K hK=>?_);refine pT rfl (.tmp 29) (.tmp 40) 26 rfl kH P _ _ _ rfl H7 _ _ _ rfl h9 rfl ?g1 ?g2 ?g3 ?_
      case g1=>unfold maxLen;omega
      case g2=>omega
      case g3=>rw[zL];omega
      intro sa' sc' w8 h8 b0;refine hK.out _ _ ⟨trivial,fun h=>by simp at h⟩ ?_;clear hK K
      try simp only[Act.put,sPa,sPb,sPc]
      refine oneG (i:=13) (by kernel_rfl) rfl (fun K hK=>?_);go_simp;refine hK.out _ _ ⟨trivial,fun h=>by simp at h⟩ ?_;clear hK K
      try simp only[Act.put,sPa,sPb,sPc]
      refine rP (by kernel_rfl) ?_ _;refine NoPanic.normal ?_;have d1:=Kh h8;have d3:=Kh (zA (zA b3.out H8 (by simp)) b0 (fun k e=>by have:=(H7.lt k e).1;have:=a0.out;omega));clear h8 b0 H8 H7 h9;go_wp2;go_roundg (letters-(a+1))
      case measure=>have:=b5.out;omega
      case rel =>
       refine⟨a+1,sa',sc',by omega,by go_num,by rw[Nat.add_assoc],?_,d3.out,by have:=H9.out;omega⟩;rw[wIn_succ,<-HU.out,show oI (wIn letters most q a++[U++[a]])=oI (wIn letters most q a)++[.string (X++Y)] by rw[c8.out];simp[oI],<-Nat.add_assoc];exact d1.out
     ·have b9:¬(X.size:Int)<most:=by omega
      have c7:a=0:=HZ.out (by have:=H9.out;omega);subst c7;have a8:=wAt_stay (letters:=letters) (most:=most) (i:=q) (by rw[<-HU.out];have:=H9.out;omega);have H4:=Kh a8;clear a8;go_wp2;go_roundg (7-(q+1))
      case measure=>have:=b6.out;omega
      case rel =>
       refine⟨q+1,some ⟨kb,0,none⟩,sd,by omega,by go_num,?_,?_,h7.out⟩
       ·rw[H4.out,<-HM.out]
       ·have:=h6.out
        rw[aF]at this;rw[H4.out,<-HM.out];exact this
    ·have c6:a=letters:=by have:=b5.out;omega
     subst c6
     have c3:U.length<most:=by
      rcases Nat.lt_or_ge U.length most with h|h
      ·exact h
      ·have:=HZ.out h;omega
     have H4:=Kh (wAt_step (letters:=a) (most:=most) (i:=q) (by have:=HM.out;omega) (by rw[<-HU.out];exact c3));go_wp2;go_roundg (7-(q+1))
     case measure=>have:=b6.out;omega
     case rel =>
      have a9:(wAt a most (q+1)).length=m+a:=by rw[H4.out,cK,<-HM.out]
      refine⟨q+1,some ⟨kb,0,none⟩,sd,by omega,by go_num,by rw[a9],?_,h7.out⟩;rw[a9,H4.out];exact h6.out
  ·have c1:¬(q:Int)<m:=by omega
   have b7:=Kh (f2 hq);clear f1 f2 f3 f4;go_wp2;go_ret;refine⟨sa,sc,?_,?_,a2.out⟩
   ·rw[<-b7.out,<-HM.out];rfl
   ·rw[<-b7.out,<-HM.out,<-a0.out];exact a1.out
def qIM (WL:List (List Nat))(W:List Nat)(a:Nat)(x:Int):Prop:=0<=x/\x<WL.length/\∃j,j<=W.length/\WL.getD x.toNat []=(W++[a]).drop j/\∀j',j'<j->(W++[a]).drop j' ∉ WL
def DefD (m:DfaV)(n:Nat):Prop:=m.start=0/\∀k:Nat,m.letters=k->∃most,1<=most/\most<=2/\n=(sO k most).length/\∀q a,q<n->a<k->qIM (sO k most) ((sO k most).getD q []) a (ent m.next q a)
theorem words_facts {letters most:Nat}(h1:1<=letters)(h2:letters<=2)(h3:1<=most)(h4:most<=2):(sO letters most).length<=7/\1<=(sO letters most).length/\(∀u∈sO letters most,u.length<=2/\∀c∈u,c<2)/\∀a,a<letters->[a]∈sO letters most :=
 qIR (P:=fun letters most=>(sO letters most).length<=7/\1<=(sO letters most).length/\(∀u∈sO letters most,u.length<=2/\∀c∈u,c<2)/\∀a,a<letters->[a]∈sO letters most) h1 h2 h3 h4
  ⟨by decide +kernel,by decide +kernel,by decide +kernel,by decide +kernel⟩
theorem lets_inj {u v:List Nat}(hu:∀c∈u,c<100)(hv:∀c∈v,c<100)(h:strOfNums (lets u)=strOfNums (lets v)):u=v:=by
 have h2:(strOfNums (lets u)).data.toList=(strOfNums (lets v)).data.toList:=by rw[h]
 rw[strOfNums_data,strOfNums_data,lets,lets,List.map_map,List.map_map]at h2
 have key:∀(u v:List Nat),(∀c∈u,c<100)->(∀c∈v,c<100)->u.map ((fun(n:Int)=>UInt8.ofNat n.toNat) ∘ fun(a:Nat)=>97+(a:Int))=v.map ((fun(n:Int)=>UInt8.ofNat n.toNat) ∘ fun(a:Nat)=>97+(a:Int))->u=v:=by
  intro u
  induction u with
  | nil=>intro v _ _ h;cases v with
   | nil=>rfl
   | cons=>simp at h
  | cons x u ih =>
   intro v hu hv h;cases v with
   | nil=>simp at h
   | cons y v =>
    simp only[List.map_cons,List.cons.injEq,Function.comp]at h;have hx:=hu x List.mem_cons_self;have hy:=hv y List.mem_cons_self;have e:=congrArg UInt8.toNat h.1;rw[UInt8.toNat_ofNat',UInt8.toNat_ofNat']at e;have e1:((97+(x:Int)).toNat) % 2 ^ 8=97+x:=by omega
    have e2:((97+(y:Int)).toNat) % 2 ^ 8=97+y:=by omega
    rw[e1,e2]at e;have:=ih v (fun c hc=>hu c (List.mem_cons_of_mem _ hc)) (fun c hc=>hv c (List.mem_cons_of_mem _ hc)) h.2;rw[this,show x=y by omega]
 exact key u v hu hv h2
theorem bytes_same {a b:ByteArray}(h:a.toList=b.toList):a=b:=by
 rw[ByteArray.toList_eq,ByteArray.toList_eq]at h;exact ByteArray.ext (Array.toList_inj.1 h)
theorem Arr.keptOwn {w w':World}{g e e' base n:Nat}{xs ys:List Value}{v:Value}(h:Arr w g e xs)(ho:w.ownsRow base e' 1 v n ys)(hne:e'≠e)(hg:w.grownBy w' v.ownBlock):Arr w' g e xs :=
 h.kept hg (fun er=>by
  obtain⟨cur,rest,hgc,_⟩:=h
  exact zQ ho hgc hne er)
theorem mdef_any (B tb:Nat)(w:World)(letters:Nat)(h1:1<=letters)(h2:letters<=2)(hT:xL B w tb):Calls Try.prog 49 #[.pointer (some ⟨tb,0,none⟩),.int .i64 (letters:Int)] w (jT DefD B tb w letters 7):=by
 have n6:=hT.lt;have s7:=hT.ge;obtain⟨wA,f7⟩:∃wA,wA=(w.alloc (.cells #[.int .i64 0,.int .i64 0,.slice none 0 0,.slice none 0 0] 42)).alloc (.cells #[.int .i64 letters,.int .i64 0,.slice none 0 0,.slice none 0 0] 42):=⟨_,rfl⟩;obtain⟨b6,c5,c4,i8⟩:=sZ w #[.int .i64 0,.int .i64 0,.slice none 0 0,.slice none 0 0] #[.int .i64 letters,.int .i64 0,.slice none 0 0,.slice none 0 0] 42;rw[<-f7]at b6 c5 c4 i8;obtain⟨P,hP⟩:∃P,P=w.heap.size:=⟨_,rfl⟩;have H7:=Kh hP;rw[<-hP]at b6 c5 i8 n6;have k7:=hT.kept c4 (by simp);have q8:=Kh b6;have q7:=Kh c5;have q2:=Kh c4;have p4:=Kh f7;have p7:=Kh k7;clear b6 c5 c4 f7 k7 hT;go_enter Try.func49,Try.ntmps49;go_upto_region 2 with fail;rw[<-p4.out,<-H7.out];clear hP;go_wp2_with fail;refine(wW B tb _ _ (by omega) p7.out).mono ?_;rintro e w1 ⟨r,rfl,n8,d7,k9,k0⟩;replace d7:=d7 (by omega);obtain⟨most,rfl⟩:∃n:Nat,r=(n:Int)-1:=⟨(r+1).toNat,by omega⟩;have d9:1<=most:=by omega
 have d8:most<=2:=by omega
 have r7:(1:Int)+((most:Int)-1)=most:=by omega
 have m0:=Kh k9;have c0:=Kh k0;have a8:=Kh (words_facts h1 h2 d9 d8);clear n8 d7 k9 k0;go_wp2_with fail;refine(mwords_any w1 letters most h1 h2 d9 d8).mono ?_;rintro e w2 ⟨sl,cl,rfl,h7,b2⟩;obtain⟨WL,f6⟩:∃WL,WL=sO letters most:=⟨_,rfl⟩;rw[<-f6]at h7 a8⊢;obtain⟨N,hN⟩:∃N,N=WL.length:=⟨_,rfl⟩;have H8:=Kh hN;have p1:N<=7:=by rw[hN];exact a8.out.1
 have p2:1<=N:=by rw[hN];exact a8.out.2.1
 rw[<-hN]at h7⊢;obtain⟨lb,rfl,r9,o1,l0⟩:=yG h7 (by omega);have r8:=(h7.lt lb rfl).1;have r4:=c0.out.size;have s1:cl<=9223372036854775807:=by unfold maxLen at o1;omega
 have n3:=Kh l0;have k2:=zB (zB q7.out c0.out (by simp;omega)) b2 (by simp);have l1:Half (P+1) w2 (P+1) letters 0 [] [] [] none 0 none 0:=⟨k2,World.ownsRow_nil _ _ _ _,World.ownsRow_nil _ _ _ _,OwnsT.nil⟩;have H2:=Kh l1;have HB:=Kh (zB (zB q8.out c0.out (by simp;omega)) b2 (by simp));have l9:=Kh (m0.out.kept b2 (by simp));have m8:=Kh (zA (zD (zA (zH w (some tb)) q2.out (by simp)) c0.out) b2 (by simp));have b7:=Kh f6;clear h7 b2 l0 k2 l1 m0 c0 hN f6;go_wp2
 go_loopg [8,9,10,11,12,13,14,24] N (fun gh v8 v9 v10 v11 v12 v13 v14 i wr=>∃(q:Nat) (fs:List Bool) (t:List (List Int)) (hs:List Value) (sf:Option Addr) (cf:Nat) (sn:Option Addr) (cn:Nat),gh+q=N/\i=.int .i64 q/\fs.length=q/\t.length=q/\qN t N letters/\(∀q' a,q'<q->a<letters->qIM WL (WL.getD q' []) a (ent t q' a))/\Half (P+1) wr (P+1) letters 0 fs t hs sf cf sn cn/\xL B wr tb/\wr.heap[P]?=some (.cells #[.int .i64 0,.int .i64 0,.slice none 0 0,.slice none 0 0] 42 (0,0))/\Arr wr lb 9 (oI WL)/\w.grownBy wr (some tb))
 case atStart=>exact⟨0,[],[],[],none,0,none,0,by omega,rfl,rfl,rfl,(fun r hr=>by simp at hr),(fun q' a h=>by omega),H2.out,l9.out,HB.out,n3.out,m8.out⟩
 case round =>
  obtain⟨q,fs,t,hs,sf,cf,sn,cn,hg,rfl,rfl,a5,j2,k1,hH,k5,b5,l2,j7⟩:=hrel;have HG:=Kh hg;have HH:=Kh hH;have c8:=Kh k5;have h0:=Kh b5;have i1:=Kh j7;have m2:=Kh j2;have i6:=Kh l2;have m9:=Kh k1;have H6:=Kh a5;clear hg hH k5 b5 j7 j2 l2 k1 a5 H2 l9 HB n3 m8;by_cases hq:fs.length<N
  ·have r6:(fs.length:Int)<N:=by omega
   have f4:=i6.out.strL fs.length (by rw[<-H8.out];exact hq);obtain⟨W,hW⟩:∃W,W=WL.getD fs.length []:=⟨_,rfl⟩;rw[<-hW]at f4;obtain⟨X,hX⟩:∃X,X=strOfNums (lets W):=⟨_,rfl⟩;rw[<-hX]at f4;have l5:=Kh hW;have HX:=Kh hX;clear hX hW;obtain⟨w5,d5⟩:∃w5,w5=wr.drew:=⟨_,rfl⟩;have a6:wr.grownBy w5 none:=(by rw[d5];exact zO wr none);have l6:=Kh d5;have i0:=Kh (HH.out.grow a6);have g6:=Kh (c8.out.kept a6 (by simp));have m7:=Kh (zA i1.out a6 (by simp));have n1:=Kh (zB h0.out a6 (by simp));have r1:=Kh (i6.out.kept a6 (by simp));obtain⟨d0,d1,d2,d3⟩:=zF i0.out.box;have C2:=Kh d2;clear d5 a6 d0 d1 d2 d3 HH c8 i1 h0 i6;go_upto_region 6 with fail;clear f4;refine wp_region_noPanic ?_;refine yY (G:=uI 8 (fun _=>True) (fun W=>W.cell? ⟨P+1,2,none⟩=some (.slice sf fs.length cf))) (by kernel_rfl) ?_;rw[<-l6.out];refine zV 0 ⟨trivial,fun _=>C2.out⟩ ?_;refine uA 1 ⟨trivial,fun _=>C2.out⟩ ?_;refine zV 2 ⟨trivial,fun _=>C2.out⟩ ?_;refine oneG (i:=3) (by kernel_rfl) rfl (fun K hK=>?_);go_simp
   go_at_call 15
   refine(wW B tb _ _ (by omega) g6.out).mono ?_;rintro e w6 ⟨b,rfl,s2,b6,k8,b1⟩;have c7:=i0.out.tape g6.out b1;obtain⟨d0,d1,d2,d3⟩:=zF c7.box;have C2:=Kh d2;refine hK.out _ _ ⟨trivial,fun _=>C2.out⟩ ?_;clear hK K d0 d1 d2 d3
   try simp only[Act.put,sPa,sPb,sPc]
   refine zV 4 ⟨trivial,fun _=>C2.out⟩ ?_;refine oneG (i:=5) (by kernel_rfl) rfl (fun K hK=>?_);go_simp;have H1:=c7.grow (Ga w6 (.cells #[.bool (decide (b=1))] 4) none);have j8:=heap_alloc_new w6 (.cells #[.bool (decide (b=1))] 4);obtain⟨d0,d1,d2,d3⟩:=zF H1.box;refine hK.out _ _ ⟨trivial,fun _=>d2⟩ ?_;clear hK K d0 d1 d2 d3
   try simp only[Act.put,sPa,sPb,sPc]
   have r3:P+2<=w6.heap.size:=by have:=zK c7.box;omega
   refine oneG (i:=6) (by kernel_rfl) rfl (fun K hK=>?_);refine pT rfl (.tmp 29) (.tmp 33) 39 rfl xJ (P+1) _ _ _ rfl H1.ownF _ _ _ rfl j8 rfl ?g1 ?g2 ?g3 ?_
   case g1=>unfold maxLen;omega
   case g2=>omega
   case g3=>rw[zL];omega
   intro sa' sc' w8 H5 a1;have a2:=zB H1.box a1 (fun e=>zQ H1.ownF H1.box (by decide) e);obtain⟨d0,d1,d2,d3⟩:=zF a2;have f2:=zE a2 2;refine hK.out _ _ ⟨trivial,fun _=>d2⟩ ?_;clear hK K
   try simp only[Act.put,sPa,sPb,sPc]
   have C2:=Kh d2;refine zV 7 ⟨trivial,fun _=>C2.out⟩ ?_;refine oneG (i:=8) (by kernel_rfl) rfl (fun K hK=>?_);go_simp;refine hK.out _ _ ⟨trivial,fun h=>by simp at h⟩ ?_;clear hK K d0 d1 d2 d3 f2 a2
   try simp only[Act.put,sPa,sPb,sPc]
   refine rP (by kernel_rfl) ?_ _;refine NoPanic.normal ?_;obtain⟨hF,o4⟩:=H1.pushF H5 a1 rfl;have f8:=((k8.kept (Ga w6 (.cells #[.bool (decide (b=1))] 4) none) (by simp)).kept a1 (fun k e=>by have:=(H1.ownF.lt k e).1;omega)).kept (zC w8 ⟨P+1,2,none⟩ (.slice sa' (fs.length+1) sc')) (fun k e=>by have e:P+1=k:=Oj e;omega);have f5:=zB (zB (zB (zB n1.out b1 (by simp;omega)) (Ga w6 (.cells #[.bool (decide (b=1))] 4) none) (by simp)) a1 (fun e=>by have:=(H1.ownF.lt _ e).1;omega)) (zC w8 ⟨P+1,2,none⟩ (.slice sa' (fs.length+1) sc')) (by simp);have e9:w.grownBy (w8.setCell ⟨P+1,2,none⟩ (.slice sa' (fs.length+1) sc')) (some tb):=zA (zA (zA (zD m7.out b1) (Ga w6 (.cells #[.bool (decide (b=1))] 4) none) (by simp)) a1 (fun k e=>by have:=(H1.ownF.lt k e).1;have:=H7.out;omega)) (zC w8 ⟨P+1,2,none⟩ (.slice sa' (fs.length+1) sc')) (fun k e=>by have e:P+1=k:=Oj e;have:=H7.out;omega);have g0:=(((r1.out.kept b1 (by simp;omega)).kept (Ga w6 (.cells #[.bool (decide (b=1))] 4) none) (by simp)).keptOwn H1.ownF (by decide) a1).kept (zC w8 ⟨P+1,2,none⟩ (.slice sa' (fs.length+1) sc')) (by simp;omega);obtain⟨w9,j0⟩:∃w9,w9=w8.setCell ⟨P+1,2,none⟩ (.slice sa' (fs.length+1) sc'):=⟨_,rfl⟩;rw[<-j0]at hF f8 f5 e9 g0⊢;have HF:=Kh hF;have g5:=Kh f8;have n0:=Kh f5;have m6:=Kh e9;have n2:=Kh g0;clear g0 j0 o4 hF f8 f5 e9 H5 a1 j8 H1 c7 k8 b1 C2 i0 g6 m7 n1 l6;have a3:W.length<=2/\∀c∈W,c<2:=by rw[l5.out];exact a8.out.2.2.1 _ (mG (by rw[<-H8.out];exact hq))
   have s6:=a3.1;have p5:=Kh a3.2;clear a3;go_wp2
   go_loopg [9,10,11,12,13,14] letters (fun gh ov i v11 v12 v13 v14 wx=>∃(a:Nat) (row:List Int) (sr:Option Addr) (cr:Nat),gh+a=letters/\i=.int .i64 a/\row.length=a/\ov=.slice sr row.length cr/\(∀a',a'<a->qIM WL W a' (row.getD a' 0))/\wx.ownsRow w9.heap.size 3 1 (.slice sr row.length cr) row.length (ints row)/\w9.grownBy wx none)
   case atStart=>exact⟨0,[],none,0,by omega,rfl,rfl,rfl,(fun a' h=>by omega),World.ownsRow_nil _ _ _ _,zH _ _⟩
   case round =>
    obtain⟨a,row,sr,cr,hg,rfl,rfl,rfl,j3,h7,j6⟩:=hrel;have b9:=Kh hg;have H3:=Kh h7;have a4:=Kh j6;have g7:=Kh j3;clear hg h7 j6 j3;by_cases ha:row.length<letters
    ·have s3:(row.length:Int)<letters:=by omega
     have p3:IntKind.i64.wrap (97+(row.length:Int))=97+(row.length:Int):=IntWalk.i64_in _ (by omega);have o9:IntKind.u8.wrap (97+(row.length:Int))=97+(row.length:Int):=IntWalk.u8_in _ (by omega);obtain⟨Y,hY⟩:∃Y,Y=strOfNums [97+(row.length:Int)]:=⟨_,rfl⟩;have o6:∀(W:World) (g:Nat),W.cell? ⟨g,0,none⟩=some (.int .u8 (97+(row.length:Int)))->(convert 106 9 (.slice (some ⟨g,0,none⟩) 1 1)).run Try.prog W=.ok (.string Y) W:=fun W g h=>by rw[hY];exact nU 106 5 Try.underlying106 Try.underlying5 9 Try.underlying9 h
     have o8:∀W0:World,(Op.stringOp .add X Y).run Try.prog W0=.ok (.string (X++Y)) W0:=fun W0=>run_string_add_sum W0 X Y (by
      rw[hY,HX.out,strOfNums_size,strOfNums_size];simp[lets];omega)
     have l4:Hid (X++Y=strOfNums (lets (W++[row.length]))):=Kh (by rw[HX.out,hY,qED];simp[lets]);have e7:=Ga wr (.cells #[.int .u8 (97+(row.length:Int))] 5) none;have g8:=Kh (zY H3.out e7 (by simp));have c9:=Kh (zA a4.out e7 (by simp));clear hY e7;go_wp2;clear o6 o8 p3 o9;obtain⟨wb,i9⟩:∃wb,wb=wr.alloc (.cells #[.int .u8 (97+(row.length:Int))] 5):=⟨_,rfl⟩
     try rw[<-i9]at g8 c9⊢
     clear i9
     have HV:Hid (∀c∈W++[row.length],c<100):=Kh (fun c hc=>by
      rcases List.mem_append.1 hc with hc|hc
      ·have:=p5.out c hc;omega
      ·rw[List.mem_singleton]at hc;omega)
     have l7:Hid ((W++[row.length]).length=W.length+1):=Kh (by simp)
     have H9:Hid ((W++[row.length]).drop W.length∈WL):=Kh (by
      rw[List.drop_append_of_le_length (Nat.le_refl _),List.drop_length,List.nil_append]
      exact a8.out.2.2.2 _ ha)
     obtain⟨V,hV⟩:∃V,V=W++[row.length]:=⟨_,rfl⟩;rw[<-hV]at HV l7 l4 H9;have l8:=Kh hV;clear hV;have d6:=c9.out.size
     go_loopg [11,12,13,14] (W.length+1) (fun gh v11 v12 v13 v14 wy=>wy=wb/\((∃j,v12=.int .i64 (-1)/\j<=W.length/\gh+j=W.length+1/\v11=.string (strOfNums (lets (V.drop j)))/\∀j',j'<j->V.drop j' ∉ WL)\/(∃(x:Nat) (y:ByteArray),v12=.int .i64 (x:Int)/\v11=.string y/\qIM WL W row.length x)))
     case atStart=>exact⟨rfl,.inl ⟨0,rfl,by omega,by omega,by rw[l4.out];rfl,fun j' h=>by omega⟩⟩
     case round =>
      obtain⟨d4,n7⟩:=hrel;subst d4;rcases n7 with ⟨j,rfl,hj,hgj,rfl,hno⟩|⟨x,y,rfl,rfl,hdef⟩
      ·have m5:=Kh hgj;have m3:=Kh hno
       clear hgj hno;obtain⟨Z,hZ⟩:∃Z,Z=strOfNums (lets (V.drop j)):=⟨_,rfl⟩;have k4:Z.size=W.length+1-j:=by rw[hZ,strOfNums_size];simp[lets,l7.out]
       rw[<-hZ];have HZ:=Kh hZ;have s5:1<=Z.size:=by omega
       have s4:Z.size<=3:=by omega
       have s8:=Kh k4;clear hZ k4;go_wp2;have r0:=Kh (n2.out.kept c9.out (by simp))
       go_loopg [12,13,14,52] N (fun gh v12 v13 v14 i wz=>wz=wr/\∃(k:Nat) (m:Int),gh+k=N/\i=.int .i64 k/\v12=.int .i64 m/\((m = -1/\∀k',k'<k->WL.getD k' []≠V.drop j)\/(0<=m/\m<N/\WL.getD m.toNat []=V.drop j)))
       case atStart=>exact⟨rfl,0,-1,by omega,rfl,rfl,.inl ⟨rfl,fun k' h=>by omega⟩⟩
       case round =>
        obtain⟨d4,k,m,j9,rfl,rfl,hm⟩:=hrel;subst d4;have b8:=Kh j9;have HM:=Kh hm;clear j9 hm;by_cases hk:k<N
        ·have e6:(k:Int)<N:=by omega
         have o7:=r0.out.strL k (by rw[<-H8.out];exact hk);obtain⟨K2,f9⟩:∃K2,K2=strOfNums (lets (WL.getD k [])):=⟨_,rfl⟩;rw[<-f9]at o7;have m4:=Kh f9;clear f9;by_cases hx:WL.getD k []=V.drop j
         ·have o5:=Kh hx
          have p0:(K2.toList == Z.toList)=true:=by rw[m4.out,HZ.out,hx];simp
          clear hx;go_wp2;go_roundg (N-(k+1))
          case measure=>have:=b8.out;omega
          case rel=>exact⟨rfl,k+1,k,by omega,by go_num,rfl,.inr ⟨by omega,by omega,by simpa using o5.out⟩⟩
         ·have n9:=Kh hx
          have p0:(K2.toList == Z.toList)=false:=by
           rw[beq_eq_false_iff_ne];intro e;refine hx (lets_inj (fun c hc=>?_) (fun c hc=>HV.out c (List.mem_of_mem_drop hc)) (by rw[<-m4.out,<-HZ.out];exact bytes_same e));have:=(a8.out.2.2.1 _ (mG (d:=[]) (by rw[<-H8.out];exact hk))).2 c hc;omega
          clear hx;go_wp2;go_roundg (N-(k+1))
          case measure=>have:=b8.out;omega
          case rel =>
           refine⟨rfl,k+1,m,by omega,by go_num,rfl,?_⟩;rcases HM.out with ⟨e1,e2⟩|e1
           ·refine .inl ⟨e1,fun k' h=>?_⟩
            rcases Nat.lt_or_ge k' k with h2|h2
            ·exact e2 k' h2
            ·have:k'=k:=by omega
             subst this;exact n9.out
           ·exact .inr e1
        ·have o2:k=N:=by have:=b8.out;omega
         have q0:=Kh HM.out;go_wp2
         have hcut:Hid (Z.extract 1 Z.size=strOfNums (lets (V.drop (j+1)))):=Kh (by
          apply ByteArray.ext;apply Array.toList_inj.1;rw[HZ.out,ByteArray.data_extract,Array.toList_extract,strOfNums_data,strOfNums_data,List.extract_eq_take_drop,strOfNums_size];rw[List.take_of_length_le (by simp)];rw[show V.drop (j+1)=(V.drop j).drop 1 by rw[List.drop_drop]]
          simp[lets,List.map_drop])
         rcases q0.out with ⟨e1,e2⟩|⟨e1,e2,e3⟩
         ·go_roundg (W.length+1-(j+1))
          case measure=>have:=m5.out;omega
          case rel =>
           have a0:V.drop j ∉ WL:=fun hm=>by
            obtain⟨k',e6,e4⟩:=List.getElem_of_mem hm;exact e2 k' (by rw[o2,H8.out];exact e6) (by rw[<-e4];simp[List.getD_eq_getElem?_getD,e6])
           have s0:j<W.length:=by
            rcases Nat.lt_or_ge j W.length with h|h
            ·exact h
            ·have e5:j=W.length:=by omega
             rw[e5]at a0;exact absurd H9.out a0
           exact⟨rfl,.inl ⟨j+1,by rw[e1],by omega,by omega,by rw[hcut.out],fun j' h=>by
            rcases Nat.lt_or_ge j' j with h2|h2
            ·exact m3.out j' h2
            ·have:j'=j:=by omega
             subst this;exact a0⟩⟩
         ·go_roundg (W.length+1-(j+1))
          case measure=>have:=m5.out;omega
          case rel =>
           refine⟨rfl,.inr ⟨m.toNat,Z.extract 1 Z.size,by rw[Int.toNat_of_nonneg e1],rfl,?_⟩⟩;rw[Int.toNat_of_nonneg e1];exact⟨e1,by rw[<-H8.out];exact e2,j,hj,by rw[e3,l8.out],fun j' h=>by rw[<-l8.out];exact m3.out j' h⟩
      ·have q4:=Kh hdef
       have r5:¬(x:Int) = -1:=by omega
       clear hdef;go_wp2_with (first|(at_builtin;refine app1 rfl _ _ _ rfl yP w9.heap.size _ row.length (ints row) rfl g8.out _ rfl rfl ?c1 ?c2 ?c3 ?_)|fail)
       case c1=>unfold maxLen;omega
       case c2=>omega
       case c3=>exact d6
       intro sr' cr' w10 H0 b3 j5;have g9:=Kh H0;have i3:=Kh (zA c9.out b3 (fun k e=>(g8.out.lt k e).1));clear H0 b3;go_wp2;go_roundg (letters-(row.length+1))
       case measure=>have:=b9.out;omega
       case rel =>
        refine⟨row.length+1,row++[(x:Int)],sr',cr',by omega,by go_num,by simp,by simp,fun a' h=>?_,?_,i3.out⟩
        ·rcases Nat.lt_or_ge a' row.length with h2|h2
         ·rw[List.getD_eq_getElem?_getD,List.getElem?_append_left h2,<-List.getD_eq_getElem?_getD]
          exact g7.out a' h2
         ·have e:a'=row.length:=by omega
          subst e;rw[List.getD_eq_getElem?_getD,List.getElem?_append_right (Nat.le_refl _)];simpa using q4.out
        ·rw[show ints (row++[(x:Int)])=ints row++[.int .i64 (x:Int)] by simp[ints],List.length_append,List.length_singleton]
         exact g9.out
    ·have j1:row.length=letters:=by have:=b9.out;omega
     have hH:=HF.out.grow a4.out;have p6:=Kh (g5.out.kept a4.out (by simp));have q9:=Kh (n2.out.kept a4.out (by simp));have n4:P+1<=w9.heap.size:=Nat.le_of_lt (zK HF.out.box);have a9:=yU H3.out n4
     have b4:∀i (hi:i<hs.length),∀k,hs[i].ownBlock=some k->(Value.slice sr row.length cr).ownBlock≠some k:=fun i hi k hk e=>by
      have h1:=(HF.out.rows.lt hi hk).2;have h2:=(H3.out.lt k e).1;omega
     have i4:=Kh b4;obtain⟨d0,d1,d2,d3⟩:=zF hH.box;have r2:=zK hH.box;have o0:=g5.out.lt;have H4:=Kh hH;have p8:=Kh a9;have m1:=Kh j1;have q1:=Kh (zA m6.out a4.out (by simp));have q5:=Kh (zB n0.out a4.out (by simp));clear hH a9 j1 b4 d0 d1 d2 H3 a4 HF g5 m6 n0;have p9:=Kh H4.out.ownN;go_wp2_with (first|(at_builtin;refine app1 rfl _ _ _ rfl vU (P+1) _ t.length hs rfl p9.out _ rfl rfl ?c1 ?c2 ?c3 ?_)|fail)
     case c1=>have:=H6.out;unfold maxLen;omega
     case c2=>have:=H6.out;omega
     case c3=>omega
     intro sn' cn' w11 h9 h8 j4;have a2:=zB H4.out.box h8 (fun e=>zQ H4.out.ownN H4.out.box (by decide) e);obtain⟨d0,d1,d2,d3⟩:=zF a2;have f2:=zE a2 3;obtain⟨hN,o3⟩:=H4.out.pushN h9 h8 p8.out i4.out rfl;have k6:=(p6.out.kept h8 (fun k e=>by have:=(H4.out.ownN.lt k e).1;omega)).kept (zC w11 ⟨P+1,3,none⟩ (.slice sn' (t.length+1) cn')) (fun k e=>by have e:P+1=k:=Oj e;omega);have k3:=zB (zB q5.out h8 (fun e=>by have:=(H4.out.ownN.lt _ e).1;omega)) (zC w11 ⟨P+1,3,none⟩ (.slice sn' (t.length+1) cn')) (by simp);have l3:=(q9.out.keptOwn H4.out.ownN (by decide) h8).kept (zC w11 ⟨P+1,3,none⟩ (.slice sn' (t.length+1) cn')) (by simp;omega);have b0:w.grownBy (w11.setCell ⟨P+1,3,none⟩ (.slice sn' (t.length+1) cn')) (some tb):=zA (zA q1.out h8 (fun k e=>by have:=(H4.out.ownN.lt k e).1;have:=H7.out;omega)) (zC w11 ⟨P+1,3,none⟩ (.slice sn' (t.length+1) cn')) (fun k e=>by have e:P+1=k:=Oj e;have:=H7.out;omega);have b8:=Kh hN;have g4:=Kh k6;have i5:=Kh k3;have i2:=Kh b0;have i7:=Kh l3;clear o3 a2 hN k6 k3 b0 l3 h9 h8;go_wp2;go_roundg (N-(fs.length+1))
     case measure=>have:=HG.out;omega
     case rel =>
      refine⟨fs.length+1,fs++[decide (b=1)],t++[row],_,sa',sc',sn',cn',by omega,by go_num,by simp,by simp[H6.out],?_,?_,b8.out,g4.out,i5.out,i7.out,i2.out⟩
      ·intro r hr
       rcases List.mem_append.1 hr with hr|hr
       ·exact m2.out r hr
       ·rw[List.mem_singleton]at hr
        subst hr;refine⟨m1.out,fun x hx=>?_⟩;obtain⟨a,c6,rfl⟩:=List.getElem_of_mem hx;have hd:=g7.out a c6;have e:r.getD a 0=r[a]:=by simp[List.getD_eq_getElem?_getD,c6]
        rw[e]at hd;exact⟨hd.1,by rw[H8.out];exact hd.2.1⟩
      ·intro q' a h3 h4
       unfold ent;rcases Nat.lt_or_ge q' fs.length with h5|h5
       ·have h6:q'<t.length:=by rw[H6.out];exact h5
        rw[List.getD_eq_getElem?_getD (l:=t++[row]),List.getElem?_append_left h6,<-List.getD_eq_getElem?_getD];exact m9.out q' a h5 h4
       ·have h6:q'=t.length:=by have:=H6.out;omega
        subst h6;rw[List.getD_eq_getElem?_getD (l:=t++[row]),List.getElem?_append_right (Nat.le_refl _),H6.out,<-l5.out];simpa using g7.out a (by rw[m1.out];exact h4)
  ·have a7:fs.length=N:=by have:=HG.out;omega
   have hB:=HH.out;have a5:=H6.out;have q3:=Kh a7;have q6:=Kh hB;obtain⟨d0,d1,d2,d3⟩:=zF HH.out.box;obtain⟨e0,e1,e2,e3⟩:=zF h0.out;have f0:=zE h0.out 0;have f1:=zE h0.out 1;have f2:=zE h0.out 2;have f3:=zE h0.out 3;clear hB a7 a5;go_wp2;refine bodyPost_ret (v:=.agg #[.int .i64 letters,.int .i64 0,.slice sf fs.length cf,.slice sn t.length cn]) (by simp[results,Try.results49,go_sem,e0,e1,e2,e3]) rfl ?_;obtain⟨hsR,e8⟩:=wF h0.out (.int .i64 letters) (.int .i64 0) (.slice sf fs.length cf) (.slice sn t.length cn);have n5:=c8.out.lt;have a7:=q3.out;have a5:=H6.out;refine⟨_,⟨letters,0,fs,t⟩,N,rfl,⟨P+1,hs,sf,cf,sn,cn,rfl,by have:=H7.out;omega,(q6.out.base (by have:=H7.out;omega)).far e8 h0.out (by omega)⟩,m2.out.vd h1 (by omega) p2 (by omega) a7 (a5.trans a7) (by omega) (by omega),p1,⟨rfl,fun k hk=>?_⟩,c8.out.kept e8 (fun k e=>by have e:P=k:=Oj e;omega),zA i1.out e8 (fun k e=>by have e:P=k:=Oj e;have:=H7.out;omega)⟩;have hk:letters=k:=Int.ofNat.inj hk;subst hk;refine⟨most,d9,d8,by rw[<-b7.out];exact H8.out,fun q a hq3 c6=>?_⟩;rw[<-b7.out];exact m9.out q a (by rw[a7];exact hq3) c6
end Go.Proofs.Ytjfdomfendbhfaa
