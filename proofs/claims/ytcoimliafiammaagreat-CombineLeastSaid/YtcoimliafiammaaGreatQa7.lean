/- Part 7 of the proof. -/
import Derived.Test.YtcoimliafiammaaGreatQa6
import Derived.Deep.DeepCutAuto
import Derived.Shelf.Small.Wraps
import Derived.Shelf.Strings.Search1
import Derived.Shelf.Strings.Search2
import Derived.Shelf.Strings.Cut
import Derived.Shelf.LaysM
import Derived.Shelf.Strings.Shaped
import Derived.Shelf.Strings.Prefix
import Derived.Shelf.Bits.Mul64
import Derived.Ground.Names2Prog
import Derived.Shelf.Slices.Clone
import Derived.Test.YtcoimliafiammaaGreatProg
import Derived.Lib.MakeNoZero
import Derived.Lib.SlBuf
import Derived.Deep.RegionLaw
import Derived.Laws.Externs
import Derived.Deep.LoopGhost
set_option linter.unusedVariables false
set_option linter.unusedSimpArgs false
set_option maxRecDepth 100000
set_option maxHeartbeats 16000000
namespace Go.Proofs.YtcoimliafiammaaGreat
open Go.RowKit
theorem qKR:ElemN Tryz.prog 55 57 2 (.agg #[.int .i64 0,.int .i64 0]) 16:=⟨by kernel_rfl,by kernel_rfl,by rfl,by decide⟩
def ordV (p:Int×Int):List Value:=[.int .i64 p.1,.int .i64 p.2]
def bQ (l:List (Int×Int)):List Value:=l.flatMap ordV
theorem aU (l:List (Int×Int))(p:Int×Int):bQ (l++[p])=bQ l++ordV p:=by simp[bQ]
theorem dD:∀(l:List (Int×Int)) (i:Nat) (h:i<l.length),(bQ l)[i*2]?=some (.int .i64 l[i].1)/\(bQ l)[i*2+1]?=some (.int .i64 l[i].2)
 | [],i,h=>by simp at h
 | x::l,0,_=>⟨rfl,rfl⟩
 | x::l,i+1,h=>by
  have h1:=dD l i (by simpa using h)
  rw[show bQ (x::l)=.int .i64 x.1::.int .i64 x.2::bQ l from rfl,show (i+1)*2=i*2+1+1 by omega,show i*2+1+1+1=(i*2+1)+1+1 by omega]
  simpa using h1
def ordK (s b:Nat):List (Int×Int):=(List.range (b-max 1 (s-4))).map fun j=>(((max 1 (s-4)+j:Nat):Int),(s:Int)-((max 1 (s-4)+j:Nat):Int))
def ordC (s:Nat):List (Int×Int):=(List.range s).flatMap fun i=>ordK (i+1) (i+2)
def ordO (f b:Nat):List (Int×Int):=(List.range (b-f)).map fun j=>(((f+j:Nat):Int),0)
def ordL (kind:Int)(most:Nat):List (Int×Int):=if kind=7 then ordC most else ordO (if kind=1 then 0 else 1) (most+1)
theorem iA {s b:Nat}(h:max 1 (s-4)<=b):ordK s (b+1)=ordK s b++[((b:Int),(s:Int)-(b:Int))]:=by
 unfold ordK;rw[show b+1-max 1 (s-4)=(b-max 1 (s-4))+1 by omega,List.range_succ,List.map_append];simp only[List.map_cons,List.map_nil];rw[show max 1 (s-4)+(b-max 1 (s-4))=b by omega]
theorem mO (s:Nat):ordC (s+1)=ordC s++ordK (s+1) (s+2):=by
 unfold ordC;rw[List.range_succ,List.flatMap_append];simp
theorem jZ {f b:Nat}(h:f<=b):ordO f (b+1)=ordO f b++[((b:Int),0)]:=by
 unfold ordO;rw[show b+1-f=(b-f)+1 by omega,List.range_succ,List.map_append];simp only[List.map_cons,List.map_nil];rw[show f+(b-f)=b by omega]
def OrdI (w0 w:World)(sa:Option Addr)(n sc:Nat)(l:List (Int×Int)):Prop:=n=l.length/\w.ownsRow w0.heap.size 57 2 (.slice sa n sc) n (bQ l)/\w0.grownBy w none
theorem qVJ {f b:Nat}(hf:f<=b)(hb:b<=9):(ordO f b).length<=9:=by simp[ordO];omega
theorem qJW (s b:Nat):(ordK s b).length=b-max 1 (s-4):=by simp[ordK]
theorem qJX:∀s,s<=8->(ordC s).length<=5*s
 | 0,_=>by simp[ordC]
 | s+1,h=>by
  rw[mO,List.length_append,qJW]
  have:=qJX s (by omega)
  omega
theorem qMX (w:World)(kind:Int)(most:Nat)(hm:most<=8):Calls Tryz.prog 22 #[.int .i64 kind,.int .i64 (most:Int)] w fun e w'=>∃sa n sc,e=.returned (.slice sa n sc)/\OrdI w w' sa n sc (ordL kind most):=by
 have H0:Hid (OrdI w w none 0 0 []):=Kh ⟨rfl,World.ownsRow_nil _ _ _ _,zH _ _⟩;go_enter Tryz.func22,Tryz.ntmps22;by_cases hk:kind=7
 ·have e1:(kind == 7)=true:=by rw[hk];rfl
  have HL:Hid (ordL kind most=ordC most):=Kh (by rw[ordL,if_pos hk]);clear hk;go_wp2
  go_loopg [5,6,7] (most+1) (fun gh v5 v6 v7 wr=>∃(s n sc:Nat) (sa:Option Addr),gh+s=most+2/\1<=s/\s<=most+1/\v6=.int .i64 (s:Nat)/\v5=.slice sa n sc/\OrdI w wr sa n sc (ordC (s-1)))
  case atStart=>exact⟨1,0,0,none,by omega,by omega,by omega,rfl,rfl,H0.out⟩
  clear H0;obtain⟨s,n,sc,sa,H4,a1,a0,rfl,rfl,hi⟩:=hrel;have H2:=Kh H4;have HI:=Kh hi;clear H4 hi;by_cases hs:s<=most
  ·have H6:(s:Int)<=most:=by omega
   obtain⟨f,hf⟩:=Nm (max 1 (s-4):Nat);have H7:1<=f/\f<=s:=by omega
   have HF:=Kh hf;have h2:(¬(1:Int)<(s:Int)-4/\((f:Nat):Int)=1)\/((1:Int)<(s:Int)-4/\(s:Int)-4=(f:Nat)):=by omega
   clear hf;rcases h2 with ⟨q1,q2⟩|⟨q1,q2⟩
   all_goals
    have Q2:=Kh q2;go_wp2;clear q1 q2
    go_loopg [5,7] (s+1-f) (fun gh v5 v7 wr=>∃(b n sc:Nat) (sa:Option Addr) (l:List (Int×Int)),gh+b=s+1/\f<=b/\v7=.int .i64 (b:Nat)/\v5=.slice sa n sc/\l=ordC (s-1)++ordK s b/\OrdI w wr sa n sc l)
    case atStart =>
     have e0:ordC (s-1)++ordK s f=ordC (s-1):=by rw[ordK,<-HF.out,Nat.sub_self];simp
     exact⟨f,n,sc,sa,_,by omega,Nat.le_refl _,by first|rfl|(refine congrArg (Value.int .i64) ?_;have:=Q2.out;have:=HF.out;omega),rfl,e0.symm,HI.out⟩
    obtain⟨b,n,sc,sa,l,h5,h7,rfl,rfl,hl,hn,ho,hg⟩:=hrel;obtain⟨h4,h3,HN,HO,HG⟩:=K5 h5 hl hn ho hg;clear h5 hl hn ho hg HI;by_cases hb:b<=s
    ·have h9:(b:Int)<=s:=by omega
     have h8:n<=100:=by
      have h1:=qJX (s-1) (by omega);rw[HN.out,h3.out,List.length_append,qJW];omega
     go_wp2_with (first|(at_builtin;refine jH rfl _ _ _ rfl qKR w.heap.size (.slice sa n sc) n (bQ l) rfl HO.out [.int .i64 (b:Nat),.int .i64 ((s:Int)-(b:Int))] rfl rfl ?z1 ?z2 ?z3 ?z4 ?_;(case z1=>(intro v hv;simp only[List.mem_cons,List.not_mem_nil,or_false]at hv;rcases hv with rfl|rfl<;>rfl));(case z2=>(unfold maxLen;omega));(case z3=>omega);(case z4=>exact HG.out.size);intro sa' sc' w2 h0 h6;have H1:=Kh h0;have H3:=Kh h6;clear h0 h6)|fail);go_wp2;go_roundg (s+1-(b+1))
     case measure=>have:=h4.out;omega
     exact⟨b+1,n+1,sc',sa',l++[((b:Int),(s:Int)-(b:Int))],by have:=h4.out;omega,by omega,by go_num,rfl,by rw[h3.out,List.append_assoc,iA (by rw[<-HF.out];exact h7)],by rw[List.length_append,<-HN.out];rfl,by rw[aU];exact H1.out,zA HG.out H3.out (fun j e=>(HO.out.lt j e).1)⟩
    have h9:¬(b:Int)<=s:=by omega
    have H8:b=s+1:=by have:=h4.out;omega
    go_wp2;go_roundg (most+1-s)
    case measure=>have:=H2.out;omega
    have e9:ordC (s+1-1)=ordC (s-1)++ordK s b:=by
     have:=mO (s-1);rw[show s-1+1=s by omega,show s-1+2=s+1 by omega]at this;rw[Nat.add_sub_cancel,this,H8]
    exact⟨s+1,n,sc,sa,by have:=H2.out;omega,by omega,by omega,by go_num,rfl,by rw[e9,<-h3.out];exact⟨HN.out,HO.out,HG.out⟩⟩
  have H6:¬(s:Int)<=most:=by omega
  have H5:s-1=most:=by have:=H2.out;omega
  go_wp2;go_ret;exact⟨sa,n,sc,rfl,by rw[HL.out,<-H5];exact HI.out⟩
 have e1:(kind == 7)=false:=by rw[beq_eq_false_iff_ne];exact hk
 have HL:Hid (ordL kind most=ordO (if kind=1 then 0 else 1) (most+1)):=Kh (by rw[ordL,if_neg hk]);clear hk;obtain⟨f,hf⟩:=Nm ((if kind=1 then 0 else 1):Nat);rw[<-hf]at HL;have H7:f<=1:=by rw[hf];split<;>omega
 have a2:=Kh hf;have REST:Hid (∀(gh:Nat) (h:gh+f=most+1),f<=most+1):=Kh (fun _ _=>by omega)
 have h2:((kind == 1)=true/\(0:Int)=(f:Nat))\/((kind == 1)=false/\(1:Int)=(f:Nat)):=by
  by_cases h1:kind=1
  ·rw[if_pos h1]at hf;exact .inl ⟨by rw[h1];rfl,by rw[hf];rfl⟩
  rw[if_neg h1]at hf;exact .inr ⟨by rw[beq_eq_false_iff_ne];exact h1,by rw[hf];rfl⟩
 clear hf;rcases h2 with ⟨e2,q2⟩|⟨e2,q2⟩
 all_goals
  have Q2:=Kh q2;clear q2;go_wp2
  go_loopg [5,9] (most+1-f) (fun gh v5 v9 wr=>∃(b n sc:Nat) (sa:Option Addr) (l:List (Int×Int)),gh+b=most+1/\f<=b/\v9=.int .i64 (b:Nat)/\v5=.slice sa n sc/\l=ordO f b/\OrdI w wr sa n sc l)
  case atStart=>exact⟨f,0,0,none,[],by omega,Nat.le_refl _,by rw[<-Q2.out],rfl,by simp[ordO],H0.out⟩
  clear H0;obtain⟨b,n,sc,sa,l,h5,h7,rfl,rfl,hl,hn,ho,hg⟩:=hrel;obtain⟨h4,h3,HN,HO,HG⟩:=K5 h5 hl hn ho hg;clear h5 hl hn ho hg;by_cases hb:b<=most
  ·have h9:(b:Int)<=most:=by omega
   have h8:n<=100:=by
    have h1:=qVJ h7 (by omega:b<=9);rw[HN.out,h3.out];omega
   go_wp2_with (first|(at_builtin;refine jH rfl _ _ _ rfl qKR w.heap.size (.slice sa n sc) n (bQ l) rfl HO.out [.int .i64 (b:Nat),.int .i64 (0)] rfl rfl ?z1 ?z2 ?z3 ?z4 ?_;(case z1=>(intro v hv;simp only[List.mem_cons,List.not_mem_nil,or_false]at hv;rcases hv with rfl|rfl<;>rfl));(case z2=>(unfold maxLen;omega));(case z3=>omega);(case z4=>exact HG.out.size);intro sa' sc' w2 h0 h6;have H1:=Kh h0;have H3:=Kh h6;clear h0 h6)|fail);go_wp2;go_roundg (most+1-(b+1))
   case measure=>have:=h4.out;omega
   exact⟨b+1,n+1,sc',sa',l++[((b:Int),0)],by have:=h4.out;omega,by omega,by go_num,rfl,by rw[h3.out,jZ h7],by rw[List.length_append,<-HN.out];rfl,by rw[aU];exact H1.out,zA HG.out H3.out (fun j e=>(HO.out.lt j e).1)⟩
  have h9:¬(b:Int)<=most:=by omega
  have H9:b=most+1:=by have:=h4.out;omega
  go_wp2;go_ret;exact⟨sa,n,sc,rfl,by rw[HL.out,<-H9,<-h3.out];exact⟨HN.out,HO.out,HG.out⟩⟩
theorem gJ {w:World}{p e:Nat}{x0 x1 x2 x3 x4 x5:Value}(h:w.heap[p]?=some (.cells #[x0,x1,x2,x3,x4,x5] e (0,0))):w.cell? ⟨p,0,none⟩=some x0/\w.cell? ⟨p,1,none⟩=some x1/\w.cell? ⟨p,2,none⟩=some x2/\w.cell? ⟨p,3,none⟩=some x3/\w.cell? ⟨p,4,none⟩=some x4/\w.cell? ⟨p,5,none⟩=some x5:=by
 have c0:=zJ h 0;have c1:=zJ h 1;have c2:=zJ h 2;have c3:=zJ h 3;have c4:=zJ h 4;have c5:=zJ h 5;exact⟨by simpa using c0,by simpa using c1,by simpa using c2,by simpa using c3,by simpa using c4,by simpa using c5⟩
structure BoxS (B:Nat)(X:Nat->Prop)(o ty:Nat)(w0 wk:World)(rs:List RowS)(c:Array Value)(w:World):Prop where
 mem:EMem X w rs
 typ:∀r∈rs,r.base=B/\r.e≠ty
 box:w.heap[o]?=some (.cells c ty (0,0))
 off:¬X o
 size:w0.heap.size<=B
 old:w0.heap.size<=o
 base:B<=wk.heap.size
 grown:w0.grownBy w none
 kept:uH X wk w
 wk:wk.heap.size<=w.heap.size
section
variable {B:Nat} {X:Nat->Prop} {o ty:Nat} {w0 wk w:World} {rs:List RowS} {c:Array Value}
theorem BoxS.grow (h:BoxS B X o ty w0 wk rs c w){w':World}(hg:w.grownBy w' none):BoxS B X o ty w0 wk rs c w' :=
 ⟨h.mem.grow hg,h.typ,zB h.box hg,h.off,h.size,h.old,h.base,zA h.grown hg,h.kept.trans (h.mem.keep hg),Nat.le_trans h.wk hg.size⟩
theorem BoxS.set (h:BoxS B X o ty w0 wk rs c w)(f:Nat)(u:Value):BoxS B X o ty w0 wk rs (c.setIfInBounds f u) (w.setCell ⟨o,f,none⟩ u):=by
 have hs:=heap_setCell_same w o f _ _ u h.box;have hg:=zD w ⟨o,f,none⟩ u;exact⟨h.mem.far hg (fun r hr=>zO (h.mem.own r hr) h.box (h.typ r hr).2),h.typ,hs,h.off,h.size,h.old,h.base,zY h.grown hg (by show _<=o;have:=h.old;omega),h.kept.trans (uH.of_grown h.mem.lt hg (fun j e hx=>by have e:o=j:=Oj e;subst e;exact h.off hx)),Nat.le_trans h.wk hg.size⟩
theorem BoxS.own (h:BoxS B X o ty w0 wk rs c w){r:RowS}(hr:r∈rs):w.ownsRow r.base r.e r.sz r.v r.n r.xs:=h.mem.own r hr
theorem BoxS.nil (h:BoxS B X o ty w0 wk rs c w){e sz:Nat}(he:e≠ty):BoxS B X o ty w0 wk (rs++[⟨B,e,.slice none 0 0,0,[],sz⟩]) c w :=
 ⟨h.mem.add (zH _ none) (World.ownsRow_nil _ _ _ _) (fun j e=>by simp[Value.ownBlock]at e),fun r hr=>by
  rcases List.mem_append.1 hr with hr|hr
  ·exact h.typ r hr
  ·rw[List.mem_singleton]at hr;subst hr;exact⟨rfl,he⟩,h.box,h.off,h.size,h.old,h.base,h.grown,h.kept,h.wk⟩
theorem BoxS.add (h:BoxS B X o ty w0 wk rs c w){w':World}(hg:w.grownBy w' none){e sz n:Nat}{v:Value}{xs:List Value}(ho:w'.ownsRow w.heap.size e sz v n xs)(he:e≠ty):BoxS B X o ty w0 wk (rs++[⟨B,e,v,n,xs,sz⟩]) c w' :=
 ⟨h.mem.add hg (yU ho (Nat.le_trans h.base h.wk)) (fun k hk=>(ho.lt k hk).1),fun r hr=>by
  rcases List.mem_append.1 hr with hr|hr
  ·exact h.typ r hr
  ·rw[List.mem_singleton]at hr;subst hr;exact⟨rfl,he⟩,zB h.box hg,h.off,h.size,h.old,h.base,zA h.grown hg,h.kept.trans (h.mem.keep hg),Nat.le_trans h.wk hg.size⟩
theorem BoxS.push (h:BoxS B X o ty w0 wk rs c w):Many w (qEG rs) w rs [] []/\B<=w.heap.size/\∀(wM:World) (j:Nat) (r:RowS) (v':Value) (n':Nat) (us:List Value),rs[j]?=some r->Many w (qEG rs) wM (rs.set j ⟨r.base,r.e,v',n',r.xs++us,r.sz⟩) [] []->BoxS B X o ty w0 wk (rs.set j ⟨r.base,r.e,v',n',r.xs++us,r.sz⟩) c wM:=by
 refine⟨h.mem.many _ (fun _ h=>h),Nat.le_trans h.base h.wk,fun wM j r v' n' us hr hMM=>?_⟩
 have hf:∀k,qEG rs k->B<=k/\k≠o/\¬X k:=fun k hk=>by
  obtain⟨r,hr,hk⟩:=hk;have h0:=h.mem.own r hr;refine⟨by have:=(h0.lt k hk).1;rw[(h.typ r hr).1]at this;exact this,fun e=>?_,h.mem.offX r hr k hk⟩;subst e;exact zO h0 h.box (h.typ r hr).2 hk
 refine⟨h.mem.after hMM (fun k hk=>(hf k hk).2.2),fun s hs=>?_,hMM.but.heap h.box (fun hj=>(hf o hj).2.1 rfl),h.off,h.size,h.old,h.base,hMM.but.grown h.grown (fun k hk=>.inr (Nat.le_trans h.size (hf k hk).1)),h.kept.trans (h.mem.keepMany hMM (fun k hk=>(hf k hk).2.2)),Nat.le_trans h.wk hMM.but.size⟩;rcases List.mem_or_eq_of_mem_set hs with hs|rfl
 ·exact h.typ s hs
 exact h.typ r (List.mem_of_getElem? hr)
theorem qEF {w:World}{b e n g cap i:Nat}{xs:List Value}(h:w.ownsRow b e 1 (.slice (some ⟨g,0,none⟩) n cap) n xs)(hi:i<n)(u:Value):(w.setCell ⟨g,i,none⟩ u).ownsRow b e 1 (.slice (some ⟨g,0,none⟩) n cap) n (xs.set i u):=by
 refine⟨by rw[List.length_set];exact h.1,?_⟩;rcases h.2 with ⟨hv,_⟩|⟨g',cap',cur,hv,hb,hg,hnc,hcm,hcs,htake⟩
 ·simp at hv
 simp only[Value.slice.injEq,Option.some.injEq,Addr.mk.injEq]at hv;obtain⟨⟨rfl,_⟩,_,rfl⟩:=hv;have hs:=heap_setCell_same w g i _ _ u hg;refine .inr ⟨g,cap,_,rfl,hb,hs,hnc,hcm,by simpa using hcs,?_⟩;rw[<-htake];simp[List.take_set]
theorem BoxS.put (h:BoxS B X o ty w0 wk rs c w){j g n cap b e i:Nat}{xs:List Value}(hr:rs[j]?=some ⟨b,e,.slice (some ⟨g,0,none⟩) n cap,n,xs,1⟩)(hi:i<n)(u:Value):BoxS B X o ty w0 wk (rs.set j ⟨b,e,.slice (some ⟨g,0,none⟩) n cap,n,xs.set i u,1⟩) c (w.setCell ⟨g,i,none⟩ u):=by
 have h0:=List.mem_of_getElem? hr;have ho:=h.mem.own _ h0;have ht:=h.typ _ h0;simp only at ho ht;have hg:=zD w ⟨g,i,none⟩ u;have h7:g≠o:=fun e1=>by subst e1;exact zO ho h.box ht.2 rfl
 obtain⟨h4,h2⟩:=List.getElem?_eq_some_iff.1 hr;have h3:=List.pairwise_iff_getElem.1 h.mem.apart;refine⟨⟨fun r hr'=>?_,?_,fun r hr' k hk=>?_,fun k hk=>Nat.lt_of_lt_of_le (h.mem.lt k hk) hg.size⟩,fun r hr'=>?_,zB h.box hg (fun e1=>h7 (Oj e1)),h.off,h.size,h.old,h.base,zA h.grown hg (fun k e1=>?_),h.kept.trans (uH.of_grown h.mem.lt hg (fun k e1 hx=>?_)),Nat.le_trans h.wk hg.size⟩
 ·obtain⟨q,hq,rfl⟩:=List.getElem_of_mem hr'
  rw[List.getElem_set];have h1:q<rs.length:=by simpa using hq
  split
  ·exact qEF ho hi u
  rename_i hne
  refine(h.mem.own _ (List.getElem_mem h1)).kept hg (.inr (fun e1=>?_));rcases Nat.lt_or_gt_of_ne hne with hlt|hlt
  ·exact h3 j q h4 h1 hlt g (by rw[h2];rfl) e1
  exact h3 q j h1 h4 hlt g e1 (by rw[h2];rfl)
 ·rw[List.pairwise_iff_getElem]
  intro p q hp hq h5;have h6:p<rs.length:=by simpa using hp
  have h1:q<rs.length:=by simpa using hq
  have:=h3 p q h6 h1 h5;rw[List.getElem_set,List.getElem_set]
  split<;>split
  ·omega
  ·rename_i e1 e2;subst e1;rw[h2]at this;exact this
  ·rename_i e1 e2;subst e2;rw[h2]at this;exact this
  exact this
 ·rcases List.mem_or_eq_of_mem_set hr' with hr'|rfl
  ·exact h.mem.offX r hr' k hk
  exact h.mem.offX _ h0 k hk
 ·rcases List.mem_or_eq_of_mem_set hr' with hr'|rfl
  ·exact h.typ r hr'
  exact ht
 ·have e1:g=k:=Oj e1
  have:=(ho.lt g rfl).1;have:=h.size;omega
 have e1:g=k:=Oj e1;subst e1;exact h.mem.offX _ h0 g rfl hx
end
open Go.Maps
section
variable {B:Nat} {X:Nat->Prop} {o ty:Nat} {w0 wk w w':World} {rs:List RowS} {c:Array Value}
theorem BoxS.rebase (h:BoxS B X o ty w0 wk rs c w):BoxS B X o ty w0 w rs c w :=
 ⟨h.mem,h.typ,h.box,h.off,h.size,h.old,Nat.le_trans h.base h.wk,h.grown,uH.refl _ _,Nat.le_refl _⟩
theorem BoxS.fresh (h:BoxS B X o ty w0 wk rs c w)(hg:w.grownBy w' none){Y:Nat->Prop}(hY:∀k,Y k->w.heap.size<=k/\k<w'.heap.size):BoxS B (fun k=>X k\/Y k) o ty w0 w' rs c w' :=
 ⟨h.mem.fresh hg hY,h.typ,zB h.box hg,fun e=>by
  rcases e with e|e
  ·exact h.off e
  ·have:=(hY o e).1
   have:=zM h.box
   omega,h.size,h.old,Nat.le_trans (Nat.le_trans h.base h.wk) hg.size,zA h.grown hg,uH.refl _ _,Nat.le_refl _⟩
theorem BoxS.far (h:BoxS B X o ty w0 wk rs c w){mb:Nat}(hg:w.grownBy w' (some mb))(hr:∀r∈rs,r.v.ownBlock≠some mb)(hx:¬X mb)(ho:o≠mb)(hold:w0.heap.size<=mb):BoxS B X o ty w0 wk rs c w' :=
 ⟨h.mem.far hg hr,h.typ,zB h.box hg (fun e=>ho (Oj e).symm),h.off,h.size,h.old,h.base,zY h.grown hg (by show _<=mb;omega),h.kept.trans (uH.of_grown h.mem.lt hg (fun j e hxx=>by have e:mb=j:=Oj e;subst e;exact hx hxx)),Nat.le_trans h.wk hg.size⟩
theorem BoxS.appAt (h:BoxS B X o ty w0 wk rs c w){j:Nat}{r:RowS}(hr:rs[j]?=some r){v':Value}{n':Nat}{us:List Value}(ho:w'.ownsRow r.base r.e r.sz v' n' (r.xs++us))(hg:w.grownBy w' r.v.ownBlock)(hm:pG w w' r.v v'):BoxS B X o ty w0 wk (rs.set j ⟨r.base,r.e,v',n',r.xs++us,r.sz⟩) c w':=by
 have h0:=List.mem_of_getElem? hr;have h1:=h.mem.own _ h0;have ht:=h.typ _ h0;have h2:∀k,r.v.ownBlock=some k->B<=k/\k≠o/\¬X k:=fun k hk=>⟨by have:=(h1.lt k hk).1;rw[ht.1]at this;exact this,fun e=>by subst e;exact zO h1 h.box ht.2 hk,h.mem.offX r h0 k hk⟩;refine⟨h.mem.appAt hr ho hg hm,fun s hs=>?_,zB h.box hg (fun e=>(h2 o e).2.1 rfl),h.off,h.size,h.old,h.base,zA h.grown hg (fun k e=>Nat.le_trans h.size (h2 k e).1),h.kept.trans (uH.of_grown h.mem.lt hg (fun k e=>(h2 k e).2.2)),Nat.le_trans h.wk hg.size⟩;rcases List.mem_or_eq_of_mem_set hs with hs|rfl
 ·exact h.typ s hs
 exact ht
theorem BoxS.stand (h:BoxS B X o ty w0 wk rs c w){mb:Nat}(hb:mb<w.heap.size)(hr:∀r∈rs,r.v.ownBlock≠some mb)(ho:o≠mb):BoxS B (fun q=>X q\/q=mb) o ty w0 w rs c w :=
  ⟨⟨h.mem.own,h.mem.apart,fun r hr' k hk hx=>by
    rcases hx with hx|hx
    · exact h.mem.offX r hr' k hk hx
    · subst hx;exact hr r hr' hk,fun k hk=>by
    rcases hk with hk|hk
    · exact h.mem.lt k hk
    · subst hk;exact hb⟩,h.typ,h.box,fun e=>by
    rcases e with e|e
    · exact h.off e
    · exact ho e,h.size,h.old,Nat.le_trans h.base h.wk,h.grown,uH.refl _ _,Nat.le_refl _⟩
theorem BoxS.less {X':Nat->Prop}(h:BoxS B X' o ty w0 wk rs c w)(hX:∀q,X q->X' q):BoxS B X o ty w0 wk rs c w :=
 ⟨⟨h.mem.own,h.mem.apart,fun r hr k hk hx=>h.mem.offX r hr k hk (hX k hx),fun k hk=>h.mem.lt k (hX k hk)⟩,h.typ,h.box,fun e=>h.off (hX o e),h.size,h.old,h.base,h.grown,fun k hk=>h.kept k (hX k hk),h.wk⟩
end
theorem MapK.of_block {α:Type}{kt:TypeId}{V:α->Prop}{kv:α->Value}{w w':World}{b n c:Nat}{f:α->Option Nat}(h:MapK kt V kv w b n c f)(hb:w'.heap[b]?=w.heap[b]?):MapK kt V kv w' b n c f:=by
 obtain⟨D,⟨es,clock,h1,h2⟩,h3⟩:=h;exact⟨D,⟨es,clock,hb.trans h1,h2⟩,h3⟩
theorem yL {w:World}{base e sz n b:Nat}{v:Value}{xs:List Value}{es:Array (Value×Value)}{clock:Nat}(h:w.ownsRow base e sz v n xs)(hb:∃es clock,w.heap[b]?=some (.map es clock)):v.ownBlock≠some b:=by
 obtain⟨es,clock,hb⟩:=hb;rcases h.2 with ⟨h1,_⟩|⟨g,cap,cur,h1,_,hg,_⟩
 ·rw[h1];simp[Value.ownBlock]
 rw[h1];intro e;have e:g=b:=by simpa [Value.ownBlock] using e
 subst e;rw[hb]at hg;simp at hg
theorem RowX.of_new {X:Nat->Prop}{w:World}{g n c:Nat}{f:List Nat}(h:Arr w g 3 (nats f))(hn:f.length=n)(hc:n<=c)(hm:c<=maxLen)(hX:X g):RowX X 3 w (.slice (some ⟨g,0,none⟩) n c) (nats f):=by
 subst hn;have:=h.rowT' (cap:=c) (by rw[zV];exact hc) hm;rw[zV]at this;exact⟨this,fun k hk=>by simp[Value.ownBlock]at hk;subst hk;exact hX⟩
def numE (els:List (List Nat))(f:List Nat):Option Nat:=if f∈els then some (els.idxOf f) else none
theorem qEN {a9:List (List Nat)}{f:List Nat}(h:f ∉ a9):(fun q=>if q=f then some a9.length else numE a9 q)=numE (a9++[f]):=by
 funext q;unfold numE;by_cases e:q=f
 ·subst e
  rw[if_pos rfl,if_pos (by simp),List.idxOf_append,if_neg h];simp
 rw[if_neg e];by_cases hq:q∈a9
 ·rw[if_pos hq,if_pos (by simp[hq]),List.idxOf_append,if_pos hq]
 rw[if_neg hq,if_neg (by simp[hq,e])]
theorem xBQ {P:Program}{w:World}{ops:Array Oper}{a9:List Oper}{o:Oper}{a:Act}{Q:Exit->Act->World->Prop}(a8:o.guard=none)(l c:Operand)(t:TypeId)(ho:o.op=.makeSlice t l c){e:TypeId}{z:Value}{bytes:Nat}(E:ElemOk P t e z bytes)(hz:z.cells=#[z])(kl kc:IntKind)(L C:Int)(n:Nat)(hl:a.eval l=.int kl L)(hc:a.eval c=.int kc C)(hL:L=(n:Int))(hC:C=(n:Int))(hb:bytes*n<=281474976710656)(a7:n<=maxLen)(h:∀w',w'.ownsRow w.heap.size e 1 (.slice (some ⟨w.heap.size,0,none⟩) n n) n (List.replicate n z)->w.grownBy w' none->w.heap.size<w'.heap.size->wpList P ops Q a9 (a.put o.dst (.slice (some ⟨w.heap.size,0,none⟩) n n)) w'):wpList P ops Q (o::a9) a w:=by
 obtain⟨i,hi,h1,h2,h3⟩:=info_parts E.hi;refine wpList_make_full w a8 l c t ho w.heap.size e i z 1 E.ht hi h1 h2 kl kc L C n hl hc hL hC (by rw[h3];exact hb) a7 (Nat.le_refl _) ?_;intro w' h0 hg;have ha:=Arr.of_owns h0;rw[mU hz]at h0;exact h w' h0 hg ha.lt
end Go.Proofs.YtcoimliafiammaaGreat
namespace Go.Proofs.YtcoimliafiammaaGreat
open Go.RowKit
def zb (l:List Nat):List Int:=l.map fun(x:Nat)=>(x:Int)
def txtT (f:List Nat):ByteArray:=strOfNums (zb f)
theorem qCU (l:List Nat):(zb l).length=l.length:=by simp[zb]
def u8s (l:List Nat):List Value:=(zb l).map (Value.int .u8)
theorem bZ (l:List Nat):(u8s l).length=l.length:=by simp[u8s,zb]
theorem eJ (l:List Nat)(i x:Nat):(u8s l).set i (.int .u8 (x:Int))=u8s (l.set i x):=by simp[u8s,zb,List.map_set]
theorem qAS (n:Nat):u8s (List.replicate n 0)=List.replicate n (.int .u8 0):=by simp[u8s,zb]
theorem qAT {w:World}{g:Nat}{l:List Nat}(h:Arr w g 5 (u8s l))(i:Nat)(hi:i<l.length):w.cell? ⟨g,i,none⟩=some (.int .u8 ((l.getD i 0:Nat):Int)):=by
 rw[h.cell i (by rw[bZ];exact hi),zG hi];simp[u8s,zb]
theorem qIY {f g:List Nat}(hf:∀x∈f,x<256)(hg:∀x∈g,x<256)(h:txtT f=txtT g):f=g:=by
 have h1:(zb f).map (fun n=>UInt8.ofNat n.toNat)=(zb g).map (fun n=>UInt8.ofNat n.toNat):=by
  have:=congrArg (fun s:ByteArray=>s.data.toList) h;simpa [txtT,strOfNums] using this
 simp only[zb,List.map_map]at h1;refine List.ext_getElem (by have:=congrArg List.length h1;simpa using this) fun i h2 h3=>?_;have h4:=congrArg (fun l=>l[i]?) h1;simp only[List.getElem?_map,List.getElem?_eq_getElem h2,List.getElem?_eq_getElem h3,Option.map_some,Option.some.injEq,Function.comp,Int.toNat_natCast]at h4;have h5:=congrArg UInt8.toNat h4;have h6:=hf _ (List.getElem_mem h2);have h7:=hg _ (List.getElem_mem h3);simp only[UInt8.toNat_ofNat']at h5;omega
theorem qIB:ElemOk Tryz.prog 73 5 (.int .u8 0) 1:=⟨Tryz.underlying73,by kernel_rfl,rfl⟩
def qBM (letters:Int)(n:Int):Prop:=97<=n/\n<97+letters
def pK (letters:Int)(c:UInt8):Bool:=decide (97<=(c.toNat:Int)/\(c.toNat:Int)-97<letters)
def zU (s:ByteArray)(letters:Int):Bool:=decide (1<=letters/\letters<=6/\s.size<=2048) && s.data.toList.all (pK letters)
theorem pH (s:ByteArray)(letters:Int)(k:Nat)(hk:k<s.size)(h:(s[k].toNat:Int)<97\/letters<=((s[k].toNat:Int)-97) % 256):zU s letters=false:=by
 have hm:s[k]∈s.data.toList:=by
  have:s[k]=s.data[k]'(by simpa using hk):=rfl;rw[this];simp
 have h2:pK letters s[k]=false:=by
  have:=UInt8.toNat_lt s[k];simp[pK];omega
 unfold zU;rw[Bool.and_eq_false_iff];right;rw[List.all_eq_false];exact⟨_,hm,by simp[h2]⟩
theorem qLF (s:ByteArray)(letters:Int)(k:Nat)(hk:k<s.size)(h:(s.data.toList.take k).all (pK letters)=true)(h1:97<=(s[k].toNat:Int)/\((s[k].toNat:Int)-97) % 256<letters):(s.data.toList.take (k+1)).all (pK letters)=true:=by
 rw[List.take_succ_eq_append_getElem (by simpa using hk),List.all_append,h];have:s.data.toList[k]'(by simpa using hk)=s[k]:=rfl;have h3:=UInt8.toNat_lt s[k];simp[this,pK];omega
theorem jJ (s:ByteArray)(letters:Int)(k:Nat)(hk:s.size<=k)(h:1<=letters/\letters<=6/\s.size<=2048)(ha:(s.data.toList.take k).all (pK letters)=true):zU s letters=true:=by
 rw[List.take_of_length_le (by simpa using hk)]at ha;simp[zU,ha,h]
theorem oT (s:ByteArray)(letters:Int)(w:World)(hs:s.size<=maxLen):Calls Tryz.prog 53 #[.string s,.int .i64 letters] w fun e w'=>e=.returned (.bool (zU s letters))/\w=w':=by
 unfold maxLen at hs;by_cases h1:letters<1
 ·go_enter Tryz.func53,Tryz.ntmps53
  go_wp2;go_ret;exact⟨zW (by simp[zU];omega),rfl⟩
 by_cases h2:6<letters
 ·go_enter Tryz.func53,Tryz.ntmps53
  go_wp2;go_ret;exact⟨zW (by simp[zU];omega),rfl⟩
 by_cases h3:2048<s.size
 ·go_enter Tryz.func53,Tryz.ntmps53
  go_wp2;go_ret;exact⟨zW (by simp[zU];omega),rfl⟩
 go_enter Tryz.func53,Tryz.ntmps53;go_wp2
 go_loop [19] (fun i=>∃k:Nat,k<=s.size/\i=.int .i64 k/\(s.data.toList.take k).all (pK letters)=true) (fun i=>s.size-(intOf i).toNat)
 case atStart=>exact⟨0,Nat.zero_le _,rfl,rfl⟩
 obtain⟨k,hk,rfl,h0⟩:=hrel;have HA:=Kh h0;clear h0;by_cases hlt:k<s.size
 ·go_wp2
  ·go_ret
   exact⟨zW (by rw[eq_comm];exact pH s letters k hlt (by omega)),rfl⟩
  ·go_round
   case rel=>exact⟨k+1,by omega,by go_num,qLF s letters k hlt HA.out (by omega)⟩
   simp[intOf];omega
  go_ret;exact⟨zW (by rw[eq_comm];exact pH s letters k hlt (by omega)),rfl⟩
 go_wp2;go_ret;exact⟨zW (by rw[eq_comm];exact jJ s letters k (by omega) (by omega) HA.out),rfl⟩
def rT (letters:Int):Nat->List Int->List Int×Bool
 | 0,l=>(l,false)
 | i+1,l=>if l.getD i 0-97<letters-1 then (l.set i (l.getD i 0+1),true) else rT letters i (l.set i 97)
theorem qHM {letters:Int}{j:Nat}{c:List Int}(hj:j<c.length)(h:c[j]-97<letters-1):rT letters (j+1) c=(c.set j (c[j]+1),true):=by
 have h3:c.getD j 0=c[j]:=by simp[List.getD,hj]
 unfold rT;rw[h3,if_pos h]
theorem qRF {letters:Int}{j:Nat}{c:List Int}(hj:j<c.length)(h:¬c[j]-97<letters-1):rT letters (j+1) c=rT letters j (c.set j 97):=by
 have h3:c.getD j 0=c[j]:=by simp[List.getD,hj]
 rw[rT,h3,if_neg h]
theorem qRE (g cap:Nat)(l:List Int)(letters:Int)(w:World)(h1:1<=letters)(h6:letters<=6)(a8:∀n∈l,qBM letters n)(a7:l.length<=1000)(a9:Arr w g 5 (l.map (Value.int .u8))):Calls Tryz.prog 79 #[.slice (some ⟨g,0,none⟩) l.length cap,.int .i64 letters] w fun e w'=>e=.returned (.bool (rT letters l.length l).2)/\Arr w' g 5 ((rT letters l.length l).1.map (Value.int .u8))/\w.grownBy w' (some g):=by
 go_enter Tryz.func79,Tryz.ntmps79;go_wp2
 go_loopw [5] (fun i wr=>∃(c:List Int) (k:Nat),i=.int .i64 ((k:Int)-1)/\k<=l.length/\c.length=l.length/\(∀n∈c,qBM letters n)/\rT letters k c=rT letters l.length l /\
   Arr wr g 5 (c.map (Value.int .u8))/\w.grownBy wr (some g))
  (fun i _=>(intOf i+1).toNat)
 case atStart=>exact⟨l,l.length,rfl,Nat.le_refl _,rfl,a8,rfl,a9,zH _ _⟩
 clear a9;obtain⟨c,k,rfl,hk,h4,h3,hn,a9,hg⟩:=hrel;have CL:=Kh h4;have NX:=Kh hn;clear h4 hn;by_cases hp:0<k
 ·obtain⟨j,rfl⟩:∃j,k=j+1:=⟨k-1,by omega⟩
  have hj:j<c.length:=(by rw[CL.out];omega);have hc:=a9.cell j (by simpa using hj);have hf:=a9.frozen j;rw[List.getElem_map]at hc;have hm:=h3 _ (List.getElem_mem hj);have h7:=hm.1;have h5:=hm.2;have h2:=a9.set j (by simpa using hj) (.int .u8 (c[j]+1));have h0:=a9.set j (by simpa using hj) (.int .u8 97);have e1:((j+1:Nat):Int)-1=j:=by omega
  rw[e1];obtain⟨OW,S1,S2⟩:=K3 a9 h2 h0;clear a9 h2 h0 e1 hm;by_cases hlt:c[j]-97<letters-1
  ·go_wp2
   go_ret;rw[<-NX.out,qHM hj (by omega)];exact⟨rfl,by rw[List.map_set];exact S1.out,zC hg (zD _ _ _)⟩
  go_wp2;go_roundw
  case rel =>
   refine⟨c.set j 97,j,rfl,by omega,by simp[CL.out],?_,by rw[<-NX.out,qRF hj (by omega)],by rw[List.map_set];exact S2.out,zC hg (zD _ _ _)⟩;intro n hn;rcases List.mem_or_eq_of_mem_set hn with hn|hn
   ·exact h3 n hn
   subst hn;unfold qBM;omega
  simp[intOf]
 obtain rfl:k=0:=by omega
 go_wp2;go_ret;rw[<-NX.out];exact⟨rfl,a9,hg⟩
def lex (letters:Nat):Nat->List (List Int)
 | 0=>[[]]
 | n+1=>(lex letters n).flatMap fun w=>(List.range letters).map fun(c:Nat)=>w++[97+(c:Int)]
def iD (letters:Nat)(l:List Int):List Int×Bool:=rT letters l.length l
def Run (letters:Nat):List (List Int)->Prop
 | []=>False
 | [w]=>(iD letters w).2=false
 | w::v::r=>iD letters w=(v,true)/\Run letters (v::r)
theorem qPO {letters:Nat}:∀ {L:List (List Int)} (_:Run letters L) (i:Nat) (hi:i<L.length),(iD letters L[i]).2=decide (i+1<L.length)/\∀h:i+1<L.length,(iD letters L[i]).1=L[i+1]
 | [w],h,0,_=>by
  have h':(iD letters w).2=false:=h
  exact⟨by simpa using h',by simp⟩
 | w::v::r,h,0,_=>⟨by simp[h.1],fun _=>by simp[h.1]⟩
 | w::v::r,h,i+1,hi=>by
  have:=qPO h.2 i (by simpa using hi)
  simpa using this
theorem qEO (letters:Int)(c:Int):∀(i:Nat) (w:List Int),i<=w.length->rT letters i (w++[c])=((rT letters i w).1++[c],(rT letters i w).2):=by
 intro i
 induction i with
 | zero=>intro w _;rfl
 | succ i ih =>
  intro w hi;have h1:(w++[c]).getD i 0=w.getD i 0:=by simp[List.getD,List.getElem?_append_left (show i<w.length by omega)]
  unfold rT;rw[h1,List.set_append_left _ _ (by omega),List.set_append_left _ _ (by omega)]
  split
  ·rfl
  exact ih _ (by simpa using (show i<=w.length by omega))
theorem qAA (letters:Nat)(w:List Int)(c:Nat)(hc:c<letters):iD letters (w++[97+(c:Int)])=if c+1<letters then (w++[97+((c+1:Nat):Int)],true) else ((iD letters w).1++[97],(iD letters w).2):=by
 unfold iD;rw[List.length_append,List.length_singleton];have h1:(w++[97+(c:Int)]).getD w.length 0=97+(c:Int):=by simp[List.getD]
 rw[rT,h1];by_cases h:c+1<letters
 ·rw[if_pos (by omega),if_pos h]
  simp;omega
 rw[if_neg (by omega),if_neg h,List.set_append_right _ _ (Nat.le_refl _)];simp only[Nat.sub_self,List.set_cons_zero];exact qEO _ _ _ _ (Nat.le_refl _)
def block (letters:Nat)(w:List Int)(c:Nat):List (List Int):=(List.range' c (letters-c)).map fun(c:Nat)=>w++[97+(c:Int)]
theorem kA {letters c:Nat}(w:List Int)(h:c<letters):block letters w c=(w++[97+(c:Int)])::block letters w (c+1):=by
 unfold block;rw[show letters-c=(letters-(c+1))+1 by omega,List.range'_succ];rfl
theorem qTH {letters c:Nat}(w:List Int)(h:letters<=c):block letters w c=[]:=by
 unfold block;rw[show letters-c=0 by omega];rfl
theorem iF (letters n:Nat):lex letters (n+1)=(lex letters n).flatMap fun w=>block letters w 0:=by
 simp[lex,block,List.range_eq_range']
theorem qDK {letters:Nat}(w:List Int)(a9:List (List Int))(a8:(a9=[]/\(iD letters w).2=false)\/∃v r,a9=(v++[97])::r/\iD letters w=(v,true)/\Run letters a9):∀(d c:Nat),letters=c+d->0<d->Run letters (block letters w c++a9):=by
 intro d
 induction d with
 | zero=>intro c _ h;omega
 | succ d ih =>
  intro c hc _;rw[kA w (by omega)];by_cases hd:d=0
  ·subst hd
   rw[qTH w (by omega),List.cons_append,List.nil_append];have hs:=qAA letters w c (by omega);rw[if_neg (by omega)]at hs;rcases a8 with ⟨rfl,h⟩|⟨v,r,rfl,h,hr⟩
   ·show (iD letters _).2=false
    rw[hs];exact h
   refine⟨?_,hr⟩;rw[hs,h]
  have hi:=ih (c+1) (by omega) (by omega);rw[kA w (by omega)]at hi⊢;refine⟨?_,hi⟩;rw[qAA letters w c (by omega),if_pos (by omega)]
theorem qJJ {letters:Nat}(h1:0<letters):∀ {L:List (List Int)},Run letters L->Run letters (L.flatMap fun w=>block letters w 0)
 | [w],h=>by
  have:=qDK w [] (.inl ⟨rfl,h⟩) letters 0 (by omega) h1
  simpa using this
 | w::v::r,h=>by
  have hr:=qJJ h1 h.2
  rw[List.flatMap_cons]
  refine qDK w _ (.inr ⟨v,block letters v 1++r.flatMap fun w=>block letters w 0,?_,h.1,hr⟩) letters 0 (by omega) h1
  rw[List.flatMap_cons,kA v h1]
  simp
theorem qPN {letters:Nat}(h1:0<letters):∀n,Run letters (lex letters n)
 | 0=>rfl
 | n+1=>by rw[iF];exact qJJ h1 (qPN h1 n)
theorem rG {letters:Nat}:∀ {n:Nat} {w:List Int},w∈lex letters n->w.length=n/\∀x∈w,qBM letters x
 | 0,w,h=>by simp[lex]at h;subst h;simp
 | n+1,w,h=>by
  simp only[lex,List.mem_flatMap,List.mem_map,List.mem_range]at h
  obtain⟨v,hv,c,hc,rfl⟩:=h
  obtain⟨h1,h2⟩:=rG hv
  refine⟨by simp[h1],fun x hx=>?_⟩
  rcases List.mem_append.1 hx with hx|hx
  ·exact h2 x hx
  ·simp at hx;subst hx;unfold qBM;omega
theorem uF (letters:Nat):∀n,(lex letters n).length=letters ^ n
 | 0=>rfl
 | n+1=>by
  rw[iF,List.length_flatMap]
  have:(lex letters n).map (fun w=>(block letters w 0).length)=List.replicate (letters ^ n) letters:=by
   rw[<-uF letters n,<-List.map_const'];refine List.map_congr_left fun w _=>?_;simp[block]
  rw[this,List.sum_replicate_nat,Nat.pow_succ]
theorem qKG {letters:Nat}(h1:0<letters):∀n,∃r,lex letters n=List.replicate n 97::r
 | 0=>⟨[],rfl⟩
 | n+1=>by
  obtain⟨r,hr⟩:=qKG h1 n
  rw[iF,hr,List.flatMap_cons,kA _ h1]
  refine⟨block letters (List.replicate n 97) (0+1)++List.flatMap (fun w=>block letters w 0) r,?_⟩
  rw[List.cons_append,List.replicate_succ']
  simp
end Go.Proofs.YtcoimliafiammaaGreat
namespace Go.Proofs
open Go.Shelf
def Tryz.lays103_ren:Go.Shelf.Ren:=⟨fun|103=>74|210=>92|206=>107|n=>n,fun|9=>9|4=>4|24=>124|3=>3|n=>n,fun|n=>n⟩
theorem Tryz.lays103:Go.Proofs.Lays.n103 Tryz.prog Tryz.lays103_ren:={
 mixed:=by kernel_rfl
 f103:=Tryz.func74.trans (congrArg some (by kernel_rfl))
 f206:=Tryz.func107.trans (congrArg some (by kernel_rfl))
 f210:=Tryz.func92.trans (congrArg some (by kernel_rfl))
 t3:=Tryz.underlying3
 a3:=Tryz.isAgg3
 z3:=Tryz.sizeOf3
 v3:=Tryz.zeroValue3
 t4:=Tryz.underlying4
 a4:=Tryz.isAgg4
 z4:=Tryz.sizeOf4
 v4:=Tryz.zeroValue4
 t9:=Tryz.underlying9
 a9:=Tryz.isAgg9
 z9:=Tryz.sizeOf9
 v9:=Tryz.zeroValue9
 t24:=Tryz.underlying124
 a24:=Tryz.isAgg124
 z24:=Tryz.sizeOf124
 v24:=Tryz.zeroValue124 }
open Go.RowKit in
theorem Tryz.strings_CutPrefix (s p:ByteArray)(w:World):
  Calls Tryz.prog 74 #[.string s,.string p] w fun e w'=>e=.returned (.tuple #[.string ⟨(Lib.trimPrefix s.data.toList p.data.toList).toArray⟩,.bool (Lib.hasPrefix s.data.toList p.data.toList)])/\w'=w:=Any.strings_CutPrefix Tryz.lays103 s p w
def Tryz.lays145_ren:Go.Shelf.Ren:=⟨fun|145=>75|220=>93|219=>108|217=>112|225=>113|224=>114|267=>115|266=>116|314=>117|n=>n,fun|9=>9|4=>4|59=>126|3=>3|5=>5|46=>138|146=>163|51=>162|n=>n,fun|1=>0|n=>n⟩
theorem Tryz.lays145:Go.Proofs.Lays.n145 Tryz.prog Tryz.lays145_ren:={
 mixed:=by kernel_rfl
 f145:=Tryz.func75.trans (congrArg some (by kernel_rfl))
 f217:=Tryz.func112.trans (congrArg some (by kernel_rfl))
 f219:=Tryz.func108.trans (congrArg some (by kernel_rfl))
 f220:=Tryz.func93.trans (congrArg some (by kernel_rfl))
 f224:=Tryz.func114.trans (congrArg some (by kernel_rfl))
 f225:=Tryz.func113.trans (congrArg some (by kernel_rfl))
 f266:=Tryz.func116.trans (congrArg some (by kernel_rfl))
 f267:=Tryz.func115.trans (congrArg some (by kernel_rfl))
 f314:=Tryz.func117.trans (congrArg some (by kernel_rfl))
 t3:=Tryz.underlying3
 a3:=Tryz.isAgg3
 z3:=Tryz.sizeOf3
 v3:=Tryz.zeroValue3
 t4:=Tryz.underlying4
 a4:=Tryz.isAgg4
 z4:=Tryz.sizeOf4
 v4:=Tryz.zeroValue4
 t5:=Tryz.underlying5
 a5:=Tryz.isAgg5
 z5:=Tryz.sizeOf5
 v5:=Tryz.zeroValue5
 t9:=Tryz.underlying9
 a9:=Tryz.isAgg9
 z9:=Tryz.sizeOf9
 v9:=Tryz.zeroValue9
 t46:=Tryz.underlying138
 a46:=Tryz.isAgg138
 z46:=Tryz.sizeOf138
 v46:=Tryz.zeroValue138
 t51:=Tryz.underlying162
 a51:=Tryz.isAgg162
 z51:=Tryz.sizeOf162
 v51:=Tryz.zeroValue162
 t59:=Tryz.underlying126
 a59:=Tryz.isAgg126
 z59:=Tryz.sizeOf126
 v59:=Tryz.zeroValue126
 t146:=Tryz.underlying163
 a146:=Tryz.isAgg163
 z146:=Tryz.sizeOf163
 v146:=Tryz.zeroValue163
 g1:=by kernel_rfl }
open Go.RowKit Go.Lib in
theorem Tryz.strings_Cut (s a9:ByteArray)(m:Int)(w:World)(hs:s.size<4294967281)(hm:w.cell? ⟨0,0,none⟩=some (.int .i64 m)):
  Calls Tryz.prog 75 #[.string s,.string a9] w fun e w'=>e=.returned (.tuple #[.string ⟨(Lib.cut s.data.toList a9.data.toList).1.toArray⟩,.string ⟨(Lib.cut s.data.toList a9.data.toList).2.1.toArray⟩,.bool (Lib.cut s.data.toList a9.data.toList).2.2])/\∃n,w'=w.drewN n:=Any.strings_Cut Tryz.lays145 s a9 m w hs hm
def Tryz.lays100_ren:Go.Shelf.Ren:=⟨fun|100=>76|207=>94|n=>n,fun|9=>9|4=>4|3=>3|n=>n,fun|n=>n⟩
theorem Tryz.lays100:Go.Proofs.Lays.n100 Tryz.prog Tryz.lays100_ren:={
 mixed:=by kernel_rfl
 f100:=Tryz.func76.trans (congrArg some (by kernel_rfl))
 f207:=Tryz.func94.trans (congrArg some (by kernel_rfl))
 t3:=Tryz.underlying3
 a3:=Tryz.isAgg3
 z3:=Tryz.sizeOf3
 v3:=Tryz.zeroValue3
 t4:=Tryz.underlying4
 a4:=Tryz.isAgg4
 z4:=Tryz.sizeOf4
 v4:=Tryz.zeroValue4
 t9:=Tryz.underlying9
 a9:=Tryz.isAgg9
 z9:=Tryz.sizeOf9
 v9:=Tryz.zeroValue9 }
open Go.RowKit Go.Lib in
theorem Tryz.strings_HasSuffix (s p:ByteArray)(w:World)(hs:s.size<=9223372036854775807):
  Calls Tryz.prog 76 #[.string s,.string p] w fun e w'=>e=.returned (.bool (Lib.hasSuffix s.data.toList p.data.toList))/\w'=w:=Any.strings_HasSuffix Tryz.lays100 s p w hs
def Tryz.lays212_ren:Go.Shelf.Ren:=⟨fun|212=>95|263=>109|264=>110|n=>n,fun|46=>138|51=>162|146=>163|53=>165|148=>166|n=>n,fun|n=>n⟩
theorem Tryz.lays212:Go.Proofs.Lays.n212 Tryz.prog Tryz.lays212_ren:={
 mixed:=by kernel_rfl
 f212:=Tryz.func95.trans (congrArg some (by kernel_rfl))
 f263:=Tryz.func109.trans (congrArg some (by kernel_rfl))
 f264:=Tryz.func110.trans (congrArg some (by kernel_rfl))
 t46:=Tryz.underlying138
 a46:=Tryz.isAgg138
 z46:=Tryz.sizeOf138
 v46:=Tryz.zeroValue138
 t51:=Tryz.underlying162
 a51:=Tryz.isAgg162
 z51:=Tryz.sizeOf162
 v51:=Tryz.zeroValue162
 t53:=Tryz.underlying165
 a53:=Tryz.isAgg165
 z53:=Tryz.sizeOf165
 v53:=Tryz.zeroValue165
 t146:=Tryz.underlying163
 a146:=Tryz.isAgg163
 z146:=Tryz.sizeOf163
 v146:=Tryz.zeroValue163
 t148:=Tryz.underlying166
 a148:=Tryz.isAgg166
 z148:=Tryz.sizeOf166
 v148:=Tryz.zeroValue166 }
open Go.RowKit Go.Lib in
theorem Tryz.bits_Mul (x y:Nat)(hx:x<18446744073709551616)(hy:y<18446744073709551616)(w:World):
  Calls Tryz.prog 95 #[.int .u64 x,.int .u64 y] w fun e w'=>e=.returned (.tuple #[.int .u64 ((x*y / 18446744073709551616:Nat):Int),.int .u64 ((x*y % 18446744073709551616:Nat):Int)])/\w'=w:=Any.bits_Mul Tryz.lays212 x y hx hy w
def Tryz.laysNm216_ren:Go.Shelf.Ren:=⟨fun|16=>69|n=>n,fun|24=>46|9=>9|4=>4|n=>n,fun|n=>n⟩
theorem Tryz.laysNm216:Go.Proofs.Lays2.n16 Tryz.prog Tryz.laysNm216_ren:={
 mixed:=by kernel_rfl
 f16:=Tryz.func69.trans (congrArg some (by kernel_rfl))
 t4:=Tryz.underlying4
 a4:=Tryz.isAgg4
 z4:=Tryz.sizeOf4
 v4:=Tryz.zeroValue4
 t9:=Tryz.underlying9
 a9:=Tryz.isAgg9
 z9:=Tryz.sizeOf9
 v9:=Tryz.zeroValue9
 t24:=Tryz.underlying46
 a24:=Tryz.isAgg46
 z24:=Tryz.sizeOf46
 v24:=Tryz.zeroValue46
 i9:=by kernel_rfl }
open Go.RowKit Go.Lib in
theorem Tryz.slices_Clone_string (b off n c:Nat)(zs:List ByteArray)(w:World)(hz:n<=zs.length)(a9:n*16<=140737488355328)(hc:∀j,j<zs.length->w.cell? ⟨b,off+j,none⟩=some (.string (zs.getD j ByteArray.empty))):
  Calls Tryz.prog 69 #[.slice (some ⟨b,off,none⟩) n c] w fun e w'=>∃v',e=.returned v'/\w'.ownsRow w.heap.size 9 1 v' n ((zs.take n).map (Value.string))/\v'≠.slice none 0 0/\Below w.heap.size w w':=Any.slices_Clone_string Tryz.laysNm216 b off n c zs w hz a9 hc
open Go.RowKit Go.Lib in
theorem Tryz.slices_Clone_string_nil (n c:Nat)(w:World):
  Calls Tryz.prog 69 #[.slice none n c] w fun e w'=>e=.returned (.slice none 0 0)/\w'=w:=Any.slices_Clone_string_nil Tryz.laysNm216 n c w
open Go.RowKit Go.Lib in
theorem Tryz.slices_Clone_string_zero (a:Addr)(c:Nat)(w:World):
  Calls Tryz.prog 69 #[.slice (some a) 0 c] w fun e w'=>∃v',e=.returned v'/\w'.ownsRow w.heap.size 9 1 v' 0 []/\v'≠.slice none 0 0/\Below w.heap.size w w':=Any.slices_Clone_string_zero Tryz.laysNm216 a c w
end Go.Proofs
namespace Go.Proofs.YtcoimliafiammaaGreat
open Go.RowKit
def mA (w:World)(g N k:Nat):Prop:=∃xs:List Value,Arr w g 5 xs/\xs.length=N/\k<=N/\xs.take k=List.replicate k (.int .u8 97)
theorem mA.of_heap {w w':World}{g N k:Nat}(h:mA w g N k)(he:w'.heap=w.heap):mA w' g N k:=by
 obtain⟨xs,h1,h2,h3,h4⟩:=h;exact⟨xs,h1.of_heap he,h2,h3,h4⟩
theorem Arr.setCells {g:Nat}{e:TypeId}:∀(vs:List Value) (o:Nat) {w:World} {xs:List Value},Arr w g e xs->o+vs.length<=xs.length->Arr (w.setCells g o vs) g e (xs.take o++vs++xs.drop (o+vs.length))
 | [],o,w,xs,h,_=>by simpa [World.setCells] using h
 | v::r,o,w,xs,h,hl=>by
  rw[List.length_cons]at hl
  have:=Arr.setCells r (o+1) (h.set o (by omega) v) (by rw[List.length_set];omega)
  rw[World.setCells]
  have e1:(xs.set o v).take (o+1)=xs.take o++[v]:=by
   rw[List.take_succ_eq_append_getElem (by rw[List.length_set];omega),List.take_set_of_le (by omega)];simp
  rw[e1,List.drop_set_of_lt (by omega)]at this;rw[List.length_cons,show o+(r.length+1)=o+1+r.length by omega];simpa using this
theorem nY (g:Nat):∀(vs:List Value) (o:Nat) (w:World),w.grownBy (w.setCells g o vs) (some g)
 | [],_,w=>zH w _
 | v::r,o,w=>zC (zD w ⟨g,o,none⟩ v) (nY g r (o+1) _)
theorem mA.step {w:World}{g N k m:Nat}(h:mA w g N k)(hm:k+m<=N):mA (w.setCells g k (List.replicate m (.int .u8 97))) g N (k+m):=by
 obtain⟨xs,h1,h2,h3,h4⟩:=h;refine⟨_,h1.setCells _ k (by simp;omega),by simp;omega,hm,?_⟩;rw[List.append_assoc,List.take_append,h4];simp only[List.length_replicate];rw[List.take_of_length_le (by simp),show k+m-k=m by omega,List.take_left' (by simp),List.replicate_append_replicate]
theorem qBF {w : World}{g N k m : Nat}(h : mA w g N k)(hk : 0 < k)(hm : m = min k (N - k))(ty : TypeId)(c1 c2 : Nat): (Builtin.copy_ #[73, 73] ty #[.slice (some ⟨g, k, none⟩) (N - k) c1, .slice (some ⟨g, 0, none⟩) k c2]).run Tryz.prog w = .ok (.int .i64 m) (w.setCells g k (List.replicate m (.int .u8 97))) := by
 obtain ⟨xs, h1, h2, h3, h4⟩ := h
 have hr := run_copy_cells (P := Tryz.prog) w 73 73 ty 5 g k (N - k) c1 ⟨g, 0, none⟩ k c2 (List.replicate m (.int .u8 97)) Tryz.underlying73 (by kernel_rfl) (by simp [hm])
  (fun j u hj => by
   have hjm : j < m := by
    rcases Nat.lt_or_ge j m with h | h
    ·exact h
    ·simp [List.getElem?_eq_none (show (List.replicate m (Value.int .u8 97)).length ≤ j by simpa using h)] at hj
   rw [List.getElem?_eq_getElem (by simpa using hjm), List.getElem_replicate] at hj
   have hadd : (⟨g, 0, none⟩ : Addr).add j = ⟨g, j, none⟩ := by unfold Addr.add; split <;> simp_all
   rw [hadd, h1.cell j (by omega), ← hj]
   have : xs[j]'(by omega) = (xs.take k)[j]'(by simp; omega) := by simp
   rw [this]
   simp [h4])
  (fun j hj => by rw [List.length_replicate] at hj; rw [h1.cell _ (by omega)]; rfl) (fun j _ => h1.frozen _) (fun u hu => by rw [(List.mem_replicate.1 hu).2]; rfl)
 rw [hr, List.length_replicate]
 rfl
theorem qHN (n:Nat)(hn:n<=1000)(w:World):Calls Tryz.prog 95 #[.int .u64 1,.int .u64 n] w fun e w'=>e=.returned (.tuple #[.int .u64 0,.int .u64 n])/\w=w':=by
 refine(Tryz.bits_Mul 1 n (by omega) (by omega) w).mono ?_;rintro e w' ⟨rfl,rfl⟩;refine⟨?_,rfl⟩;have h1:1*n / 18446744073709551616=0:=by omega
 have h2:1*n % 18446744073709551616=n:=by omega
 rw[h1,h2];rfl
theorem qPE {P:Program}{ops:Array Oper}{o:Oper}{a:Act}{w:World}{K:Act->World->Prop}{Q:Exit->Act->World->Prop}{E:Prop}(hg:o.guard=none)(d x:Operand)(dT sT:TypeId)(a9:o.op=Op.call { callee:=Callee.builtin Builtin.copy,args:=#[d,x],argTypes:=#[dT,sT] })(v u:Value)(hd:a.eval d=v)(hx:a.eval x=u){v':Value}{w':World}(hr:(Builtin.copy_ #[dT,sT] o.type #[v,u]).run P w=.ok v' w')(hK:K (a.put o.dst v') w'):
  if Region.wanted o (yielded ops a.tmps)=true then Oper.wp P o a w K Q else E:=by
 have hw:Region.wanted o (yielded ops a.tmps)=true:=by simp[Region.wanted,hg]
 rw[if_pos hw];unfold Oper.wp;simp[execOp,a9,resolve,invoke,builtin,hd,hx,hr,Result.andThen];exact hK
def qYC (w:World)(n:Nat)(e:Ending)(w':World):Prop :=
 ∃(g cap:Nat),e=.returned (.slice (some ⟨g,0,none⟩) n cap)/\w.heap.size<=g/\n<=cap/\cap<=maxLen/\Arr w' g 5 ((List.replicate n (97:Int)).map (Value.int .u8))/\w.grownBy w' none
theorem qUV (b : Nat)(n : Nat)(w : World)(hn : n ≤ 8)(hc : Arr w b 5 [.int .u8 97]): Calls Tryz.prog 78 #[.slice (some ⟨b, 0, none⟩) 1 1, .int .i64 n] w (qYC w n) := by
 by_cases h0 : n = 0
 ·subst h0
  go_enter Tryz.func78, Tryz.ntmps78
  go_wp2
  go_ret
  exact ⟨w.heap.size, 0, rfl, Nat.le_refl _, Nat.le_refl _, by unfold maxLen; omega, Arr.new w _ #[], Ga _ _ _⟩
 ·have h0' : ((n : Int) == 0) = false := by rw [beq_eq_false_iff_ne]; omega
  have h00 : ¬ (n : Int) < 0 := by omega
  have hb := hc.lt
  obtain ⟨cs, hrunM, hle, hmx⟩ := Lib.run_makeNoZero (P := Tryz.prog) w #[3] 73 5 Tryz.underlying73 n (by omega)
  have hcall : (callFunc 96 #[.int .i64 n]).run Tryz.prog w = .ok (.value (.slice (some ⟨w.heap.size, 0, none⟩) n cs.size)) ((w.alloc (.cells cs 5)).drewN 2) := by
   rw [run_callFunc_extern Tryz.func96 (by kernel_rfl) (by kernel_rfl) (by kernel_rfl) (e := Extern.BytealgMakeNoZero.makeNoZero #[3] #[73]) (by kernel_rfl), hrunM]
   rfl
  clear hrunM
  go_enter Tryz.func78, Tryz.ntmps78
  go_wp2_with fail
  refine (qHN n (by omega) _).mono ?_
  rintro e w1 ⟨rfl, rfl⟩
  have i1 : (n : Int) ≤ (cs.size : Int) := by omega
  obtain⟨W0,hW0⟩:=Nm ((w.alloc (.cells cs 5)).drewN 2)
  have g0 : w.grownBy W0 none := by rw [hW0]; exact wS (Ga w _ none) rfl rfl rfl rfl
  have F0 : mA W0 w.heap.size n 0 := by
   rw [hW0]
   refine mA.of_heap (w := w.alloc (.cells cs 5)) ⟨cs.toList.take n, ?_, by simp; omega, Nat.zero_le _, by simp⟩ rfl
   have := Arr.new w 5 cs
   rw [← List.take_append_drop n cs.toList] at this
   exact this.front
  have hr1 : (Builtin.copy_ #[73, 73] 3 #[.slice (some ⟨w.heap.size, 0, none⟩) n n, .slice (some ⟨b, 0, none⟩) 1 1]).run Tryz.prog W0 = .ok (.int .i64 1) (W0.setCells w.heap.size 0 [.int .u8 97]) := by
   have hb0 := (hc.kept g0 (by simp)).cell 0 (by simp)
   obtain ⟨xs, h1, h2, h3, h4⟩ := F0
   exact run_copy_cells (P := Tryz.prog) W0 73 73 3 5 w.heap.size 0 n n ⟨b, 0, none⟩ 1 1 [.int .u8 97] Tryz.underlying73 (by kernel_rfl) (by simp [Nat.min_def]; omega)
    (fun j u hj => by
     match j, hj with
     | 0, hj => simp at hj; subst hj; simpa [Addr.add] using hb0)
    (fun j hj => by simp at hj; subst hj; rw [h1.cell _ (by omega)]; rfl) (fun j _ => h1.frozen _) (fun u hu => by simp at hu; rw [hu]; rfl)
  have F1 := mA.step (m := 1) F0 (by omega)
  have g1 : w.grownBy (W0.setCells w.heap.size 0 [.int .u8 97]) none := zA g0 (zD W0 ⟨w.heap.size, 0, none⟩ _)
  rw [hW0] at hr1 F1 g1
  clear g0 F0 hW0
  go_wp2
  clear hr1
  go_loopw [10] (fun bp wr => ∃ k : Nat, bp = .int .i64 k ∧ 1 ≤ k ∧ k ≤ n ∧ mA wr w.heap.size n k ∧ w.grownBy wr none)
   (fun bp _ => n - (intOf bp).toNat)
  case atStart => exact ⟨1, rfl, Nat.le_refl _, by omega, F1, g1⟩
  case round =>
   clear F1 g1 hcall
   obtain ⟨k, rfl, hk1, hkn, hF, hg⟩ := hrel
   by_cases hlt : k < n
   ·have hmin : min (k : Int) (n : Int) = k := by omega
    obtain⟨m,hm⟩:=Nm (min k (n - k))
    have hm1 : 1 ≤ m := by omega
    have hmk : k + m ≤ n := by omega
    have hcp : ∀ W : World, W.heap = wr.heap → (Builtin.copy_ #[73, 73] 3 #[.slice (some ⟨w.heap.size, k, none⟩) (n - k) (n - k), .slice (some ⟨w.heap.size, 0, none⟩) k n]).run Tryz.prog W = .ok (.int .i64 m) (W.setCells w.heap.size k (List.replicate m (.int .u8 97))) :=
     fun W e => qBF (hF.of_heap e) (by omega) hm _ _ _
    have HM := Kh hm; clear hm
    have hnk : ¬ n = k := by omega
    have HC := Kh hcp; clear hcp
    have e1 : IntKind.i64.wrap ((k : Int) + m) = (k : Int) + m := IntWalk.i64_in _ (by omega)
    go_wp2
    go_region_law (refine qPE rfl (.tmp 70) (.tmp 73) 73 73 rfl (.slice (some ⟨w.heap.size, k, none⟩) (n - k) (n - k)) (.slice (some ⟨w.heap.size, 0, none⟩) k n) (by simp [Act.eval, Act.put, hnk]) (by simp [Act.eval, Act.put]) (HC.out _ rfl) ?_)
    all_goals
     have F2 : mA (wr.drew.setCells w.heap.size k (List.replicate m (.int .u8 97))) w.heap.size n (k + m) := (hF.of_heap (w' := wr.drew) rfl).step hmk
     have g2 : w.grownBy (wr.drew.setCells w.heap.size k (List.replicate m (.int .u8 97))) none := zA (show w.grownBy wr.drew none from wS hg rfl rfl rfl rfl) (nY _ _ _ _)
     go_frame
     go_roundw
     case rel => ((repeat apply Exists.intro); exact ⟨⟨k + m, by go_num, by omega, by omega, F2, g2⟩, rfl⟩)
     case measure => simp [intOf]; omega
   ·obtain rfl : k = n := by omega
    go_wp2
    go_ret
    obtain ⟨xs, h1, h2, h3, h4⟩ := hF
    refine ⟨_, _, rfl, Nat.le_refl _, Nat.le_refl _, by unfold maxLen; omega, ?_, hg⟩
    rw [List.take_of_length_le (by omega)] at h4
    rw [h4] at h1
    simpa using h1
theorem tI:ElemOk Tryz.prog 46 9 (.string ⟨#[]⟩) 16:=⟨Tryz.underlying46,by kernel_rfl,rfl⟩
def strs (bs:List (List Int)):List Value:=bs.map fun l=>.string (strOfNums l)
theorem qAW (x n:Int)(hn:1<=n):-n<x.tmod n/\x.tmod n<n:=by
 constructor
 ·by_cases h:0<=x
  ·have:=Int.tmod_nonneg n h;omega
  have h1:=Int.tmod_lt_of_pos (-x) (show (0:Int)<n by omega);rw[Int.neg_tmod]at h1;omega
 exact Int.tmod_lt_of_pos x (by omega)
def modI (x n:Int):Int:=if n<1 then 0 else if x.tmod n<0 then x.tmod n+n else x.tmod n
theorem dP (x n:Int):0<=modI x n:=by
 unfold modI;split
 ·omega
 have:=qAW x n (by omega);split<;>omega
theorem qRK (x n:Int)(h:1<=n):modI x n<n:=by
 have:=qAW x n h;unfold modI;rw[if_neg (by omega)];split<;>omega
theorem qRJ (x n:Int)(h:n<1):modI x n=0:=by
 unfold modI;rw[if_pos h]
theorem qHO (x n:Int)(w:World)(hn:n<=9223372036854775807):Calls Tryz.prog 6 #[.int .i64 x,.int .i64 n] w fun e w'=>e=.returned (.int .i64 (modI x n))/\w=w':=by
 by_cases h1:n<1
 ·go_enter Tryz.func6,Tryz.ntmps6
  go_wp2;go_ret;exact⟨yA (qRJ x n (by omega)).symm,rfl⟩
 have h2:=(qAW x n (by omega)).1;have h0:=(qAW x n (by omega)).2;go_enter Tryz.func6,Tryz.ntmps6;go_wp2
 all_goals (go_ret;exact⟨yA (by unfold modI;rw[if_neg (by omega)];first|rw[if_pos (by omega)]|rw[if_neg (by omega)]),rfl⟩)
def wH (B:Nat)(w:World)(tb:Nat):Prop :=
 ∃(sl:Value) (zs:List Int) (n:Nat),w.heap[tb]?=some (.cells #[sl,.int .i64 n] 52 (0,0))/\Row B w sl (zs.map (Value.int .i64))/\B<=tb/\n<=zs.length
theorem wH.lt {B:Nat}{w:World}{tb:Nat}(h:wH B w tb):tb<w.heap.size:=by
 obtain⟨_,_,_,h,_⟩:=h;exact(Array.getElem?_eq_some_iff.1 h).1
theorem wH.ge {B:Nat}{w:World}{tb:Nat}(h:wH B w tb):B<=tb:=by
 obtain⟨_,_,_,_,_,h,_⟩:=h;exact h
theorem wH.kept {B:Nat}{w w':World}{tb:Nat}{row:Option Nat}(h:wH B w tb)(hg:w.grownBy w' row)(hr:∀k,row=some k->B<=k/\k≠tb):wH B w' tb:=by
 have hl:=h.lt;obtain⟨sl,zs,n,h1,h2,h3,h4⟩:=h;exact⟨sl,zs,n,(hg.block tb hl (fun e=>(hr tb e.symm).2 rfl)).trans h1,h2.kept hg (fun k e=>(hr k e).1),h3,h4⟩
theorem wH.of_heap {B:Nat}{w w':World}{tb:Nat}(h:wH B w tb)(e:w'.heap=w.heap):wH B w' tb:=by
 obtain⟨sl,zs,n,h1,h2,h3,h4⟩:=h;exact⟨sl,zs,n,by rw[e];exact h1,h2.of_heap e,h3,h4⟩
theorem qOX {B:Nat}{w:World}{tb:Nat}{sl:Value}{zs:List Int}{n:Nat}(h1:w.heap[tb]?=some (.cells #[sl,.int .i64 n] 52 (0,0)))(h2:Row B w sl (zs.map (Value.int .i64)))(h3:B<=tb)(h4:n<zs.length):
  wH B (w.setCell ⟨tb,1,none⟩ (.int .i64 ((n:Int)+1))) tb :=
 ⟨sl,zs,n+1,heap_setCell_same w tb 1 _ _ _ h1,h2.kept (zD w ⟨tb,1,none⟩ _) (by simp;omega),h3,h4⟩
def xDK (B tb:Nat)(w:World)(n:Int)(e:Ending)(w':World):Prop :=
 ∃r:Int,e=.returned (.int .i64 r)/\0<=r/\(1<=n->r<n)/\wH B w' tb/\w.grownBy w' (some tb)
theorem tG (B tb:Nat)(w:World)(n:Int)(hn:n<=9223372036854775807)(hT:wH B w tb):Calls Tryz.prog 5 #[.pointer (some ⟨tb,0,none⟩),.int .i64 n] w (xDK B tb w n):=by
 have HT:=Kh hT;obtain⟨sl,zs,at_,h0,h1,hB,h3⟩:=hT;have c0:w.cell? ⟨tb,0,none⟩=some sl:=by rw[cell_of_row w tb 0 _ _ _ h0];rfl
 have c1:w.cell? ⟨tb,1,none⟩=some (.int .i64 at_):=by rw[cell_of_row w tb 1 _ _ _ h0];rfl
 have f1:w.frozen? ⟨tb,1,none⟩=false:=frozen_of_row w tb 1 _ _ h0;rcases h1 with ⟨sa,sc,rfl,hz⟩|⟨b,off,cap,rfl,hbB,hlc,hcm,hra⟩
 ·have HR:=Kh hz;have:zs=[]:=by simpa using hz
  subst this;have:at_=0:=by simpa using h3
  subst this;clear h0 hz;go_enter Tryz.func5,Tryz.ntmps5;go_wp2
  go_quiet (fail)
  go_wp2;go_ret;exact⟨0,rfl,by omega,by omega,HT.out.kept (zK _ _ none) (by simp),zK _ _ _⟩
 rw[List.length_map]at hlc c0;by_cases hlt:at_<zs.length
 ·have hc:=hra.2 at_ (by simpa using hlt)
  have h4:b≠tb:=(by omega);have h2:zs.length<=9223372036854775807:=by unfold maxLen at hcm;omega
  simp only[List.getElem_map]at hc;have HB:=Kh h0;have HR:=Kh hra;clear h0 hra;go_enter Tryz.func5,Tryz.ntmps5;go_wp2
  go_quiet (fail)
  go_wp2;have e1:IntKind.i64.wrap (at_:Int)=at_:=IntWalk.i64_in _ (by omega);have e2:(at_:Int)<zs.length:=by omega
  go_quiet ((go_at_call 6;first|exact qMN (qHO _ _ _ hn)|exact rI (qHO _ _ _ hn)))
  go_wp2;go_ret;refine⟨modI zs[at_] n,rfl,dP _ _,qRK _ _,?_,?_⟩
  ·exact wH.of_heap (qOX HB.out (.inr ⟨b,off,cap,by rw[List.length_map],hbB,by simpa using hlc,hcm,HR.out⟩) hB hlt) rfl
  exact wS (zD w ⟨tb,1,none⟩ _) rfl rfl rfl rfl
 have h2:zs.length<=9223372036854775807:=by unfold maxLen at hcm;omega
 clear h0 hra;go_enter Tryz.func5,Tryz.ntmps5;go_wp2
 go_quiet (fail)
 go_wp2;go_ret;exact⟨0,rfl,by omega,by omega,HT.out.kept (zK _ _ none) (by simp),zK _ _ _⟩
def qTU (B:Nat)(w:World)(e:Ending)(w':World):Prop :=
 e=.returned (.pointer (some ⟨w.heap.size,0,none⟩))/\wH B w' w.heap.size/\w.grownBy w' none
theorem qBP {B:Nat}{w:World}{sl:Value}{zs:List Int}(h:Row B w sl (zs.map (Value.int .i64)))(hB:B<=w.heap.size):
  qTU B w (.returned (.pointer (some ⟨w.heap.size,0,none⟩))) (w.alloc (.cells #[sl,.int .i64 0] 52)) :=
 ⟨rfl,⟨sl,zs,0,heap_alloc_new w _,h.kept (Ga w _ none) (by simp),hB,Nat.zero_le _⟩,Ga w _ none⟩
theorem Row.cut {B:Nat}{w:World}{b off cap:Nat}{xs:List Value}(n:Nat)(hn:n<=xs.length)(hb:b<B)(hc:xs.length<=cap)(hm:cap<=maxLen)(h:uQ w b off xs):
  Row B w (.slice (some ⟨b,off,none⟩) n cap) (xs.take n) :=
 .inr ⟨b,off,cap,by rw[List.length_take,Nat.min_eq_left hn],hb,by rw[List.length_take];omega,hm,h.1,fun i hi=>by
  rw[List.length_take]at hi
  rw[h.2 i (by omega),List.getElem_take]⟩
theorem qZU (B:Nat)(w:World)(sl:Value)(zs:List Int)(h:Row B w sl (zs.map (Value.int .i64)))(hB:B<=w.heap.size):Calls Tryz.prog 4 #[sl] w (qTU B w):=by
 have HH:=Kh h;rcases h with ⟨sa,sc,rfl,hz⟩|⟨b,off,cap,rfl,hbB,hlc,hcm,hra⟩
 ·have HZ:=Kh hz;clear hz
  go_enter Tryz.func4,Tryz.ntmps4;go_wp2;go_ret;exact qBP HH.out hB
 rw[List.length_map]at *;have h0:cap<=9223372036854775807:=by unfold maxLen at hcm;omega
 by_cases h80:80<zs.length
 ·go_enter Tryz.func4,Tryz.ntmps4
  go_wp2;go_ret;refine qBP (zs:=zs.take 80) ?_ hB;rw[List.map_take];exact Row.cut 80 (by simp;omega) hbB (by simpa using hlc) hcm hra
 go_enter Tryz.func4,Tryz.ntmps4;go_wp2;go_ret;exact qBP HH.out hB
theorem qCO (letters k:Nat):(List.range (k+1)).flatMap (lex letters)=(List.range k).flatMap (lex letters)++lex letters k:=by
 rw[List.range_succ,List.flatMap_append];simp
def upTo (letters n:Nat):List (List Int):=(List.range n).flatMap (lex letters)
theorem xP (letters n:Nat):upTo letters (n+1)=upTo letters n++lex letters n:=qCO letters n
theorem tX (letters:Nat)(h:letters<=6):∀n,n<=9->(upTo letters n).length<=2000000*n
 | 0,_=>by simp[upTo]
 | n+1,hn=>by
  have h1:=tX letters h n (by omega)
  rw[xP,List.length_append,uF]
  have h2:letters ^ n<=6 ^ n:=Nat.pow_le_pow_left h n
  have h3:6 ^ n<=6 ^ 8:=Nat.pow_le_pow_right (by omega) (by omega)
  have h4:(6:Nat) ^ 8=1679616:=by decide
  omega
theorem tY (a b:List (List Int)):strs (a++b)=strs a++strs b:=by simp[strs]
theorem xC (a:List (List Int)):(strs a).length=a.length:=by simp[strs]
def qLK (w:World)(ls:List (List Int))(e:Ending)(w':World):Prop :=
 ∃(sa:Option Addr) (sc:Nat),e=.returned (.slice sa ls.length sc)/\RowT w'.heap.size 9 w' (.slice sa ls.length sc) (strs ls)/\w.grownBy w' none
theorem mC (letters k:Nat)(w:World)(h1:1<=letters)(h6:letters<=6)(a9:k<=8):Calls Tryz.prog 62 #[.int .i64 letters,.int .i64 k] w (qLK w (upTo letters (k+1))):=by
 go_enter Tryz.func62,Tryz.ntmps62;go_wp2
 go_loopg [5,11] (k+1) (fun g v i wr=>∃(sa:Option Addr) (sc n:Nat),g=k+1-n/\n<=k+1/\i=.int .i64 n/\v=.slice sa (upTo letters n).length sc /\
   wr.ownsRow w.heap.size 9 1 (.slice sa (upTo letters n).length sc) (upTo letters n).length (strs (upTo letters n))/\w.grownBy wr none)
 case atStart=>exact⟨none,0,0,rfl,by omega,rfl,rfl,World.ownsRow_nil _ _ _ _,zH _ _⟩
 obtain⟨sa,sc,n,rfl,hn,rfl,rfl,h0,hg⟩:=hrel;by_cases hlt:n<k+1
 ·go_wp2_with fail
  refine(qUV _ n _ (by omega) (Arr.new _ _ _)).mono ?_;rintro e w1 ⟨d,cap,rfl,hd,b2,b4,hA,H4⟩;have b1:=hg.size;have H7:w.grownBy w1 none:=zC (vC hg _) H4;have h7:w1.ownsRow w.heap.size 9 1 (.slice sa (upTo letters n).length sc) (upTo letters n).length (strs (upTo letters n)):=zX (h0.alloc _) H4 (by simp);have b0:=tX letters h6 n (by omega);obtain⟨rest,hL⟩:=qKG (letters:=letters) (by omega) n;have HL:=Kh hL;clear hL;have h8:0<(lex letters n).length:=(by rw[HL.out];simp);have H9:Arr w1 d 5 (((lex letters n)[0]'h8).map (Value.int .u8)):=by simp only[HL.out];exact hA
  have a6:(lex letters n).length<=2000000:=by
   rw[uF];have h2:letters ^ n<=6 ^ n:=Nat.pow_le_pow_left h6 n;have h3:6 ^ n<=6 ^ 8:=Nat.pow_le_pow_right (by omega) (by omega);have h4:(6:Nat) ^ 8=1679616:=by decide
   omega
  have H1:=Kh (qPN (letters:=letters) (by omega) n);have b3:wr.heap.size<d:=(by have:=hd;rw[zL]at this;omega);clear h0 hA H4 hg;go_wp2
  go_loopg [5,8] (lex letters n).length (fun g2 v m wq=>∃(sa:Option Addr) (sc i:Nat) (b:Bool),g2=(lex letters n).length-i/\i<=(lex letters n).length/\m=.bool b/\(b=true↔i<(lex letters n).length) /\
    v=.slice sa ((upTo letters n).length+i) sc/\wq.ownsRow w.heap.size 9 1 (.slice sa ((upTo letters n).length+i) sc) ((upTo letters n).length+i) (strs (upTo letters n++(lex letters n).take i)) /\
    (∀h:i<(lex letters n).length,Arr wq d 5 ((lex letters n)[i].map (Value.int .u8)))/\w.grownBy wq none)
  case atStart=>exact⟨sa,sc,0,true,rfl,Nat.zero_le _,rfl,by simpa using h8,rfl,by simpa using h7,fun _=>H9,H7⟩
  clear h7 H9 H7;obtain⟨sa,sc,i,b,rfl,hi,rfl,hb,rfl,h0,hA,hg⟩:=hrel;have HB:=Kh hb;clear hb;cases b
  ·have h9:i=(lex letters n).length:=by
    have:¬i<(lex letters n).length:=fun h=>by have:=HB.out.2 h;cases this
    omega
   have HI:=Kh h9;clear h9;go_wp2;go_roundg (k+1-(n+1))
   case measure=>omega
   case rel =>
    have e1:(upTo letters (n+1)).length=(upTo letters n).length+i:=by rw[xP,List.length_append,HI.out]
    have e2:upTo letters (n+1)=upTo letters n++(lex letters n).take i:=by rw[xP,HI.out,List.take_length]
    exact⟨sa,sc,n+1,rfl,by omega,by go_num,by rw[e1],by rw[e1,e2];exact h0,hg⟩
  have h9:i<(lex letters n).length:=HB.out.1 rfl;have hm:=rG (List.getElem_mem h9);have H5:=hA h9;have a1:=qD (P:=Tryz.prog) 73 5 Tryz.underlying73 Tryz.underlying5 9 Tryz.underlying9 n cap hm.1 H5;have HM:=Kh hm;have a0:=Kh H5;clear hm H5 hA;go_wp2_with (at_builtin;refine app1 rfl _ _ _ rfl tI w.heap.size _ ((upTo letters n).length+i) (strs (upTo letters n++(lex letters n).take i)) rfl h0 _ rfl rfl ?c1 ?c2 ?c3 ?_)
  case c1=>unfold maxLen;omega
  case c2=>omega
  case c3=>exact hg.size
  intro sa' sc' w3 h5 H3 a2;have a5:=fun q (e:(Value.slice sa ((upTo letters n).length+i) sc).ownBlock=some q)=>(h0.lt q e).1;have a4:=zA hg H3 a5
  have H8:=a0.out.kept H3 (by
   obtain⟨cur,r,hq,_⟩:=a0.out
   exact zO h0 hq (by decide))
  have H2:=qRE d cap (lex letters n)[i] letters w3 (by omega) (by omega) HM.out.2 (by rw[HM.out.1];omega) H8;rw[HM.out.1]at H2;have hr:=qPO H1.out i h9;have HR:=Kh hr;have a8:=Kh H2;clear hr H2 h0 hg H3 a1;go_wp2_with fail;refine a8.out.mono ?_;rintro e w4 ⟨rfl,a7,H6⟩
  have H0:=h5.kept H6 (.inr (by
   obtain⟨cur,r,hq,_⟩:=H8
   exact zO h5 hq (by decide)))
  have a3:=zA a4 H6 (by simp;omega);go_wp2;go_roundg ((lex letters n).length-(i+1))
  case measure=>omega
  refine⟨sa',sc',i+1,(rT letters n (lex letters n)[i]).2,rfl,by omega,rfl,?_,rfl,?_,?_,a3⟩
  ·have:=HR.out.1
   unfold iD at this;rw[HM.out.1]at this;rw[this];simp
  ·have e1:strs (upTo letters n++(lex letters n).take (i+1))=strs (upTo letters n++(lex letters n).take i)++[.string (strOfNums (lex letters n)[i])]:=by
    rw[List.take_succ_eq_append_getElem h9,<-List.append_assoc,tY];rfl
   rw[e1];exact H0
  intro h;have:=HR.out.2 h;unfold iD at this;rw[HM.out.1]at this;rw[<-this];exact a7
 obtain rfl:n=k+1:=by omega
 go_wp2;go_ret;exact⟨sa,sc,rfl,RowT.of_owns h0,hg⟩
theorem qG:ElemOk Tryz.prog 32 65 (.agg #[.slice none 0 0]) 24:=⟨Tryz.underlying32,by kernel_rfl,rfl⟩
def wY (u:List Int):List (List Int):=[[]]++u.map (fun c=>[c])++[[]]
def uW (u:List Int)(j:Nat):List (List Int):=[[]]++(u.take j).map (fun c=>[c])
theorem cL (l:List Int)(j:Nat)(hj:j<l.length):(strOfNums l).extract j (j+1)=strOfNums [l[j]]:=by
 have h:((strOfNums l).extract j (j+1)).data.toList=(strOfNums [l[j]]).data.toList:=by
  rw[ByteArray.data_extract,strOfNums_data,Array.toList_extract,strOfNums_data,List.extract_eq_take_drop];rw[List.drop_eq_getElem_cons (by simpa using hj)];simp
 have h2:=Array.toList_inj.1 h;cases h3:(strOfNums l).extract j (j+1);cases h4:strOfNums [l[j]]
 simp_all
def uG (w:World)(ps:List (List (List Int)))(e:Ending)(w':World):Prop :=
 ∃(sa:Option Addr) (sc:Nat) (svs:List Value),e=.returned (.slice sa ps.length sc)/\RowT w'.heap.size 65 w' (.slice sa ps.length sc) svs/\wO w'.heap.size 9 strs w' svs ps/\w.grownBy w' none
theorem qMR (letters k:Nat)(w:World)(h1:1<=letters)(h6:letters<=6)(hk:1<=k)(a9:k<=8):Calls Tryz.prog 43 #[.int .i64 letters,.int .i64 k] w (uG w (((upTo letters (k+1)).drop 1).map wY)):=by
 obtain⟨ws,H1⟩:=Nm (upTo letters (k+1))
 have a4:2<=ws.length:=by
  rw[H1];obtain⟨k',rfl⟩:∃k',k=k'+1:=⟨k-1,by omega⟩;rw[xP,xP,List.length_append,List.length_append,uF,uF];have:=Nat.one_le_pow k' letters (by omega);have:=Nat.one_le_pow (k'+1) letters (by omega);omega
 have e4:ws.length<=20000000:=by rw[H1];have:=tX letters h6 (k+1) (by omega);omega
 have a3:∀u∈ws,u.length<=8:=by
  rw[H1];intro u hu;simp only[upTo,List.mem_flatMap,List.mem_range]at hu;obtain⟨n,hn,hu⟩:=hu;rw[(rG hu).1];omega
 rw[<-H1];have d5:=Kh H1;clear H1;go_enter Tryz.func43,Tryz.ntmps43;go_wp2_with fail;refine(mC letters k w h1 h6 a9).mono ?_;rw[<-d5.out];rintro e w1 ⟨sa,sc,rfl,a2,a6⟩;rcases a2 with ⟨hn,hn2⟩|⟨b,off,cap,cur,m,hv,hb,hc1,hc2,hblk,h5⟩
 ·exfalso;have:=congrArg List.length hn2;simp[strs]at this;subst this;simp at a4
 rw[xC]at hv hc1;have c7:sc=cap/\sa=some ⟨b,off,none⟩:=by simp at hv;exact⟨hv.2,hv.1⟩
 obtain⟨rfl,rfl⟩:=c7;clear hv;have b9:=Kh hblk;have HC:=Kh h5;clear hblk h5;have e6:(1:Int)<sc:=by omega
 have b5:RowT w1.heap.size 9 w1 (.slice (some ⟨b,off,none⟩) ws.length sc) (strs ws):=.inr ⟨b,off,sc,cur,m,by rw[xC],hb,by rw[xC];exact hc1,hc2,b9.out,HC.out⟩;clear b9 HC;have e2:=a6.size;go_wp2
 go_loopw [5,15] (fun v i wr=>∃(sa:Option Addr) (c n:Nat) (svs:List Value),i=.int .i64 n/\n<=ws.length-1/\v=.slice sa n c /\
   wr.ownsRow w1.heap.size 65 1 (.slice sa n c) n svs/\wO wr.heap.size 9 strs wr svs (((ws.drop 1).take n).map wY) /\
   RowT w1.heap.size 9 wr (.slice (some ⟨b,off,none⟩) ws.length sc) (strs ws)/\w.grownBy wr none/\w1.heap.size<=wr.heap.size)
  (fun _ i _=>ws.length-(intOf i).toNat)
 case atStart=>exact⟨none,0,0,[],rfl,Nat.zero_le _,rfl,World.ownsRow_nil _ _ _ _,by simpa using wO.nil,b5,a6,Nat.le_refl _⟩
 clear b5 a6;obtain⟨sa,c,n,svs,rfl,hn,rfl,H0,a8,hT,hg,hs⟩:=hrel;obtain⟨wo,rfl⟩:=Nm (wr:World);have a7:=Kh a8;clear a8;by_cases hlt:n<ws.length-1
 ·have d1:(n:Int)<((ws.length-1:Nat):Int):=by omega
  have hu:=a3 ws[1+n] (List.getElem_mem (by omega))
  have h5:wo.cell? ⟨b,off+1+n,none⟩=some (.string (strOfNums ws[1+n])):=by
   rcases hT.row with ⟨_,_,h,_⟩|⟨b',off',cap',hv,_,_,_,hra⟩
   ·have h2:ws.length=0:=by injection h
    omega
   simp at hv;obtain⟨⟨rfl,rfl⟩,_⟩:=hv;have:=hra.map (1+n) (by omega)
   rwa [<-Nat.add_assoc]at this
  obtain⟨u,a1⟩:=Nm (ws[1+n]);have HU:=Kh a1;rw[<-a1]at hu h5;have d9:(strOfNums u).size=u.length:=strOfNums_size u;clear a1;go_wp2;have g0:wo.grownBy (wo.alloc (.cells #[.string ⟨#[]⟩] 9)) none:=Ga _ _ _;have ho:=World.ownsRow_lit (e:=9) (size:=1) wo #[.string ⟨#[]⟩] 1 (Nat.le_refl _) (by unfold maxLen;omega) (by simp)
  go_loopw [8,22] (fun v i wq=>∃(sb:Option Addr) (cb j:Nat),i=.int .i64 j/\j<=u.length/\v=.slice sb (1+j) cb /\
    wq.ownsRow wo.heap.size 9 1 (.slice sb (1+j) cb) (1+j) (strs (uW u j))/\wo.grownBy wq none)
   (fun _ i _=>u.length-(intOf i).toNat)
  case atStart=>exact⟨_,_,0,rfl,Nat.zero_le _,rfl,ho,g0⟩
  clear g0 ho;obtain⟨sb,cb,j,rfl,hj,rfl,h0,h8⟩:=hrel;by_cases hjl:j<u.length
  ·have d3:=cL u j hjl
   go_wp2_with (at_builtin;refine app1 rfl _ _ _ rfl tI wo.heap.size _ (1+j) (strs (uW u j)) rfl h0 _ rfl rfl ?c1 ?c2 ?c3 ?_)
   case c1=>unfold maxLen;omega
   case c2=>omega
   case c3=>exact h8.size
   intro sb' cb' w3 h3 h9 _;have H2:=fun q (e:(Value.slice sb (1+j) cb).ownBlock=some q)=>(h0.lt q e).1;have a0:=zA h8 h9 H2
   have e1:strs (uW u (j+1))=strs (uW u j)++[.string (strOfNums [u[j]])]:=by
    rw[uW,uW,List.take_succ_eq_append_getElem hjl,List.map_append,<-List.append_assoc,tY];rfl
   have HE:=Kh e1;have d8:=Kh h3;clear h0 h8 h9 d3 e1 h3;go_wp2;go_roundw
   case rel=>exact⟨sb',cb',j+1,by go_num,by omega,rfl,by rw[HE.out];exact d8.out,a0⟩
   simp[intOf];omega
  obtain⟨ub,H9⟩:=Nm (uW u j);have H4:ub.length=1+j:=by rw[H9];simp[uW];omega
  have H3:wY ws[1+n]=ub++[[]]:=by rw[<-HU.out,H9,uW,List.take_of_length_le (by omega)];rfl
  rw[<-H9]at h0;have e9:=Kh H4;have d6:=Kh H3;clear H9 H4 H3;have h7:=H0.kept h8 (by cases (Value.slice sa n c).ownBlock<;>simp);have b4:=hT.kept h8 (by simp);have H8:=a7.out.kept h8 (by simp);have c0:=Kh H8;have a5:=zC hg h8;have c6:=h8.size;clear H0 hT hg H8 a7;go_wp2_with (at_builtin;refine app1 rfl (.tmp 35) (.tmp 36) _ rfl tI wo.heap.size _ (1+j) (strs ub) rfl h0 _ rfl rfl ?c1 ?c2 ?c3 ?_)
  case c1=>unfold maxLen;omega
  case c2=>omega
  case c3=>exact c6
  intro sb' cb' w3 h3 h9 _;have H2:=fun q (e:(Value.slice sb (1+j) cb).ownBlock=some q)=>(h0.lt q e).1;have b0:=zZ h0 (e':=65) (by decide)
  have h4:=h7.kept h9 (by
   rcases hv:(Value.slice sa n c).ownBlock with _|q
   ·exact .inl rfl
   refine .inr fun e=>?_;obtain⟨cur',e',m',hq,d0⟩:=b0 q e.symm;have:=zO h7 hq (fun h=>d0 h.symm)
   exact this hv)
  have b3:=b4.kept h9 (fun q e=>.inl (by have:=H2 q e;omega));have b8:=c0.out.kept h9 (fun q e=>.inl (H2 q e));have a0:=zA a5 h9 (fun q e=>by have:=H2 q e;have:=a5.size;omega);have e5:ub.length+1=(ub++[[]]).length:=by simp
  have hR:=RowT.of_owns h3;have e3:strs ub++[.string ⟨#[]⟩]=strs (wY ws[1+n]):=by rw[d6.out,tY];rfl
  rw[e3]at hR;have E3:=Kh e3;have HR:=Kh hR;have e0:=h9.size;clear h0 h7 h3 b4 c0 h9 b0 e3 hR a5 h8 H2;go_wp2_with (at_builtin;refine app1 rfl (.tmp 34) (.tmp 39) _ rfl qG w1.heap.size _ n svs rfl h4 _ rfl rfl ?c1 ?c2 ?c3 ?_)
  case c1=>unfold maxLen;omega
  case c2=>omega
  case c3=>omega
  intro sa5 c5 w5 H5 H7 _;have b2:=fun q (e:(Value.slice sa n c).ownBlock=some q)=>(h4.lt q e).1;have H6:=zZ h4 (e':=9) (by decide);have d4:=b3.kept H7 (fun q e=>.inl (b2 q e));have b7:=(b8.mono (by omega)).snoc (HR.out);have c8:=H7.size;have b6:=(b7.kept H7 (fun q e=>.inr (H6 q e))).mono c8;have d2:=zA a0 H7 (fun q e=>by have:=b2 q e;omega);clear h4 b3 b8 a0 H7 H6 b7;have d7:=Kh b6;clear b6;go_wp2;go_roundw
  case rel =>
   refine⟨sa5,c5,n+1,_,by go_num,by omega,rfl,H5,?_,d4,d2,by omega⟩
   have e7:((ws.drop 1).take (n+1)).map wY=((ws.drop 1).take n).map wY++[wY ws[1+n]]:=by
    rw[List.take_succ_eq_append_getElem (by simp;omega),List.map_append];simp[Nat.add_comm]
   rw[e7];exact d7.out
  simp[intOf];omega
 have c9:n=ws.length-1:=by omega
 have e8:((ws.drop 1).take n).map wY=(ws.drop 1).map wY:=by rw[List.take_of_length_le (by simp;omega)]
 have b1:((ws.drop 1).map wY).length=n:=by simp;omega
 have c4:=Kh b1;have E8:=Kh e8;clear c9 e8 b1;go_wp2;go_ret;exact⟨sa,c,svs,by rw[c4.out];rfl,by rw[c4.out];exact RowT.of_owns H0,by rw[<-E8.out];exact a7.out,hg⟩
end Go.Proofs.YtcoimliafiammaaGreat
