/- Part 13 of the proof. -/
import Derived.Test.YtiknckajkdlppaaGreatQb9
import Derived.WalkSpells
import Derived.Deep.RegionLaw
import Derived.Deep.DeepCutAuto
import Derived.Deep.CutBlock
set_option linter.unusedVariables false
set_option linter.unusedSimpArgs false
set_option maxRecDepth 100000
set_option maxHeartbeats 16000000
namespace Go.Proofs.YtiknckajkdlppaaGreat
open Go.Maps Go.RowKit
variable{x base o e a8 b n sz g:Nat}{row:Option Nat}{w w' W2:World}{a9:Option Addr}{c:Array Value}{m:Nat×Nat}{v:Value}{xs:List Value}{F:Nat->Prop}
def zl (l:List Nat):List Int:=l.map fun(x:Nat)=>(x:Int)
theorem aX {l : List Nat}: ((x : Nat) : Int) ∈ zl l ↔ x ∈ l := by
  simp only [zl, List.mem_map]
  exact ⟨fun ⟨y, hy, e⟩ => by have : y = x := by omega
                              exact this ▸ hy, fun h => ⟨x, h, rfl⟩⟩
theorem qSH {l:List Nat}(h:x∈l):(zl l).idxOf ((x:Nat):Int)=l.idxOf x:=aP (fun(x:Nat)=>(x:Int)) l x h (fun y _ e=>by omega)
theorem qPQ (l:List Nat):(zl l).length=l.length:=by simp[zl]
theorem qQF (l:List Nat)(x:Nat):zl (l++[x])=zl l++[(x:Int)]:=by simp[zl]
def NF (o:Nat)(sa:Option Addr)(mv:Option Nat)(k:Nat):Prop:=k=o\/(Value.slice sa 0 0).ownBlock=some k\/mv=some k
structure NumSt (base:Nat)(W:World)(o:Nat)(sa:Option Addr)(sc:Nat)(mv:Option Nat)(l:List Nat):Prop where
 box:W.heap[o]?=some (.cells #[.slice sa l.length sc,.map mv] 137 (0,0))
 own:W.ownsRow base 3 1 (.slice sa l.length sc) l.length (nats l)
 map:(mv=none/\l=[])\/∃mb,mv=some mb/\base<=mb/\mb≠o/\(Value.slice sa 0 0).ownBlock≠some mb/\mb<W.heap.size/\qB W mb l.length (zl l)
 lo:base<=o
theorem NumSt.ge {W:World}{sa:Option Addr}{sc:Nat}{mv:Option Nat}{l:List Nat}(h:NumSt base W o sa sc mv l):∀k,NF o sa mv k->base<=k/\k<W.heap.size:=by
 rintro k (rfl|hk|hk)
 ·exact⟨h.lo,zS h.box⟩
 ·rw[<-yG sa l.length sc]at hk;exact h.own.lt k hk
 rcases h.map with ⟨e,_⟩|⟨mb,e,h1,_,_,h2,_⟩
 ·rw[e]at hk;cases hk
 rw[e]at hk;have:=Oj hk;subst this;exact⟨h1,h2⟩
theorem NumSt.kept {W W':World}{sa:Option Addr}{sc:Nat}{mv:Option Nat}{l:List Nat}(h:NumSt base W o sa sc mv l)(hg:W.grownBy W' row)(hr:∀k,row=some k->¬NF o sa mv k):NumSt base W' o sa sc mv l where
 box:=zD h.box hg (fun e=>hr o e (.inl rfl))
 own:=h.own.kept hg (by
  rcases hv:(Value.slice sa l.length sc).ownBlock with _|k
  ·exact .inl rfl
  ·exact .inr fun e=>hr k e.symm (.inr (.inl (by rw[yG]at hv;exact hv))))
 map:=by
  rcases h.map with h|⟨mb,e,h1,h2,h3,h4,h5⟩
  ·exact .inl h
  ·exact .inr ⟨mb,e,h1,h2,h3,Nat.lt_of_lt_of_le h4 hg.size,h5.kept hg (fun e2=>hr mb e2 (.inr (.inr e)))⟩
 lo:=h.lo
def qLZ (base:Nat)(W:World)(o:Nat)(sa:Option Addr)(mv:Option Nat)(l:List Nat)(x:Nat)(e:Ending)(W':World):Prop :=
 ∃sa' sc' mv',e=.returned (.int .i64 (((wU l x).idxOf x:Nat):Int))/\NumSt base W' o sa' sc' mv' (wU l x)/\GrownBut W W' (NF o sa mv)/\∀k,NF o sa' mv' k->NF o sa mv k\/W.heap.size<=k
theorem dD {l:List Nat}(h:x ∉ l):(wU l x).idxOf x=l.length:=by
 rw[uK h,List.idxOf_append,if_neg h];simp
theorem tV {p:Nat}{x0 x1:Value}(h:w.heap[p]?=some (.cells #[x0,x1] e (0,0))):w.cell? ⟨p,0,none⟩=some x0/\w.cell? ⟨p,1,none⟩=some x1:=by
 have c0:=zJ h 0;have c1:=zJ h 1;exact⟨by simpa using c0,by simpa using c1⟩
theorem qBI {W w2 w3:World}{mb:Nat}{sa:Option Addr}{sc:Nat}{mv:Option Nat}{l:List Nat}(h0:base<=o)(hx:x ∉ l)(b9:w2.heap[o]?=some (.cells #[.slice sa l.length sc,.map (some mb)] 137 (0,0)))(a1:mb≠o)(a5:base<=mb)(a4:(Value.slice sa 0 0).ownBlock≠some mb)(a2:qB w2 mb (l.length+1) (zl l++[(x:Int)]))(a0:(Value.slice sa 0 0).ownBlock≠some o)(a7:w3.ownsRow base 3 1 (.slice a9 (l.length+1) a8) (l.length+1) (nats l++[.int .i64 (x:Int)]))(hg:w2.grownBy w3 (Value.slice sa l.length sc).ownBlock)(a3:nW w2 w3 (.slice sa l.length sc) (.slice a9 (l.length+1) a8))(hW:GrownBut W w2 (NF o sa mv))(a6:mv=some mb\/W.heap.size<=mb):qLZ base W o sa mv l x (.returned (.int .i64 ((l.length:Nat):Int))) (w3.setCell ⟨o,0,none⟩ (.slice a9 (l.length+1) a8)):=by
 have h4:=zD b9 hg (fun e=>a0 (by rw[yG]at e;exact e));have hs:=heap_setCell_same w3 o 0 _ _ (.slice a9 (l.length+1) a8) h4;have h2:=zH w3 ⟨o,0,none⟩ (.slice a9 (l.length+1) a8);have h5:=a2.lt;have hz:=hg.size;have h6:=h2.size;have h1:(wU l x).length=l.length+1:=by rw[uK hx];simp
 have h3:(Value.slice a9 0 0).ownBlock≠some mb:=by
  intro e;rw[<-yG a9 (l.length+1) a8]at e;rcases a3 with h|⟨_,h⟩
  ·rw[h,yG]at e;exact a4 e
  have:=h mb e;omega
 refine⟨a9,a8,some mb,by rw[dD hx],⟨?_,?_,?_,h0⟩,?_,fun k hk=>?_⟩
 ·rw[h1,hs];simp
 ·rw[h1,uK hx,qF]
  exact a7.kept h2 (.inr (zR a7 h4 jd))
 ·refine .inr ⟨mb,rfl,a5,a1,h3,yo,?_⟩
  rw[h1,uK hx,qQF];refine(a2.kept hg (fun e=>a4 (by rw[yG]at e;exact e))).kept h2 (fun e=>a1 (Oj e).symm)
 ·refine(hW.step hg fun k hk=>?_).step h2 fun k hk=>?_
  ·rw[yG]at hk;exact .inl (.inr (.inl hk))
  exact .inl (.inl (Oj hk).symm)
 rcases hk with rfl|hk|hk
 ·exact .inl (.inl rfl)
 ·rw[<-yG a9 (l.length+1) a8]at hk
  rcases a3 with h|⟨_,h⟩
  ·rw[h,yG]at hk;exact .inl (.inr (.inl hk))
  exact .inr (Nat.le_trans hW.size (h k hk))
 have:=Oj hk;subst this;rcases a6 with h|h
 ·exact .inl (.inr (.inr h))
 exact .inr h
theorem qBJ (base:Nat)(W:World)(o:Nat)(sa:Option Addr)(sc:Nat)(mv:Option Nat)(l:List Nat)(x:Nat)(h:NumSt base W o sa sc mv l)(hb:base<=W.heap.size)(hl:l.length<=1073741824)(hx:x<4611686018427387904):Calls Tryz.prog 111 #[.pointer (some ⟨o,0,none⟩),.int .i64 (x:Int)] W (qLZ base W o sa mv l x):=by
 have d3:=@run_makeMap Tryz.prog;have h8:Mid (x:Int):=⟨yo,yo⟩;have c8:∀W,(binOp .eql 86 (.map none) (.map none)).run Tryz.prog W=.ok (.bool true) W:=fun W=>run_eql_map_nil W _ _ _ none rY;have c7:∀W mb,(binOp .eql 86 (.map (some mb)) (.map none)).run Tryz.prog W=.ok (.bool false) W:=fun W mb=>run_eql_map_nil W _ _ _ (some mb) rY;obtain⟨c0,c1⟩:=tV h.box;have f0:=zB h.box 0;have f1:=zB h.box 1
 have a7:(Value.slice sa 0 0).ownBlock≠some o:=by
  intro e;rw[<-yG sa l.length sc]at e;exact zR h.own h.box jd e
 obtain⟨H,H3,h3⟩:=Kc h a7 h8;clear a7 h8;rcases h.map with ⟨rfl,rfl⟩|⟨mb,rfl,hmb0,hmb,hsm,hml,hmp⟩
 ·have h9:(Instr.lookup 86 (.map none) (.int .i64 (x:Int)) true).run Tryz.prog W=.ok (.tuple #[.int .i64 0,.bool false]) W:=Maps.look_nil true aO rY (gU W) (qDM h3.out)
  obtain⟨w1,h7⟩:=Nm (W.setCell ⟨o,1,none⟩ (.map (some W.heap.size)));have H6:=zH W ⟨o,1,none⟩ (.map (some W.heap.size))
  have a8:w1.heap[o]?=some (.cells #[.slice sa ([]:List Nat).length sc,.map (some W.heap.size)] 137 (0,0)):=by
   rw[h7,heap_setCell_same W o 1 _ _ _ h.box];simp
  have a6:w1.heap.size=W.heap.size:=by rw[h7];simp[World.setCell]
  rw[<-h7]at H6;obtain⟨ws,H7⟩:=Nm (w1.alloc (.map #[] 0));have H0:=Ga w1 (.map #[] 0) none;have H4:=Kh (qB.made w1);rw[<-H7]at H0 H4;rw[a6]at H4;have d4:=zS h.box;have a5:=Kh (zD a8 H0);have b7:=Kh H7;have b8:=Kh h7;have c2:Hid (ws.ownsRow base 3 1 (.slice sa ([]:List Nat).length sc) ([]:List Nat).length (nats [])):=Kh (zZ (h.own.kept H6 (.inr (by rw[yG];exact H3.out))) H0);have c3:Hid (GrownBut W ws (NF o sa none)):=Kh (((GrownBut.refl W _).step H6 (fun k hk=>.inl (.inl (Oj hk).symm))).step H0 yq);clear h a8 h7 H6 H7 H0 a6
  have h6:Hid ((Value.slice sa 0 0).ownBlock≠some W.heap.size):=Kh (fun e=>by
   rw[<-yG sa ([]:List Nat).length sc]at e
   have:=(H.out.own.lt _ e).2;omega)
  have d2:W.heap.size≠o:=yo
  obtain⟨M,hM⟩:=Nm W.heap.size;have c6:=Kh hM;rw[<-hM]at H4 h6 a5;have a9:M≠o:=yo
  have b5:base<=M:=yo
  have b6:W.heap.size<=M:=yo
  clear hM;go_enter Tryz.func111,Tryz.ntmps111;go_upto_region 5 with fail;rw[<-b8.out,<-b7.out,<-c6.out];clear c0 c1 f0 f1 h9;obtain⟨c0,c1⟩:=tV a5.out;have c9:=H4.out.lt;go_wp2_with (first|(at_mapUpdate;refine lD rfl _ _ _ rfl M 0 [] x rfl rfl rfl H4.out jm h3.out yq yq ?_;intro w2 h0 h2;(have H9:=Kh h0);(have a4:=Kh h2);(have h4:=zD a5.out h2 (by simp;exact a9));(have H5:=Kh h4);(obtain⟨d0,d1⟩:=tV h4);(have e0:=zB h4 0);(have H8:=Kh (c2.out.kept h2 (.inr (by rw[yG];exact h6.out))));(have b4:=h2.size);clear h0 h4 h2)|(at_builtin;refine iE rfl _ _ _ rfl yJ base (.slice sa ([]:List Nat).length sc) ([]:List Nat).length (nats []) rfl H8.out (.int .i64 (x:Int)) rfl rfl ?a1 ?a2 ?a3 ?_;(case a1=>(unfold maxLen;simp));(case a2=>simp);(case a3=>omega);intro sa3 sc3 w3 h1 H1 b3 h5;(have H2:=zD H5.out H1 (by rw[yG];exact H3.out));(obtain⟨b0,b1⟩:=tV H2);(have e3:=zB H2 0))|fail);go_ret;exact qBI (l:=[]) H.out.lo yq H5.out a9 b5 h6.out H9.out H3.out h1 H1 h5 (c3.out.step a4.out (fun k hk=>.inr (by have:=Oj hk;omega))) (.inr b6)
 clear h;by_cases hin:x∈l
 ·have h9:=hmp.lookup h3.out
  rw[if_pos (aX.2 hin),decide_eq_true (aX.2 hin),qSH hin]at h9;have a0:=Kh hin;clear hin hmp;go_enter Tryz.func111,Tryz.ntmps111;go_wp2;go_ret;have e:=tZ a0.out;exact⟨sa,sc,some mb,yX (by rw[e]),by rw[e];exact H.out,GrownBut.refl _ _,fun k hk=>.inl hk⟩
 have h9:=hmp.lookup h3.out;rw[if_neg (fun hh=>hin (aX.1 hh)),decide_eq_false (fun hh=>hin (aX.1 hh))]at h9;have a0:=Kh hin;have c5:=Kh hmp;have c4:Hid ((x:Int) ∉ zl l):=Kh (fun hh=>hin (aX.1 hh));have b2:=qPQ l;have h6:=Kh hsm;clear hin hmp hsm;have b9:=Kh H.out.own;go_enter Tryz.func111,Tryz.ntmps111;go_wp2_with (first|(at_mapUpdate;refine lD rfl _ _ _ rfl mb l.length (zl l) x rfl rfl ?q1 c5.out jm h3.out c4.out yo ?_;(case q1=>(rw[b2];rfl));intro w2 h0 h2;(have H9:=Kh h0);(have a4:=Kh h2);(have h4:=zD H.out.box h2 (by simp;exact hmb));(have H5:=Kh h4);(obtain⟨d0,d1⟩:=tV h4);(have e0:=zB h4 0);(have H8:=Kh (b9.out.kept h2 (.inr (by rw[yG];exact h6.out))));(have b4:=h2.size);clear h0 h4 h2)|(at_builtin;refine iE rfl _ _ _ rfl yJ base (.slice sa l.length sc) l.length (nats l) rfl H8.out (.int .i64 (x:Int)) rfl rfl ?a1 ?a2 ?a3 ?_;(case a1=>(unfold maxLen;omega));(case a2=>omega);(case a3=>omega);intro sa3 sc3 w3 h1 H1 b3 h5;(have H2:=zD H5.out H1 (by rw[yG];exact H3.out));(obtain⟨b0,b1⟩:=tV H2);(have e3:=zB H2 0))|fail);go_ret;exact qBI H.out.lo a0.out H5.out hmb hmb0 h6.out H9.out H3.out h1 H1 h5 ((GrownBut.refl W _).step a4.out (fun k hk=>.inl (.inr (.inr hk)))) (.inl rfl)
theorem qB.obj {l:List Int}(h:qB w b n l):∃es clock,w.heap[b]?=some (.map es clock):=by
 obtain⟨D,⟨es,clock,hb,_⟩,_⟩:=h;exact⟨es,clock,hb⟩
theorem NumSt.off {W:World}{sa:Option Addr}{sc:Nat}{mv:Option Nat}{l:List Nat}(h:NumSt base W o sa sc mv l){k:Nat}(hk:W.heap[k]?=some (.cells c e m))(h1:e≠3)(h2:e≠137):¬NF o sa mv k:=by
 rintro (rfl|hn|hn)
 ·rw[h.box]at hk
  simp only[Option.some.injEq,Obj.cells.injEq]at hk;exact h2 hk.2.1.symm
 ·rw[<-yG sa l.length sc]at hn
  exact zR h.own hk (fun e=>h1 e.symm) hn
 rcases h.map with ⟨e,_⟩|⟨mb,e,_,_,_,_,hm⟩
 ·rw[e]at hn;cases hn
 rw[e]at hn;have:=Oj hn;subst this;obtain⟨es,cl,hm⟩:=hm.obj;rw[hm]at hk;simp at hk
theorem NumSt.offOwn {W:World}{sa:Option Addr}{sc:Nat}{mv:Option Nat}{l:List Nat}(h:NumSt base W o sa sc mv l)(a9:W.ownsRow b e sz v n xs)(h1:e≠3)(h2:e≠137):∀k,v.ownBlock=some k->¬NF o sa mv k:=fun k hk=>by
 rcases a9.2 with ⟨rfl,_⟩|⟨g,cap,cur,rfl,_,hg,_⟩
 ·simp[Value.ownBlock]at hk
 ·have:g=k:=by simpa [Value.ownBlock] using hk
  subst this
  exact h.off hg h1 h2
theorem xX.keptT {α:Type}{X:Nat->Prop}{e:TypeId}{f:α->List Value}{hs:List Value}{ts:List α}(h:xX X e f w hs ts)(hg:w.grownBy w' row)(hr:∀k,row=some k->yS w e k):xX X e f w' hs ts :=
 ⟨h.1,fun i h1 h2=>⟨((h.2 i h1 h2).1.kept hg (fun k hk=>.inr (hr k hk))).mono hg.size,(h.2 i h1 h2).2⟩⟩
theorem wG.but {X:Nat->Prop}(a9:∀k,X k->k<w.heap.size)(hg:GrownBut w w' F)(hF:∀k,F k->¬X k):wG X w w':=fun k hk=>hg.block k (a9 k hk) (fun hf=>hF k hf hk)
theorem fX (h:w.ownsRow base e sz v n xs)(hg:GrownBut w w' F)(hF:∀k,v.ownBlock=some k->¬F k):w'.ownsRow base e sz v n xs:=by
 refine⟨h.1,?_⟩;rcases id h.2 with h2|⟨g,cap,cur,hv,hb,hgc,h3⟩
 ·exact .inl h2
 exact .inr ⟨g,cap,cur,hv,hb,hg.heap hgc (hF g (by rw[hv];rfl)),h3⟩
structure ExSt (B:Nat)(W0 W:World)(oN o2:Nat)(X Y:Nat->Prop)(k:Nat)(l:List Nat)(fs:List Bool)(t:List (List Int))(hs:List Value)(sa:Option Addr)(sc:Nat)(mv:Option Nat)(sf:Option Addr)(cf:Nat)(sn:Option Addr)(cn:Nat):Prop where
 num:NumSt B W oN sa sc mv l
 sep:∀j,NF oN sa mv j->¬Y j
 XY:∀j,X j->Y j
 lt:∀j,Y j->j<W.heap.size
 box:W.heap[o2]?=some (.cells #[.int .i64 (k:Int),.int .i64 0,.slice sf fs.length cf,.slice sn t.length cn] 29 (0,0))
 ownF:W.ownsRow o2 4 1 (.slice sf fs.length cf) fs.length (bls fs)
 ownN:W.ownsRow o2 22 1 (.slice sn t.length cn) t.length hs
 rows:xX X 3 ints W hs t
 lo:W0.heap.size<=o2
 loB:W0.heap.size<=B/\B<=W.heap.size
 grown:W0.grownBy W none
section
variable {B:Nat} {W0 W W':World} {oN o2 k:Nat} {X Y:Nat->Prop} {l:List Nat} {fs:List Bool} {t:List (List Int)} {hs:List Value} {sa:Option Addr} {sc:Nat} {mv:Option Nat} {sf:Option Addr} {cf:Nat} {sn:Option Addr} {cn:Nat}
theorem ExSt.grow (h:ExSt B W0 W oN o2 X Y k l fs t hs sa sc mv sf cf sn cn)(hg:W.grownBy W' none):ExSt B W0 W' oN o2 X Y k l fs t hs sa sc mv sf cf sn cn where
 num:=h.num.kept hg yq
 sep:=h.sep
 XY:=h.XY
 lt:=fun j hj=>Nat.lt_of_lt_of_le (h.lt j hj) hg.size
 box:=zD h.box hg
 ownF:=zZ h.ownF hg
 ownN:=zZ h.ownN hg
 rows:=h.rows.keptT hg yq
 lo:=h.lo
 loB:=⟨h.loB.1,Nat.le_trans h.loB.2 hg.size⟩
 grown:=zE h.grown hg
theorem ExSt.fresh (h:ExSt B W0 W oN o2 X Y k l fs t hs sa sc mv sf cf sn cn)(hg:W.grownBy W' none)(h1:W.heap.size<=g)(h2:g<W'.heap.size):ExSt B W0 W' oN o2 X (fun j=>Y j\/j=g) k l fs t hs sa sc mv sf cf sn cn where
 num:=h.num.kept hg yq
 sep:=fun j hj hy=>by
  rcases hy with hy|hy
  ·exact h.sep j hj hy
  ·have:=(h.num.ge j hj).2;omega
 XY:=fun j hj=>.inl (h.XY j hj)
 lt:=fun j hj=>by
  rcases hj with hj|hj
  ·exact Nat.lt_of_lt_of_le (h.lt j hj) hg.size
  ·omega
 box:=zD h.box hg
 ownF:=zZ h.ownF hg
 ownN:=zZ h.ownN hg
 rows:=h.rows.keptT hg yq
 lo:=h.lo
 loB:=⟨h.loB.1,Nat.le_trans h.loB.2 hg.size⟩
 grown:=zE h.grown hg
theorem ExSt.num_step (h:ExSt B W0 W oN o2 X Y k l fs t hs sa sc mv sf cf sn cn){l':List Nat}{a7:Nat}{a8:Option Nat}(hn:NumSt B W' oN a9 a7 a8 l')(hg:GrownBut W W' (NF oN sa mv))(hm:∀k,NF oN a9 a8 k->NF oN sa mv k\/W.heap.size<=k):ExSt B W0 W' oN o2 X Y k l' fs t hs a9 a7 a8 sf cf sn cn where
 num:=hn
 sep:=fun j hj hy=>by
  rcases hm j hj with h1|h1
  ·exact h.sep j h1 hy
  ·have:=h.lt j hy;omega
 XY:=h.XY
 lt:=fun j hj=>Nat.lt_of_lt_of_le (h.lt j hj) hg.size
 box:=hg.heap h.box (h.num.off h.box jd jd)
 ownF:=fX h.ownF hg (h.num.offOwn h.ownF jd jd)
 ownN:=fX h.ownN hg (h.num.offOwn h.ownN jd jd)
 rows:=h.rows.kept (wG.but (fun k hk=>h.lt k (h.XY k hk)) hg (fun k hf hx=>h.sep k hf (h.XY k hx))) hg.size
 lo:=h.lo
 loB:=⟨h.loB.1,Nat.le_trans h.loB.2 hg.size⟩
 grown:=hg.grown h.grown (fun k hk=>.inr (Nat.le_trans h.loB.1 (h.num.ge k hk).1))
theorem ExSt.put (h:ExSt B W0 W oN o2 X Y k l fs t hs sa sc mv sf cf sn cn)(hg:W.grownBy W' (some g))(hc:W.heap[g]?=some (.cells c 3 m))(hY:Y g)(hX:¬X g)(h0:W0.heap.size<=g):ExSt B W0 W' oN o2 X Y k l fs t hs sa sc mv sf cf sn cn where
 num:=h.num.kept hg (fun j e hf=>by have:=Oj e;subst this;exact h.sep _ hf hY)
 sep:=h.sep
 XY:=h.XY
 lt:=fun j hj=>Nat.lt_of_lt_of_le (h.lt j hj) hg.size
 box:=zD h.box hg (fun e=>by
  have:=Oj e
  subst this
  rw[h.box]at hc
  simp only[Option.some.injEq,Obj.cells.injEq]at hc
  exact absurd hc.2.1 jd)
 ownF:=h.ownF.kept hg (.inr (zR h.ownF hc jd))
 ownN:=h.ownN.kept hg (.inr (zR h.ownN hc jd))
 rows:=h.rows.kept (fun j hj=>hg.block j (h.lt j (h.XY j hj)) (fun e=>by have:=Oj e;subst this;exact hX hj)) hg.size
 lo:=h.lo
 loB:=⟨h.loB.1,Nat.le_trans h.loB.2 hg.size⟩
 grown:=zE h.grown hg (fun j e=>by have:=Oj e;omega)
theorem ExSt.pushN (h:ExSt B W0 W oN o2 X Y k l fs t hs sa sc mv sf cf sn cn){m:Nat}(hm:t.length=m){rv:Value}{row:List Int}(ho:W'.ownsRow o2 22 1 (.slice a9 (m+1) a8) (m+1) (hs++[rv]))(hg:W.grownBy W' (Value.slice sn m cn).ownBlock)(a7:RowX (fun j=>X j\/Y j) 3 W rv (ints row))(a6:W2=W'.setCell ⟨o2,3,none⟩ (.slice a9 (m+1) a8)):ExSt B W0 W2 oN o2 Y Y k l fs (t++[row]) (hs++[rv]) sa sc mv sf cf a9 a8:=by
 subst hm;have hb:=zD h.box hg (zR h.ownN h.box jd);have h1:=heap_setCell_same W' o2 3 _ _ (.slice a9 (t.length+1) a8) hb;have g2:=zH W' ⟨o2,3,none⟩ (.slice a9 (t.length+1) a8);rw[<-a6]at h1 g2;have h0:=h.num.offOwn h.ownN jd jd;have h2:=h.num.kept hg (fun j e=>h0 j e)
 have h3:=h.ownF.kept hg (by
  rcases hv:(Value.slice sf fs.length cf).ownBlock with _|j
  ·exact .inl rfl
  refine .inr fun e=>?_;obtain⟨cu,e',mm,hh,h7⟩:=wH (e':=22) h.ownF jd j hv
  exact zR h.ownN hh (fun e2=>h7 e2.symm) e.symm)
 have h5:xX Y 3 ints W (hs++[rv]) (t++[row]):=(h.rows.mono h.XY).snoc (a7.mono (fun j hj=>hj.elim (h.XY j) id));have h4:=h5.keptT hg (fun j e=>wH h.ownN jd j e);have h6:yS W' 3 o2:=⟨_,_,_,hb,jd⟩;have hz:=hg.size;have h8:=g2.size
 exact⟨h2.kept g2 (fun j e hf=>by have:=Oj e;subst this;exact h2.off hb jd jd hf),h.sep,fun _ hj=>hj,fun j hj=>by have:=h.lt j hj;omega,by rw[h1];simp,h3.kept g2 (.inr (zR h3 hb jd)),by
  rw[List.length_append]
  exact ho.kept g2 (.inr (zR ho hb jd)),h4.keptT g2 (fun j e=>by have:=Oj e;subst this;exact h6),h.lo,⟨h.loB.1,by have:=h.loB.2;omega⟩,yM (zE h.grown hg (fun j e=>Nat.le_trans h.lo (h.ownN.lt j e).1)) g2 (by show _<=o2;have:=h.lo;omega)⟩
theorem ExSt.pushF (h:ExSt B W0 W oN o2 X Y k l fs t hs sa sc mv sf cf sn cn){m:Nat}(hm:fs.length=m){b:Bool}(ho:W'.ownsRow o2 4 1 (.slice a9 (m+1) a8) (m+1) (bls fs++[.bool b]))(hg:W.grownBy W' (Value.slice sf m cf).ownBlock)(a7:W2=W'.setCell ⟨o2,2,none⟩ (.slice a9 (m+1) a8)):ExSt B W0 W2 oN o2 X Y k l (fs++[b]) t hs sa sc mv a9 a8 sn cn:=by
 subst hm;have hb:=zD h.box hg (zR h.ownF h.box jd);have h1:=heap_setCell_same W' o2 2 _ _ (.slice a9 (fs.length+1) a8) hb;have g2:=zH W' ⟨o2,2,none⟩ (.slice a9 (fs.length+1) a8);rw[<-a7]at h1 g2;have h0:=h.num.offOwn h.ownF jd jd;have h2:=h.num.kept hg (fun j e=>h0 j e)
 have h3:=h.ownN.kept hg (by
  rcases hv:(Value.slice sn t.length cn).ownBlock with _|j
  ·exact .inl rfl
  refine .inr fun e=>?_;obtain⟨cu,e',mm,hh,h6⟩:=wH (e':=4) h.ownN jd j hv
  exact zR h.ownF hh (fun e2=>h6 e2.symm) e.symm)
 have h4:=h.rows.keptT hg (fun j e=>wH h.ownF jd j e);have h5:yS W' 3 o2:=⟨_,_,_,hb,jd⟩;have hz:=hg.size;have h8:=g2.size;have h7:bls (fs++[b])=bls fs++[.bool b]:=by simp[bls]
 exact⟨h2.kept g2 (fun j e hf=>by have:=Oj e;subst this;exact h2.off hb jd jd hf),h.sep,h.XY,fun j hj=>by have:=h.lt j hj;omega,by rw[h1];simp,by
  rw[List.length_append,h7]
  exact ho.kept g2 (.inr (zR ho hb jd)),h3.kept g2 (.inr (zR h3 hb jd)),h4.keptT g2 (fun j e=>by have:=Oj e;subst this;exact h5),h.lo,⟨h.loB.1,by have:=h.loB.2;omega⟩,yM (zE h.grown hg (fun j e=>Nat.le_trans h.lo (h.ownF.lt j e).1)) g2 (by show _<=o2;have:=h.lo;omega)⟩
end
end Go.Proofs.YtiknckajkdlppaaGreat
namespace Go.Proofs.YtiknckajkdlppaaGreat
variable{q x i a g:Nat}{l m:List Nat}{w:World}{xs:List Value}
def mO (d:DfaV)(k q x:Nat):List Nat:=(List.range x).map (fun a=>(yN d k).idxOf (nx d q a))++List.replicate (k-x) 0
theorem mN {d:DfaV}{k:Nat}(h:x<=k):(mO d k q x).length=k:=by simp[mO];omega
theorem qLF {d:DfaV}{k:Nat}(h:x<k):(mO d k q x).set x ((yN d k).idxOf (nx d q x))=mO d k q (x+1):=by
 unfold mO;rw[List.set_append_right _ _ yq,List.range_succ,List.map_append,show k-x=(k-(x+1))+1 by omega,List.replicate_succ];simp
theorem qHG (d:DfaV)(k q:Nat):mO d k q 0=List.replicate k 0:=by simp[mO]
theorem qHH {d:DfaV}{n k:Nat}(hd:VD d n k)(hA:∀a,a<k->nx d q a∈yN d k)(hq:q<n):zl (mO d k q k)=vV (yN d k) (d.next.getD q []):=by
 have hr:=hd.row q hq;refine List.ext_getElem (by rw[qPQ,mN (Nat.le_refl k),vV,List.length_map,hr]) fun a h1 h2=>?_;have ha:a<k:=by simpa [zl,mO] using h1
 have e2:(vV (yN d k) (d.next.getD q []))[a]=qJ (yN d k) ((d.next.getD q [])[a]'(by rw[hr];exact ha)).toNat:=by simp[vV]
 rw[e2]
 have e3:((d.next.getD q [])[a]'(by rw[hr];exact ha)).toNat=nx d q a:=by
  show _=(ent d.next q a).toNat;unfold ent;rw[zQ (show a<(d.next.getD q []).length by rw[hr];exact ha)]
 rw[e3,qJ,if_pos (hA a ha)];simp[zl,mO]
structure ExL (d:DfaV)(n k i:Nat)(l:List Nat):Prop where
 acc:AccI d n k i l
 go:qL d k (n-i) i l=yN d k
theorem ExL.start {d:DfaV}{n k:Nat}(hd:VD d n k):ExL d n k 0 [st0 d]:=⟨AccI.start hd,by rw[yN,hd.hn];rfl⟩
theorem ExL.le {d:DfaV}{n k:Nat}(h:ExL d n k i l):l.length<=n:=qN h.acc.nd h.acc.lt
theorem ExL.next {d:DfaV}{n k:Nat}(hd:VD d n k)(h:ExL d n k i l)(hi:i<l.length):ExL d n k (i+1) (uJ d l i k):=by
 refine⟨h.acc.row hd hi,?_⟩;have:=h.le;have e:n-i=(n-(i+1))+1:=yo
 have g:=h.go;rw[e,qL,if_pos hi]at g;exact g
theorem ExL.done {d:DfaV}{n k:Nat}(h:ExL d n k i l)(hi:¬i<l.length):l=yN d k:=by
 have g:=h.go;rw[eU hi]at g;exact g
theorem gK (d:DfaV)(k:Nat):∀f i l,l <+: qL d k f i l
 | 0,_,l=>List.prefix_refl l
 | f+1,i,l=>by
  rw[qL]
  split
  ·exact(sC d l i k).trans (gK d k f (i+1) _)
  ·exact List.prefix_refl l
theorem kU (d:DfaV)(l:List Nat)(i:Nat):∀ {a b},a<=b->uJ d l i a <+: uJ d l i b
 | a,0,h=>by rw[show a=0 by omega];exact List.prefix_refl _
 | a,b+1,h=>by
  by_cases e:a=b+1
  ·rw[e];exact List.prefix_refl _
  ·exact(kU d l i yo).trans (nJ _ _)
theorem ExL.pre {d:DfaV}{n k:Nat}(hd:VD d n k)(h:ExL d n k i l)(hi:i<l.length)(hx:x<=k):uJ d l i x <+: yN d k:=by
 have h2:=(h.next hd hi).go;exact(kU d l i hx).trans (h2 ▸ gK d k _ _ _)
theorem ExL.idx {d:DfaV}{n k:Nat}(hd:VD d n k)(h:ExL d n k i l)(hi:i<l.length)(hx:x<k):(uJ d l i (x+1)).idxOf (nx d (l.getD i 0) x)=(yN d k).idxOf (nx d (l.getD i 0) x) :=
 (gH (h.pre hd hi (show x+1<=k by omega)) (rE.2 (.inr ⟨x,yo,rfl⟩))).symm
theorem ExL.done_mem {d:DfaV}{n k:Nat}(hd:VD d n k)(h:ExL d n k i l)(hi:i<l.length)(ha:a<k):nx d (l.getD i 0) a∈yN d k :=
 (h.pre hd hi (show a+1<=k by omega)).subset (rE.2 (.inr ⟨a,yo,rfl⟩))
theorem ExL.rowLen {d:DfaV}{n k:Nat}(hd:VD d n k)(h:ExL d n k i l)(hi:i<l.length)(hx:x<=k):(uJ d l i x).length<=n:=by
 have h1:=(kU d l i hx).length_le;have h2:=(h.next hd hi).le;omega
theorem nY (h:l <+: m)(hi:i<=l.length):m.take i=l.take i:=by
 obtain⟨r,rfl⟩:=h;rw[List.take_append_of_le_length hi]
open Go.Maps Go.RowKit
def exT (d:DfaV)(k:Nat)(l:List Nat)(i:Nat):List (List Int):=(l.take i).map fun q=>vV (yN d k) (d.next.getD q [])
def exF (d:DfaV)(l:List Nat)(i:Nat):List Bool:=(l.take i).map fun q=>d.final.getD q false
theorem qDW {d:DfaV}{k:Nat}(h:i<=l.length):(exT d k l i).length=i:=by simp[exT];omega
theorem qLG {d:DfaV}(h:i<=l.length):(exF d l i).length=i:=by simp[exF];omega
theorem qOJ {d:DfaV}{k:Nat}(hp:l <+: m)(h:i<l.length):exT d k m (i+1)=exT d k l i++[vV (yN d k) (d.next.getD (l.getD i 0) [])]:=by
 simp only[exT,nY hp (show i+1<=l.length by omega),yH (d:=0) h,List.map_append,List.map_cons,List.map_nil]
theorem qOK {d:DfaV}(hp:l <+: m)(h:i<l.length):exF d m (i+1)=exF d l i++[d.final.getD (l.getD i 0) false]:=by
 simp only[exF,nY hp (show i+1<=l.length by omega),yH (d:=0) h,List.map_append,List.map_cons,List.map_nil]
theorem RowX.of_arr {X:Nat->Prop}{n:Nat}{e:TypeId}(h:Arr w g e xs)(hn:xs.length=n)(hm:n<=maxLen)(hX:X g):RowX X e w (.slice (some ⟨g,0,none⟩) n n) xs:=by
 obtain⟨cur,rest,hc,ht⟩:=h;subst hn;refine⟨.inr ⟨g,0,xs.length,cur,(0,0),rfl,zS hc,Nat.le_refl _,hm,hc,fun i hi=>?_⟩,fun k hk=>?_⟩
 ·rw[Nat.zero_add,<-Array.getElem?_toList,ht,List.getElem?_append_left hi,List.getElem?_eq_getElem hi]
 have:g=k:=by simpa [Value.ownBlock] using hk
 subst this;exact hX
theorem Arr.but {w':World}{e:TypeId}{F:Nat->Prop}(h:Arr w g e xs)(hg:GrownBut w w' F)(hF:¬F g):Arr w' g e xs:=by
 obtain⟨cur,rest,hc,ht⟩:=h;exact⟨cur,rest,hg.heap hc hF,ht⟩
theorem qV {W:World}{o:Obj}(h1:W.os=w.os)(h2:W.tape=w.tape)(h3:W.output=w.output)(h4:W.heap=(w.alloc o).heap):w.grownBy W none :=
 uG (Ga w o none) h1 h2 h3 h4
structure TBox (B:Nat)(W:World)(P:Nat)(d:DfaV)(n k S fb fo fc b off cap:Nat)(RB RO RC:Nat->Nat):Prop where
 box:W.heap[P]?=some (.cells #[.int .i64 (k:Int),.int .i64 (S:Int),.slice (some ⟨fb,fo,none⟩) n fc,.slice (some ⟨b,off,none⟩) n cap] 29 (0,0))
 at_:DAt B W d n k fb fo fc b off cap RB RO RC
theorem TBox.grow {B:Nat}{W W':World}{P:Nat}{d:DfaV}{n k S fb fo fc b off cap:Nat}{RB RO RC:Nat->Nat}(h:TBox B W P d n k S fb fo fc b off cap RB RO RC)(hg:W.grownBy W' none):TBox B W' P d n k S fb fo fc b off cap RB RO RC :=
 ⟨zD h.box hg,h.at_.kept hg yq⟩
section
variable {B:Nat} {W:World} {P:Nat} {d:DfaV} {n k S fb fo fc b off cap:Nat} {RB RO RC:Nat->Nat}
theorem qIK (h:TBox B W P d n k S fb fo fc b off cap RB RO RC)(hq:q<n)(ha:a<k):Calls Tryz.prog 102 #[.int .i64 (q:Int),.int .i64 (a:Int),.pointer (some ⟨P,0,none⟩)] W fun e w'=>e=.returned (.int .i64 ((nx d q a:Nat):Int))/\W=w':=by
 obtain⟨c0,c1,c2,c3⟩:=zM h.box;have c4:=h.at_.hd q hq;have c5:=h.at_.el q a hq ha;have hc:=h.at_.cap;have hr:=h.at_.rcap q hq;have hd:=h.at_.ok;have hn:=hd.nbig;have hk:=hd.k6;unfold maxLen at hc hr;clear h hd;go_enter Tryz.func102,Tryz.ntmps102;go_wp2;go_ret;exact⟨rfl,rfl⟩
theorem qIJ (h:TBox B W P d n k S fb fo fc b off cap RB RO RC)(hq:q<n):Calls Tryz.prog 103 #[.int .i64 (q:Int),.pointer (some ⟨P,0,none⟩)] W fun e w'=>e=.returned (.bool (d.final.getD q false))/\W=w':=by
 obtain⟨c0,c1,c2,c3⟩:=zM h.box;have c4:=h.at_.fin hq;have hc:=h.at_.fcap;have hd:=h.at_.ok;have hn:=hd.nbig;unfold maxLen at hc;clear h hd;go_enter Tryz.func103,Tryz.ntmps103;go_wp2;go_ret;exact⟨rfl,rfl⟩
end
def qTK (W:World)(d:DfaV)(k:Nat)(e:Ending)(W':World):Prop :=
 ∃v sa sc,e=.returned (.tuple #[v,.slice sa (yN d k).length sc,.int .i64 0])/\rT W W' v (wX d k)/\W'.ownsRow W.heap.size 3 1 (.slice sa (yN d k).length sc) (yN d k).length (nats (yN d k))/\W.grownBy W' none
theorem qDV (B:Nat)(W:World)(P:Nat)(d:DfaV)(n k S fb fo fc b off cap:Nat)(RB RO RC:Nat->Nat)(hS:S=st0 d)(h5:n<=512)(h:TBox B W P d n k S fb fo fc b off cap RB RO RC):Calls Tryz.prog 101 #[.int .i64 (k:Int),.int .i64 (S:Int),.func (.func 102) #[] #[.pointer (some ⟨P,0,none⟩)],.func (.func 103) #[] #[.pointer (some ⟨P,0,none⟩)]] W (qTK W d k):=by
 have hd:=h.at_.ok;have hn:=hd.nbig;have hk:=hd.k6;have q9:=hd.k1;have r4:S<n:=by rw[hS];exact jB hd
 obtain⟨w1,a5⟩:=Nm ((W.alloc (.cells #[.int .i64 0,.int .i64 0,.slice none 0 0,.slice none 0 0] 29)).alloc (.cells #[.slice none 0 0,.map none] 137));have l2:W.grownBy w1 none:=by rw[a5];exact kN (Ga W _ none) _
 have H3:w1.heap[W.heap.size]?=some (.cells #[.int .i64 0,.int .i64 0,.slice none 0 0,.slice none 0 0] 29 (0,0)):=by rw[a5];exact qHD W _ _
 have i6:w1.heap[W.heap.size+1]?=some (.cells #[.slice none 0 0,.map none] 137 (0,0)):=by rw[a5];exact qGX W _ _
 have q3:w1.heap.size=W.heap.size+2:=by rw[a5,zW,zW]
 obtain⟨oN,e7⟩:=Nm (W.heap.size+1);obtain⟨o0,e9⟩:=Nm W.heap.size;rw[<-e9]at H3;rw[<-e7]at i6;have j2:Hid (NumSt W.heap.size w1 oN none 0 none []):=Kh ⟨i6,World.ownsRow_nil _ _ _ _,.inl ⟨rfl,rfl⟩,yo⟩;obtain⟨h2,p4,m2,HD,HT,HS⟩:=Kf H3 l2 a5 hd h hS;have p1:=Kh e9;have p2:=Kh e7;have n7:W.heap.size<oN:=yo
 have n6:oN<w1.heap.size:=yo
 have o1:W.heap.size<=o0:=yo
 have n9:o0<oN:=yo
 clear e7 e9;clear H3 i6 l2 a5 hd h hS;go_enter Tryz.func101,Tryz.ntmps101;go_upto_region 2 with fail;rw[<-m2.out,<-p2.out,<-p1.out];go_wp2_with fail;refine(qBJ W.heap.size w1 oN none 0 none [] S j2.out yo yq yo).mono ?_;rintro e w2 ⟨sa2,sc2,mv2,rfl,H1,H2,f5⟩;have a6:wU ([]:List Nat) S=[S]:=by simp[wU]
 rw[a6]at H1;have q2:=H2.size;have c2:=Kh H1;have a4:=Kh H2;obtain⟨o2,e8⟩:=Nm w2.heap.size;clear a6 H1 H2 f5;go_wp2_with fail;obtain⟨w3,d7⟩:=Nm (w2.alloc (.cells #[.int .i64 (k:Int),.int .i64 0,.slice none 0 0,.slice none 0 0] 29));have a7:=Ga w2 (.cells #[.int .i64 (k:Int),.int .i64 0,.slice none 0 0,.slice none 0 0] 29) none;have b5:=heap_alloc_new w2 (.cells #[.int .i64 (k:Int),.int .i64 0,.slice none 0 0,.slice none 0 0] 29);rw[<-d7]at a7 b5;rw[<-e8]at b5;have q1:=a7.size;have b0:W.heap.size<=o2:=yo
 have n8:=zS b5;have m8:=Kh (zE (a4.out.grown p4.out (fun k hk=>.inr (j2.out.ge k hk).1)) a7);have h0:Hid (ExSt W.heap.size W w3 oN o2 (fun _=>False) (fun _=>False) k [S] (exF d [S] 0) (exT d k [S] 0) [] sa2 sc2 mv2 none 0 none 0):=Kh ⟨c2.out.kept a7 yq,fun _ _ h=>h,fun _ h=>h,fun _ h=>h.elim,b5,World.ownsRow_nil _ _ _ _,World.ownsRow_nil _ _ _ _,xX.nil,b0,⟨Nat.le_refl _,yo⟩,m8.out⟩
 have p3:=Kh e8;have m1:=Kh d7;have c4:=Kh (zD (a4.out.heap h2.out (fun h=>by
  rcases h with h|h|h
  ·omega
  ·simp[Value.ownBlock]at h
  simp at h)) a7)
 have H9:o0≠o2:=yo
 have k5:o0<w3.heap.size:=yo
 clear a7 b5 d7 e8;rw[<-p3.out,<-m1.out]
 go_loopg [13,14,15,16] n (fun gh i a14 a15 a16 wr=>∃(q:Nat) (l:List Nat) (hs:List Value) (X:Nat->Prop) (sa:Option Addr) (sc:Nat) (mv:Option Nat) (sf:Option Addr) (cf:Nat) (sn:Option Addr) (cn:Nat),gh+q=n/\i=.int .i64 q/\q<=l.length/\ExL d n k q l/\wr.heap[o0]?=some (.cells #[.int .i64 0,.int .i64 0,.slice none 0 0,.slice none 0 0] 29 (0,0))/\ExSt W.heap.size W wr oN o2 X X k l (exF d l q) (exT d k l q) hs sa sc mv sf cf sn cn)
 case atStart=>exact⟨0,[S],[],fun _=>False,sa2,sc2,mv2,none,0,none,0,rfl,rfl,yq,by rw[HS.out];exact ExL.start HD.out,c4.out,h0.out⟩
 clear h0 c2 a4 h2 j2 m8 c4 m2 m1;obtain⟨q,l,hs,X,sa,sc,mv,sf,cf,sn,cn,b4,rfl,d9,a8,H3,h3⟩:=hrel;obtain⟨m7,a9,h2,h0⟩:=Kd b4 a8 H3 h3;have q7:=a8.le;have p9:=h3.grown.size;obtain⟨c0,c1⟩:=tV h3.num.box;clear b4 a8 H3 h3;by_cases hk':q<l.length
 ·have f9:(q:Int)<l.length:=yo
  obtain⟨lb,lo,lc,el,q8,k9,a6,k8⟩:=(Row.of_owns h0.out.num.own).some_ (by rw[zV];omega);rw[zV]at el k9;simp only[Value.slice.injEq]at el;obtain⟨rfl,_,rfl⟩:=el;have cq:=k8.nat q hk';obtain⟨s,c7⟩:=Nm (l.getD q 0);have c6:s<n:=(by rw[c7,zQ hk'];exact a9.out.acc.lt _ (List.getElem_mem hk'));rw[<-c7]at cq;have b8:=Kh c7;clear k8 c7;go_wp2_with (first|(at_make;refine pL rfl _ _ _ rfl yJ rfl .i64 .i64 _ _ k rfl rfl rfl rfl ?b1 ?b2 ?_)|fail)
  case b1=>omega
  case b2=>unfold maxLen;omega
  intro w4 h6 i0 f7;obtain⟨g,hg⟩:=Nm wr.heap.size;rw[<-hg]at h6⊢;have n2:Hid (Arr w4 g 3 (nats (mO d k s 0))):=Kh (by rw[qHG,yW];exact h6);have m3:=Kh (h0.out.fresh i0 (g:=g) yo yo);have n1:=Kh (zD h2.out i0);have l7:¬X g:=fun hx=>by have:=h0.out.lt g hx;omega
  have o8:=Kh l7;have o6:W.heap.size<=g:=yo
  have o5:o0<g:=(by have:=zS h2.out;omega);have k2:=fun x (hx:x<=k)=>a9.out.rowLen HD.out hk' hx;have j0:=Kh k2;clear h6 i0 l7 f7 hg k2 h0 h2 c0 c1 cq;go_wp2_with fail
  go_loopg [16,37] k (fun gh a16 i wr=>∃(x:Nat) (sa:Option Addr) (sc:Nat) (mv:Option Nat),gh+x=k/\i=.int .i64 x/\Arr wr g 3 (nats (mO d k s x))/\wr.heap[o0]?=some (.cells #[.int .i64 0,.int .i64 0,.slice none 0 0,.slice none 0 0] 29 (0,0))/\ExSt W.heap.size W wr oN o2 X (fun j=>X j\/j=g) k (uJ d l q x) (exF d l q) (exT d k l q) hs sa sc mv sf cf sn cn)
  case atStart=>exact⟨0,_,_,_,rfl,rfl,n2.out,n1.out,m3.out⟩
  clear n2 m3 n1 k9 a6;obtain⟨x,sa,sc,mv,b4,rfl,h6,H3,h3⟩:=hrel;obtain⟨c3,j6,h2,h0⟩:=Kd b4 h6 H3 h3;have p8:=h3.grown.size;have q6:=h3.loB.2;clear b4 h6 H3 h3;by_cases hx':x<k
  ·have d6:(x:Int)<k:=yo
   have d4:=Kh (HT.out.grow h0.out.grown);have k7:=j0.out x yo;have f6:=mF HD.out c6 hx';go_wp2_with fail;refine(qIK d4.out c6 hx').mono ?_;rintro e w5 ⟨rfl,rfl⟩;obtain⟨y,hy⟩:=Nm (nx d s x);rw[<-hy]at f6⊢;have HY:=Kh hy;clear hy;go_wp2_with fail;refine(qBJ W.heap.size wr oN sa sc mv (uJ d l q x) y h0.out.num yo yo yo).mono ?_;rintro e w5 ⟨sa5,sc5,mv5,rfl,H0,h4,b3⟩;have e5:wU (uJ d l q x) y=uJ d l q (x+1):=by rw[HY.out,b8.out];rfl
   have e6:(uJ d l q (x+1)).idxOf y=(yN d k).idxOf y:=by rw[HY.out,b8.out];exact a9.out.idx HD.out hk' hx'
   rw[e5]at H0;rw[e5,e6];have q0:=h4.size;have b6:=j6.out.but h4 (fun hf=>h0.out.sep g hf (.inr rfl))
   have l5:=h4.heap h2.out (fun hf=>by
    rcases hf with e|e|e
    ·omega
    ·rw[<-yG sa (uJ d l q x).length sc]at e
     exact zR h0.out.num.own h2.out jd e
    rcases h0.out.num.map with ⟨e2,_⟩|⟨mb,e2,_,_,_,_,hm⟩
    ·rw[e2]at e;cases e
    rw[e2]at e;have:=Oj e;subst this;obtain⟨es,cl,hm⟩:=hm.obj
    rw[h2.out]at hm;simp at hm)
   have k0:=h0.out.num_step H0 h4 b3;have cg:=b6.nat x (by rw[mN yo];exact hx');have fg:=b6.frozen x;have H8:=b6.nat_set x (by rw[mN yo];exact hx') ((yN d k).idxOf y);have a8:(mO d k s x).set x ((yN d k).idxOf y)=mO d k s (x+1):=by rw[HY.out];exact qLF hx'
   rw[a8]at H8;obtain⟨b9,p6,p7,p0⟩:=Kd H8 l5 b6 k0;have q4:(nats (mO d k s x)).length=k:=by rw[zV,mN yo]
   obtain⟨I,hI⟩:=Nm ((yN d k).idxOf y);rw[<-hI]at b9⊢;clear e5 e6 H0 h4 b3 b6 l5 k0 H8 a8 hI;go_wp2_with fail;go_roundg (k-(x+1))
   case measure=>have:=c3.out;omega
   obtain⟨cur,rest,i3,_⟩:=p7.out;have l0:=zH w5 ⟨g,x,none⟩ (.int .i64 (I:Int));exact⟨x+1,sa5,sc5,mv5,yo,by go_num,b9.out,zD p6.out l0 (fun e=>by have e:g=o0:=Oj e;omega),p0.out.put l0 i3 (.inr rfl) o8.out o6⟩
  have n4:x=k:=by have:=c3.out;omega
  subst n4;have d6:¬(x:Int)<x:=yo;obtain⟨m,hm⟩:=Nm (uJ d l q x);have k7:=j0.out x yo;have m0:=Kh (a9.out.next HD.out hk')
  have o4:q<m.length:=by
   have:=(sC d l q x).length_le;rw[hm];omega
  have j1:=Kh (sC d l q x);rw[<-hm]at m0 j1 h0 k7;have HM:=Kh hm;clear hm;obtain⟨c0,c1⟩:=tV h0.out.num.box;obtain⟨d0,d1,d2,d3⟩:=zM h0.out.box;have f3:=zB h0.out.box 3;have q5:¬((512:Int)<m.length):=yo
  have H4:Hid (RowX (fun j=>X j\/(X j\/j=g)) 3 wr (.slice (some ⟨g,0,none⟩) x x) (ints (vV (yN d x) (d.next.getD s [])))):=Kh (by
   have e:=qHH HD.out (q:=s) (fun a ha=>by rw[b8.out];exact a9.out.done_mem HD.out hk' ha) c6;have h9:=RowX.of_arr (X:=fun j=>X j\/(X j\/j=g)) j6.out (by rw[zV,mN (Nat.le_refl x)]) jm (.inr (.inr rfl));rw[show nats (mO d x s x)=ints (zl (mO d x s x)) by simp[nats,ints,zl],e]at h9
   exact h9)
  go_wp2_with (first|(at_builtin;refine iE rfl _ _ _ rfl xT o2 (.slice sn (exT d x l q).length cn) (exT d x l q).length hs rfl h0.out.ownN (.slice (some ⟨g,0,none⟩) x x) rfl rfl ?a1 ?a2 ?a3 ?_;(case a1=>(unfold maxLen;rw[qDW d9];omega));(case a2=>(rw[qDW d9];omega));(case a3=>exact Nat.le_of_lt (zS h0.out.box));intro sn6 cn6 w6 H6 c9 n3 f4;(have i7:=zD h0.out.box c9 (zR h0.out.ownN h0.out.box jd));(obtain⟨e0,e1,e2,e3⟩:=zM i7);(have fz6:=zB i7 3))|fail);have h8:=Kh (h0.out.pushN rfl H6 c9 H4.out rfl);obtain⟨wo,c5⟩:=Nm (w6.setCell ⟨o2,3,none⟩ (.slice sn6 ((exT d x l q).length+1) cn6));rw[<-c5]at h8⊢;have o9:=Kh c5
  have j5:Hid (wo.heap[o0]?=some (.cells #[.int .i64 0,.int .i64 0,.slice none 0 0,.slice none 0 0] 29 (0,0))):=Kh (by
   rw[c5]
   exact zD (zD h2.out c9 (zR h0.out.ownN h2.out jd)) (zH w6 ⟨o2,3,none⟩ _) (fun e=>H9 (Oj e).symm))
  have d4:=Kh (HT.out.grow h8.out.grown);obtain⟨d0,d1,d2,d3⟩:=zM h8.out.box;have fz2:=zB h8.out.box 2;have m6:Hid (∀w',wo.grownBy w' none->w'.ownsRow o2 4 1 (.slice sf (exF d l q).length cf) (exF d l q).length (bls (exF d l q))/\o2<=w'.heap.size):=Kh (fun w' hg=>⟨zZ h8.out.ownF hg,Nat.le_of_lt (Nat.lt_of_lt_of_le (zS h8.out.box) hg.size)⟩)
  have p5:Hid (∀w7 w',wo.grownBy w7 none->w7.grownBy w' (Value.slice sf (exF d l q).length cf).ownBlock->w'.frozen? ⟨o2,2,none⟩=false/\w'.cell? ⟨o2,2,none⟩=some (.slice sf (exF d l q).length cf)):=Kh (fun w7 w' h7 hg=>by
   have hb:=zD (zD h8.out.box h7) hg (zR h8.out.ownF h8.out.box jd)
   exact⟨zB hb 2,(zM hb).2.2.1⟩)
  have j4:=Kh (qLG (d:=d) d9);have k4:=zS h8.out.box;obtain⟨bf,i5⟩:=Nm (d.final.getD s false);have n0:=Kh i5;have m9:Hid (∀w',wo.grownBy w' none->Calls Tryz.prog 103 #[.int .i64 (s:Int),.pointer (some ⟨P,0,none⟩)] w' fun e w''=>e=.returned (.bool bf)/\w'=w''):=Kh (fun w' hg=>by rw[i5];exact qIJ (d4.out.grow hg) c6);clear i5;clear c5 n3 f4 H6 c9 i7 e0 e1 e2 e3 fz6
  have H7:Hid (∀(W1 w':World) (sf':Option Addr) (cf':Nat),w'.ownsRow o2 4 1 (.slice sf' ((exF d l q).length+1) cf') ((exF d l q).length+1) (bls (exF d l q)++[.bool bf])->W1.grownBy w' (Value.slice sf (exF d l q).length cf).ownBlock->wo.grownBy W1 none ->
    (∃(hs:List Value) (X:Nat->Prop) (sa:Option Addr) (sc:Nat) (mv:Option Nat) (sn:Option Addr) (cn:Nat),ExSt W.heap.size W (w'.setCell ⟨o2,2,none⟩ (.slice sf' ((exF d l q).length+1) cf')) oN o2 X X x m (exF d m (q+1)) (exT d x m (q+1)) hs sa sc mv sf' cf' sn cn) /\
    (w'.setCell ⟨o2,2,none⟩ (.slice sf' ((exF d l q).length+1) cf')).heap[o0]?=some (.cells #[.int .i64 0,.int .i64 0,.slice none 0 0,.slice none 0 0] 29 (0,0))/\w'.frozen? ⟨o2,2,none⟩=false/\w'.cell? ⟨o2,2,none⟩=some (.slice sf (exF d l q).length cf)):=Kh (fun W1 w' sf' cf' ho hg h1=>by
   have b7:=h8.out.grow h1;have l6:=zD b7.box hg (zR b7.ownF b7.box jd);have hp:=b7.pushF (b:=bf) rfl ho hg rfl;have eF:exF d l q++[bf]=exF d m (q+1):=by rw[qOK j1.out hk',<-b8.out,<-n0.out]
   have eT:exT d x l q++[vV (yN d x) (d.next.getD s [])]=exT d x m (q+1):=by rw[qOJ j1.out hk',<-b8.out]
   rw[eF,eT]at hp
   exact⟨⟨_,_,_,_,_,_,_,hp⟩,zD (zD (zD j5.out h1) hg (zR b7.ownF (zD j5.out h1) jd)) (zH w' ⟨o2,2,none⟩ _) (fun e=>H9 (Oj e).symm),zB l6 2,(zM l6).2.2.1⟩)
  have j3:Hid (∀W1:World,wo.grownBy W1 none->W1.ownsRow o2 4 1 (.slice sf (exF d l q).length cf) (exF d l q).length (bls (exF d l q))/\o2<=W1.heap.size):=m6;clear m6 p5
  go_region_law (first|(go_simp;go_at_call 103;refine(m9.out _ (by first|exact zY wo none|exact zT wo _ none)).mono ?_;rintro e w' ⟨rfl,rfl⟩)|(refine mB ?g1 (.tmp 61) (.tmp 65) 26 ?g2 xK o2 (.slice sf (exF d l q).length cf) (exF d l q).length (bls (exF d l q)) ?g3 ?g4 (.bool bf) wo.heap.size (0,0) ?g5 ?g6 ?g7 ?g8 ?g9 ?g10 ?_;(case g1=>rfl);(case g2=>rfl);(case g3=>rfl);(case g4=>(refine(j3.out _ ?_).1;exact qV (o:=.cells #[.bool bf] 4) rfl rfl rfl rfl));(case g5=>rfl);(case g6=>exact heap_alloc_new (wo.drew) _);(case g7=>rfl);(case g8=>(rw[j4.out];unfold maxLen;omega));(case g9=>(rw[j4.out];omega));(case g10=>(refine(j3.out _ ?_).2;exact qV (o:=.cells #[.bool bf] 4) rfl rfl rfl rfl));intro sf8 cf8 w8 H5 l1;have c8:=H7.out _ _ _ _ H5 l1 (qV (o:=.cells #[.bool bf] 4) rfl rfl rfl rfl);have i1:=c8.2.2.1;have i2:=c8.2.2.2;have m5:=Kh c8;clear c8 H5 l1)|fail)
  all_goals
   clear H7 j3 m9 j5 n0 o9 d4 h8 d0 d1 d2 d3 fz2 i1 i2 j4 j0 H4 j6 h2;obtain⟨w9,j9⟩:=Nm (w8.setCell ⟨o2,2,none⟩ (.slice sf8 ((exF d l q).length+1) cf8));rw[<-j9]at m5⊢;clear j9;go_wp2;go_roundg (n-(q+1))
   case measure=>have:=m7.out;omega
   obtain⟨⟨n5,X9,sa9,sc9,mv9,sn9,cn9,d8⟩,i9,_,_⟩:=m5.out;exact⟨q+1,m,n5,X9,sa9,sc9,mv9,sf8,cf8,sn9,cn9,by have:=m7.out;omega,by go_num,o4,m0.out,i9,d8⟩
 have f9:¬(q:Int)<l.length:=yo
 have d5:=Kh (a9.out.done hk');have m4:Hid (q=l.length):=Kh yo;obtain⟨d0,d1,d2,d3⟩:=zM h0.out.box;obtain⟨e0,e1,e2,e3⟩:=zM h2.out;have f0:=zB h2.out 0;have f1:=zB h2.out 1;have f2:=zB h2.out 2;have f3:=zB h2.out 3;go_wp2_with fail;obtain⟨c0,c1⟩:=tV h0.out.num.box;have o3:o0≠oN:=yo
 go_region
 all_goals (try go_frame)
 all_goals go_wp2
 obtain⟨i4,g0⟩:=vS h2.out (.int .i64 (k:Int)) (.int .i64 0) (.slice sf (exF d l q).length cf) (.slice sn (exT d k l q).length cn);obtain⟨wz,j7⟩:=Nm ((((wr.setCell ⟨o0,0,none⟩ (.int .i64 (k:Int))).setCell ⟨o0,1,none⟩ (.int .i64 0)).setCell ⟨o0,2,none⟩ (.slice sf (exF d l q).length cf)).setCell ⟨o0,3,none⟩ (.slice sn (exT d k l q).length cn));rw[<-j7]at i4 g0⊢;clear j7;have a0:=zE (row:=some o0) g0 (zY wz none) yq;have l4:wz.drew.heap[o0]?=some (.cells #[.int .i64 (k:Int),.int .i64 0,.slice sf (exF d l q).length cf,.slice sn (exT d k l q).length cn] 29 (0,0)):=i4;obtain⟨wf,j8⟩:=Nm wz.drew;rw[<-j8]at a0 l4⊢;obtain⟨r0,r1,r2,r3⟩:=zM l4;clear j8 i4 g0;refine bodyPost_ret (v:=.tuple #[.agg #[.int .i64 (k:Int),.int .i64 0,.slice sf (exF d l q).length cf,.slice sn (exT d k l q).length cn],.slice sa l.length sc,.int .i64 0]) (by simp[results,Tryz.results101,go_sem,r0,r1,r2,r3]) rfl ?_
 have eF:exF d l q=(wX d k).final:=by
  rw[exF,m4.out,List.take_length,d5.out];rfl
 have eT:exT d k l q=(wX d k).next:=by
  rw[exT,m4.out,List.take_length,d5.out];rfl
 have h3:=h0.out;have o7:W.grownBy wf none:=yM h3.grown a0 (by show _<=o0;omega);have e4:yS wr 3 o0:=⟨_,_,_,h2.out,jd⟩;have f8:(exF d l q).length=(exT d k l q).length:=by rw[qLG yo,qDW yo]
 have i8:=zD h3.box a0 (fun e=>H9 (Oj e));have l9:=h3.ownF.kept a0 (.inr (zR h3.ownF h2.out jd));have l8:=h3.ownN.kept a0 (.inr (zR h3.ownN h2.out jd));have k3:=(h3.rows.keptT a0 (fun k e=>by have e:o0=k:=Oj e;subst e;exact e4)).rowsT;have a6:=h3.num.own.kept a0 (.inr (zR h3.num.own h2.out jd));have l3:(wX d k).letters=k:=HD.out.hk;rw[eF]at f8 i8 l9⊢;rw[eT]at f8 i8 l8 k3⊢;refine⟨_,sa,sc,by rw[<-d5.out],?_,by rw[<-d5.out];exact a6,o7⟩;exact⟨o2,hs,sf,cf,sn,cn,by rw[l3];rfl,b0,by rw[l3];exact i8,l9,l8,k3,f8⟩
end Go.Proofs.YtiknckajkdlppaaGreat
namespace Go.Proofs.YtiknckajkdlppaaGreat
open Go.RowKit
variable{m a8 q:Nat}{a9:Option Addr}{W2:World}{d:DfaV}{p:List Nat}
structure BX (W0 W:World)(o:Nat)(X:Nat->Prop)(k:Nat)(fs:List Bool)(t:List (List Int))(hs:List Value)(sf:Option Addr)(cf:Nat)(sn:Option Addr)(cn:Nat):Prop where
 lt:∀j,X j->j<W.heap.size
 box:W.heap[o]?=some (.cells #[.int .i64 (k:Int),.int .i64 0,.slice sf fs.length cf,.slice sn t.length cn] 29 (0,0))
 ownF:W.ownsRow o 4 1 (.slice sf fs.length cf) fs.length (bls fs)
 ownN:W.ownsRow o 22 1 (.slice sn t.length cn) t.length hs
 rows:xX X 3 ints W hs t
 lo:W0.heap.size<=o
 grown:W0.grownBy W none
section
variable {W0 W W':World} {o k:Nat} {X:Nat->Prop} {fs:List Bool} {t:List (List Int)} {hs:List Value} {sf:Option Addr} {cf:Nat} {sn:Option Addr} {cn:Nat}
theorem BX.start {w:World}{o k:Nat}(hb:w.heap[o]?=some (.cells #[.int .i64 (k:Int),.int .i64 0,.slice none 0 0,.slice none 0 0] 29 (0,0)))(h0:W0.heap.size<=o)(hg:W0.grownBy w none):BX W0 w o (fun _=>False) k [] [] [] none 0 none 0 :=
 ⟨fun _ h=>h.elim,hb,World.ownsRow_nil _ _ _ _,World.ownsRow_nil _ _ _ _,xX.nil,h0,hg⟩
theorem BX.grow (h:BX W0 W o X k fs t hs sf cf sn cn)(hg:W.grownBy W' none):BX W0 W' o X k fs t hs sf cf sn cn where
 lt:=fun j hj=>Nat.lt_of_lt_of_le (h.lt j hj) hg.size
 box:=zD h.box hg
 ownF:=zZ h.ownF hg
 ownN:=zZ h.ownN hg
 rows:=h.rows.keptT hg yq
 lo:=h.lo
 grown:=zE h.grown hg
theorem BX.put (h:BX W0 W o X k fs t hs sf cf sn cn){g:Nat}{c:Array Value}{m:Nat×Nat}(hg:W.grownBy W' (some g))(hc:W.heap[g]?=some (.cells c 3 m))(hX:¬X g)(h0:W0.heap.size<=g):BX W0 W' o X k fs t hs sf cf sn cn where
 lt:=fun j hj=>Nat.lt_of_lt_of_le (h.lt j hj) hg.size
 box:=zD h.box hg (fun e=>by
  have:=Oj e
  subst this
  rw[h.box]at hc
  simp only[Option.some.injEq,Obj.cells.injEq]at hc
  exact absurd hc.2.1 jd)
 ownF:=h.ownF.kept hg (.inr (zR h.ownF hc jd))
 ownN:=h.ownN.kept hg (.inr (zR h.ownN hc jd))
 rows:=h.rows.kept (fun j hj=>hg.block j (h.lt j hj) (fun e=>by have:=Oj e;subst this;exact hX hj)) hg.size
 lo:=h.lo
 grown:=zE h.grown hg (fun j e=>by have:=Oj e;omega)
theorem BX.pushN (h:BX W0 W o X k fs t hs sf cf sn cn)(hm:t.length=m){rv:Value}{row:List Int}{Y:Nat->Prop}(a6:∀j,X j->Y j)(hY:∀j,Y j->j<W.heap.size)(ho:W'.ownsRow o 22 1 (.slice a9 (m+1) a8) (m+1) (hs++[rv]))(hg:W.grownBy W' (Value.slice sn m cn).ownBlock)(a7:RowX Y 3 W rv (ints row))(a5:W2=W'.setCell ⟨o,3,none⟩ (.slice a9 (m+1) a8)):BX W0 W2 o Y k fs (t++[row]) (hs++[rv]) sf cf a9 a8:=by
 subst hm;have hb:=zD h.box hg (zR h.ownN h.box jd);have h0:=heap_setCell_same W' o 3 _ _ (.slice a9 (t.length+1) a8) hb;have g2:=zH W' ⟨o,3,none⟩ (.slice a9 (t.length+1) a8);rw[<-a5]at h0 g2
 have h1:=h.ownF.kept hg (by
  rcases hv:(Value.slice sf fs.length cf).ownBlock with _|j
  ·exact .inl rfl
  refine .inr fun e=>?_;obtain⟨cu,e',mm,hh,h5⟩:=wH (e':=22) h.ownF jd j hv
  exact zR h.ownN hh (fun e2=>h5 e2.symm) e.symm)
 have h3:xX Y 3 ints W (hs++[rv]) (t++[row]):=(h.rows.mono a6).snoc a7;have h2:=h3.keptT hg (fun j e=>wH h.ownN jd j e);have h4:yS W' 3 o:=⟨_,_,_,hb,jd⟩;have hz:=hg.size;have h6:=g2.size
 exact⟨fun j hj=>by have:=hY j hj;omega,by rw[h0];simp,h1.kept g2 (.inr (zR h1 hb jd)),by
  rw[List.length_append]
  exact ho.kept g2 (.inr (zR ho hb jd)),h2.keptT g2 (fun j e=>by have:=Oj e;subst this;exact h4),h.lo,yM (zE h.grown hg (fun j e=>Nat.le_trans h.lo (h.ownN.lt j e).1)) g2 (by show _<=o;have:=h.lo;omega)⟩
theorem BX.pushF (h:BX W0 W o X k fs t hs sf cf sn cn)(hm:fs.length=m){b:Bool}(ho:W'.ownsRow o 4 1 (.slice a9 (m+1) a8) (m+1) (bls fs++[.bool b]))(hg:W.grownBy W' (Value.slice sf m cf).ownBlock)(a7:W2=W'.setCell ⟨o,2,none⟩ (.slice a9 (m+1) a8)):BX W0 W2 o X k (fs++[b]) t hs a9 a8 sn cn:=by
 subst hm;have hb:=zD h.box hg (zR h.ownF h.box jd);have h0:=heap_setCell_same W' o 2 _ _ (.slice a9 (fs.length+1) a8) hb;have g2:=zH W' ⟨o,2,none⟩ (.slice a9 (fs.length+1) a8);rw[<-a7]at h0 g2
 have h1:=h.ownN.kept hg (by
  rcases hv:(Value.slice sn t.length cn).ownBlock with _|j
  ·exact .inl rfl
  refine .inr fun e=>?_;obtain⟨cu,e',mm,hh,h4⟩:=wH (e':=4) h.ownN jd j hv
  exact zR h.ownF hh (fun e2=>h4 e2.symm) e.symm)
 have h2:=h.rows.keptT hg (fun j e=>wH h.ownF jd j e);have h3:yS W' 3 o:=⟨_,_,_,hb,jd⟩;have hz:=hg.size;have h6:=g2.size;have h5:bls (fs++[b])=bls fs++[.bool b]:=by simp[bls]
 exact⟨fun j hj=>by have:=h.lt j hj;omega,by rw[h0];simp,by
  rw[List.length_append,h5]
  exact ho.kept g2 (.inr (zR ho hb jd)),h1.kept g2 (.inr (zR h1 hb jd)),h2.keptT g2 (fun j e=>by have:=Oj e;subst this;exact h3),h.lo,yM (zE h.grown hg (fun j e=>Nat.le_trans h.lo (h.ownF.lt j e).1)) g2 (by show _<=o;have:=h.lo;omega)⟩
theorem BX.built (h:BX W0 W o X k fs t hs sf cf sn cn)(hl:fs.length=t.length):Built o W o k 0 fs t hs sf cf sn cn:=⟨h.box,h.ownF,h.ownN,h.rows.rowsT,hl⟩
end
def sH (d:DfaV)(p:List Nat)(q:Nat):List Bool:=(sF p q).map fun q=>d.final.getD q false
def rS (d:DfaV)(p:List Nat)(q:Nat):List (List Int):=(sF p q).map fun q=>tB p (d.next.getD q [])
theorem qGO (h:p.getD q 0=cls (p.take q)):sH d p (q+1)=sH d p q++[d.final.getD q false]:=by
 rw[sH,uX h,List.map_append];rfl
theorem qGM (h:p.getD q 0=cls (p.take q)):rS d p (q+1)=rS d p q++[tB p (d.next.getD q [])]:=by
 rw[rS,uX h,List.map_append];rfl
theorem qGN (h:p.getD q 0≠cls (p.take q)):sH d p (q+1)=sH d p q:=by rw[sH,uW h];rfl
theorem qGL (h:p.getD q 0≠cls (p.take q)):rS d p (q+1)=rS d p q:=by rw[rS,uW h];rfl
theorem dR (h:Norm p)(hq:q<=p.length):(sH d p q).length=cls (p.take q):=by rw[sH,List.length_map,tE h q hq]
theorem dP (h:Norm p)(hq:q<=p.length):(rS d p q).length=cls (p.take q):=by rw[rS,List.length_map,tE h q hq]
theorem qJH (hq:q=p.length)(h0:p.getD (st0 d) 0=0):(⟨d.letters,0,sH d p q,rS d p q⟩:DfaV)=sV d p:=by
 rw[hq,sV,h0];rfl
theorem qJZ (h:Norm p):p.getD 0 0=0:=by
 by_cases h0:0<p.length
 ·have:=(jM h h0).1
  rw[List.take_zero]at this;simpa [cls,yT] using this
 rw[List.getD,List.getElem?_eq_none yo];rfl
theorem qM (B:Nat)(w:World)(v:Value)(d:DfaV)(hB:B<=w.heap.size)(h:rP B w v d):Calls Tryz.prog 67 #[v] w fun e w'=>e=.returned (.int .i64 (uR d))/\w.grownBy w' none:=by
 obtain⟨fv,nv,rfl,hf,hn⟩:=h;have a2:=hf.len_le;rw[yB]at a2;unfold maxLen at a2;have a5:=hn.len_le;unfold maxLen at a5;obtain⟨fa,fc,rfl⟩:=hf.shape;rw[yB]at hf⊢;obtain⟨na,nc,rfl⟩:=hn.shape;have HN:=Kh hn;obtain⟨n,a0⟩:=Nm d.final.length;obtain⟨m,a1⟩:=Nm d.next.length;obtain⟨L,hL⟩:=Nm d.letters;obtain⟨S,hS⟩:=Nm d.start;rw[<-a0]at a2⊢;rw[<-a1]at a5 HN⊢;rw[<-hL,<-hS];obtain⟨H0,H1,H8,b0⟩:=Kd a0 a1 hL hS;clear hf hn a0 a1 hL hS;obtain⟨wA,H6⟩:=Nm (w.alloc (.cells #[.int .i64 L,.int .i64 S,.slice fa n fc,.slice na m nc] 29));have h3:wA.heap[w.heap.size]?=some (.cells #[.int .i64 L,.int .i64 S,.slice fa n fc,.slice na m nc] 29 (0,0)):=by rw[H6];exact heap_alloc_new w _
 have a7:w.grownBy wA none:=by rw[H6];exact Ga w _ none
 have c0:=zJ h3 0;have c1:=zJ h3 1;have c2:=zJ h3 2;have c3:=zJ h3 3;simp only[sPd,sPe,sPf]at c0 c1 c2 c3;have h4:=Kh a7;have h9:=Kh H6;clear h3 a7 H6;by_cases hl:L<1\/6<L
 ·have HE:=Kh (lW (d:=d) (by rw[<-H8.out];exact hl))
  by_cases h1:L<1
  ·clear hl
   go_enter Tryz.func67,Tryz.ntmps67;go_upto_region 1 with fail;rw[<-h9.out];go_wp2;go_ret;exact⟨yX HE.out.symm,h4.out⟩
  have h6:6<L:=yo
  clear hl;go_enter Tryz.func67,Tryz.ntmps67;go_upto_region 1 with fail;rw[<-h9.out];go_wp2;go_ret;exact⟨yX HE.out.symm,h4.out⟩
 have c7:1<=L:=yo
 have c6:L<=6:=yo
 have H2:Hid (¬(d.letters<1\/6<d.letters)):=Kh (by rw[<-H8.out];exact hl);clear hl;by_cases h5:512<n
 ·have HE:=Kh (dJ H2.out (by rw[<-H0.out];exact h5))
  go_enter Tryz.func67,Tryz.ntmps67;go_upto_region 1 with fail;rw[<-h9.out];go_wp2;go_ret;exact⟨yX HE.out.symm,h4.out⟩
 have H5:Hid (¬512<d.final.length):=Kh (by rw[<-H0.out];exact h5);by_cases hsh:n=0\/m≠n\/S<0\/n<=S
 ·have HE:=Kh (iY H2.out H5.out (by rw[<-H0.out,<-H1.out,<-b0.out];exact hsh))
  ·by_cases h8:m=n
   ·have e1:((m:Int) != n)=false:=by rw[h8];simp
    have b7:=Kh h8;by_cases hs:S<0
    ·clear hsh h8
     go_enter Tryz.func67,Tryz.ntmps67;go_upto_region 1 with fail;rw[<-h9.out];go_wp2;go_ret;exact⟨yX HE.out.symm,h4.out⟩
    have b1:(n:Int)<=S:=yo
    clear hsh h8;go_enter Tryz.func67,Tryz.ntmps67;go_upto_region 1 with fail;rw[<-h9.out];go_wp2;go_ret;exact⟨yX HE.out.symm,h4.out⟩
   have e1:((m:Int) != n)=true:=by rw[bne_iff_ne];omega
   clear hsh;go_enter Tryz.func67,Tryz.ntmps67;go_upto_region 1 with fail;rw[<-h9.out];go_wp2;go_ret;exact⟨yX HE.out.symm,h4.out⟩
 have H7:Hid (¬(d.final.length=0\/d.next.length≠d.final.length\/d.start<0\/d.final.length<=d.start)):=Kh (by rw[<-H0.out,<-H1.out,<-b0.out];exact hsh);have h0:0<n:=yo;have e0:((n:Int) == 0)=false:=by rw[beq_eq_false_iff_ne];omega
 have h8:m=n:=yo
 have e1:((m:Int) != n)=false:=by rw[h8];simp
 have c4:0<=S:=yo
 have b1:S<n:=yo;have b2:0<m:=yo;have a9:Mat B wA (.slice na m nc) d.next:=HN.out.kept h4.out yq;obtain⟨b,off,cap,A,C,e,b6,b5,a6⟩:=a9.some_ (by rw[<-H1.out];exact b2);simp only[Value.slice.injEq]at e;obtain⟨rfl,-,rfl⟩:=e;rw[<-H1.out]at b6;have c5:nc<=9223372036854775807:=jl b5
 have HM:=Kh a6;have b7:=Kh h8;clear hsh h8 a9 a6;go_enter Tryz.func67,Tryz.ntmps67;go_upto_region 1 with fail;rw[<-h9.out];go_wp2
 go_loopg [40] m (fun g i wr=>∃k:Nat,g+k=m/\i=.int .i64 k/\qTM d k/\wA=wr)
 case atStart=>exact⟨0,rfl,rfl,fun x hx=>absurd hx yo,rfl⟩
 obtain⟨k,hg,rfl,H3,rfl⟩:=hrel;have OK:=Kh H3;have HG:=Kh hg;clear H3 hg;by_cases hk:k<m
 ·have H4:k<d.next.length:=by rw[<-H1.out];exact hk
  have a8:=HM.out.hd k H4;have h7:=HM.out.row k H4;have H9:=h7.len_le;rw[zL]at H9;unfold maxLen at H9;obtain⟨r,hr⟩:=Nm (d.next.getD k []);rw[<-hr]at a8 h7 H9;have HR:=Kh hr;have a3:=Kh H4;clear hr H4;by_cases hlr:(r.length:Int)=L
  ·have b8:=Kh hlr
   have b3:((r.length:Int) != L)=false:=by rw[hlr];simp
   obtain⟨rb,ro,rc,e,hb,h1,h2,a4⟩:=h7.some_ (by rw[zL];omega);simp only[Value.slice.injEq]at e;obtain⟨eA,-,rfl⟩:=e;rw[eA]at a8;rw[zL]at h1;have HA:=Kh eA;have RA:=Kh a4;clear eA a4 hlr h7;go_wp2
   go_loopg [51] r.length (fun g j wr'=>∃y:Nat,g+y=r.length/\j=.int .i64 y/\qCK n r y/\wA=wr')
   case atStart=>exact⟨0,rfl,rfl,fun x hx=>absurd hx yo,rfl⟩
   obtain⟨y,hg,rfl,H3,rfl⟩:=hrel;have OKY:=Kh H3;have b9:=Kh hg;clear H3 hg;by_cases hy:y<r.length
   ·have b4:=RA.out.int y hy
    obtain⟨z,hz⟩:=Nm (r.getD y 0);rw[<-hz]at b4;have HZ:=Kh hz;clear hz;by_cases hb1:z<0
    ·have HE:=Kh (qR H2.out H5.out H7.out a3.out (by rw[<-HR.out];exact gX (y:=y) hy (by rw[<-HZ.out];exact .inl hb1)))
     go_wp2;go_ret;exact⟨yX HE.out.symm,h4.out⟩
    by_cases hb2:(n:Int)<=z
    ·have HE:=Kh (qR H2.out H5.out H7.out a3.out (by rw[<-HR.out];exact gX (y:=y) hy (by rw[<-HZ.out,<-H0.out];exact .inr hb2)))
     go_wp2;go_ret;exact⟨yX HE.out.symm,h4.out⟩
    go_wp2;go_roundg (r.length-(y+1))
    case measure=>have:=b9.out;omega
    refine⟨y+1,yo,by go_num,fun x hx=>?_,rfl⟩;rcases Nat.lt_succ_iff_lt_or_eq.1 hx with hx|rfl
    ·exact OKY.out x hx
    rw[<-HZ.out];omega
   go_wp2;go_roundg (m-(k+1))
   case measure=>have:=HG.out;omega
   refine⟨k+1,yo,by go_num,fun x hx=>?_,rfl⟩;rcases Nat.lt_succ_iff_lt_or_eq.1 hx with hx|rfl
   ·exact OK.out x hx
   rw[<-HR.out,oT,<-H0.out,<-H8.out];exact⟨b8.out,fun z hz=>OKY.out z yo⟩
  have b3:((r.length:Int) != L)=true:=by rw[bne_iff_ne];exact hlr
  have HE:=Kh (qR H2.out H5.out H7.out a3.out (by rw[<-HR.out];exact qEX (by rw[<-H8.out];exact hlr)));clear hlr;go_wp2;go_ret;exact⟨yX HE.out.symm,h4.out⟩
 have HE:=Kh (qAE H2.out H5.out H7.out (fun q hq=>OK.out q (by have:=H1.out;omega)));go_wp2;go_ret;exact⟨yX HE.out.symm,h4.out⟩
def qSC (w:World)(d:DfaV)(n k:Nat)(e:Ending)(w':World):Prop :=
 ∃v G,e=.returned (.tuple #[v,.slice (some ⟨G,0,none⟩) n n])/\rT w w' v (wX d k)/\w.heap.size<=G/\Arr w' G 3 (ints (rB n (yN d k)))/\w.grownBy w' none
theorem qAT (B:Nat)(w:World)(v:Value)(d:DfaV)(n k:Nat)(hB:B<=w.heap.size)(h:rP B w v d)(hd:VD d n k)(h5:n<=512):Calls Tryz.prog 93 #[v] w (qSC w d n k):=by
 have H0:=h;obtain⟨fb,fo,fc,b,off,cap,RB,RO,RC,rfl,H5⟩:=h.at hd;have hn:=hd.hn;have j8:=hd.n1;have k2:=hd.k6;have k3:=hd.k1;have k4:=H5.fcap.1;have H8:=H5.fcap.2;have k5:=H5.cap.1;have H9:=H5.cap.2;have f9:fc<=9223372036854775807:=jl H8
 have f8:cap<=9223372036854775807:=jl H9
 obtain⟨S,hS⟩:=Nm (st0 d);have g9:=Kh hS;have d6:dAgg k (st0 d) fb fo fc b off cap n=.agg #[.int .i64 (k:Int),.int .i64 (S:Int),.slice (some ⟨fb,fo,none⟩) n fc,.slice (some ⟨b,off,none⟩) n cap]:=by rw[hS];rfl
 rw[d6]at H0⊢;obtain⟨a1,b4,H6,d4⟩:=rK w #[.int .i64 (k:Int),.int .i64 (S:Int),.slice (some ⟨fb,fo,none⟩) n fc,.slice (some ⟨b,off,none⟩) n cap] #[.int .i64 0,.int .i64 0,.slice none 0 0,.slice none 0 0] 29;obtain⟨wA,c4⟩:=Nm ((w.alloc (.cells #[.int .i64 (k:Int),.int .i64 (S:Int),.slice (some ⟨fb,fo,none⟩) n fc,.slice (some ⟨b,off,none⟩) n cap] 29)).alloc (.cells #[.int .i64 0,.int .i64 0,.slice none 0 0,.slice none 0 0] 29));rw[<-c4]at a1 b4 H6 d4;obtain⟨c0,c1,c2,c3⟩:=zM a1;obtain⟨P,hP⟩:=Nm w.heap.size;obtain⟨Q,hQ⟩:=Nm (w.heap.size+1);have i2:=Kh hP;have i0:Hid (Q=P+1):=Kh yo;have l2:P<Q:=yo
 have k8:Q<wA.heap.size:=yo
 have l1:w.heap.size<=P:=yo
 have g4:B<=wA.heap.size:=yo
 rw[<-hQ]at b4;rw[<-hP]at a1 c0 c1 c2 c3 hB;obtain⟨j2,j1,i6,g5⟩:=Kd a1 b4 H6 c4;have j3:=Kh (H5.kept H6 yq);have HN:=Kh hn;have HD:=Kh hd;have e7:=Kh (qM B wA _ d g4 (H0.kept H6 yq));have g7:=Kh (kW hd h5);clear a1 b4 H6 c4 H5 hn hd h H0 d6 H8 H9 hS d4 hP hQ;go_enter Tryz.func93,Tryz.ntmps93;go_upto_region 1 with fail;rw[<-g5.out,<-i2.out,<-i0.out];go_wp2_with fail;refine e7.out.mono ?_;rintro e w1 ⟨rfl,H4⟩;rw[g7.out];have j7:=H4.size;have i7:=Kh H4;have H3:=Kh (zD j2.out H4);have c9:=Kh (zD j1.out H4);have e9:=Kh (qDV B w1 P d n k S fb fo fc b off cap RB RO RC g9.out h5 ⟨H3.out,j3.out.kept H4 yq⟩);obtain⟨d0,d1,d2,d3⟩:=zM H3.out;clear H4 e7 c0 c1 c2 c3;go_wp2_with fail;refine e9.out.mono ?_;rintro e w2 ⟨v2,sa,sc,rfl,⟨o,hs,sf,cf,sn,cn,rfl,ho,H1⟩,h3,b9⟩;clear e9 d0 d1 d2 d3;obtain⟨h6,g0⟩:=wV HD.out;obtain⟨l,hl⟩:=Nm (yN d k);have HL:=Kh hl;rw[<-hl]at h3 h6 g0⊢;have g1:=h6.hd.1;obtain⟨gl,rfl,k0,j9,a2⟩:=yV h3 g1;obtain⟨m,hm⟩:=Nm (wX d k);rw[<-hm]at H1;have HM:=Kh hm;have a6:(wX d k).start=0:=rfl;have b0:(wX d k).letters=k:=HD.out.hk;rw[<-hm]at a6 b0;rw[<-hm,a6,b0];obtain⟨j4,c8,a4,i9,i4,i5⟩:=Kf a2 b9 h6 H1 a6 b0;have j6:=b9.size;obtain⟨FL,c6⟩:=Nm m.final.length;obtain⟨NL,c5⟩:=Nm m.next.length;rw[<-c6,<-c5];have i8:=Kh c6;have i3:=Kh c5;clear hl h3 a2 b9 h6 hm a6 b0 H1 c6 c5;obtain⟨w3,b6⟩:=Nm (w2.alloc (.cells #[.int .i64 (k:Int),.int .i64 0,.slice sf FL cf,.slice sn NL cn] 29));obtain⟨T,hT⟩:=Nm w2.heap.size;have H7:=Ga w2 (.cells #[.int .i64 (k:Int),.int .i64 0,.slice sf FL cf,.slice sn NL cn] 29) none;have a0:=heap_alloc_new w2 (.cells #[.int .i64 (k:Int),.int .i64 0,.slice sf FL cf,.slice sn NL cn] 29);rw[<-b6]at H7 a0;rw[<-hT]at a0;obtain⟨b5,j0,g6,g8⟩:=Kd H7 a0 b6 hT;have j5:=H7.size;have k7:=zS a0;have k9:Q<T:=yo
 have l0:P+1<w3.heap.size:=yo
 obtain⟨d0,d1,d2,d3⟩:=zM (zD (zD H3.out c8.out) H7);clear H7 a0 b6 hT;go_upto_region 4 with fail;rw[<-g6.out,<-g8.out];go_wp2_with (first|(at_make;refine pL rfl _ _ _ rfl yJ rfl .i64 .i64 _ _ n rfl rfl rfl rfl ?b1 ?b2 ?_;(case b1=>omega);(case b2=>(unfold maxLen;omega));intro w4 h0 e5 b8)|fail);obtain⟨G,hG⟩:=Nm w3.heap.size;rw[<-hG]at h0 b8⊢;obtain⟨f5,e8,c7⟩:=Kc h0 e5 hG;have l3:T<G:=yo
 clear h0 e5 hG d0 d1 d2 d3
 go_loopg [8,32] n (fun gh a7 i wr=>∃q:Nat,gh+q=n/\i=.int .i64 q/\Arr wr G 3 (ints (iR n q))/\w3.grownBy wr none)
 case atStart=>exact⟨0,rfl,rfl,by simpa [iR,pS] using f5.out,e8.out⟩
 clear f5 e8;obtain⟨q,hg,rfl,h0,h4⟩:=hrel;obtain⟨HG,HA,a3⟩:=Kc hg h0 h4;clear hg;by_cases hq:q<n
 ·have f7:(q:Int)<n:=yo
  have cgk:=h0.int q (by rw[pQ yo];exact hq);have fgk:=h0.frozen q;have HS:=Kh (qBR hq);clear h0 h4;go_wp2;go_roundg (n-(q+1))
  case measure=>have:=HG.out;omega
  refine⟨q+1,yo,by go_num,?_,zE a3.out (zH wr ⟨G,q,none⟩ _) (fun q e=>by have h7:G=q:=Oj e;have:=c7.out;omega)⟩;rw[<-HS.out];exact HA.out.int_set q (by rw[pQ yo];exact hq) (-1)
 have d7:q=n:=by have:=HG.out;omega
 have HF:Hid (iR n q=rB n (l.take 0)):=Kh (by rw[d7,List.take_zero,dV];simp[iR]);rw[HF.out]at HA;clear d7 h0 h4 HG;obtain⟨w5,rfl⟩:=Nm (wr:World);go_wp2
 go_loopg [9,10,41] l.length (fun gh a8 a9 i wr=>∃q:Nat,gh+q=l.length/\i=.int .i64 q/\Arr wr G 3 (ints (rB n (l.take q)))/\w3.grownBy wr none)
 case atStart=>exact⟨0,rfl,rfl,HA.out,a3.out⟩
 clear HA a3 HF;obtain⟨q,hg,rfl,h0,h4⟩:=hrel;obtain⟨HG,HA,a3⟩:=Kc hg h0 h4;clear hg;by_cases hq:q<l.length
 ·have f7:(q:Int)<l.length:=yo
  have cl:=((j4.out.kept b5.out yq).kept h4 yq).nat q hq;have b7:l.getD q 0<n:=a4.out.lt _ (by rw[zQ hq];exact List.getElem_mem _);have a5:l.take (q+1)=l.take q++[l.getD q 0]:=yH hq
  have h9:l.getD q 0 ∉ l.take q:=by
   have h1:=a4.out.nd;have h2:(l.take (q+1)).Nodup:=h1.sublist (List.take_sublist _ _);rw[a5,List.nodup_append]at h2;exact fun hm=>h2.2.2 _ hm _ yq rfl
  obtain⟨s,hs⟩:=Nm (l.getD q 0);rw[<-hs]at cl b7 a5 h9;have f6:(s:Int)<n:=yo;have cgk:=h0.int s (by rw[uO];exact b7);have fgk:=h0.frozen s
  have HS:Hid ((rB n (l.take q)).set s (q:Int)=rB n (l.take (q+1))):=Kh (by
   have:=dU (n:=n) h9;rw[List.length_take,Nat.min_eq_left yo]at this
   rw[this,a5])
  clear h0 h4 a5 h9 hs;go_wp2;go_roundg (l.length-(q+1))
  case measure=>have:=HG.out;omega
  refine⟨q+1,yo,by go_num,?_,zE a3.out (zH wr ⟨G,s,none⟩ _) (fun q e=>by have h7:G=q:=Oj e;have:=c7.out;omega)⟩;rw[<-HS.out];exact HA.out.int_set s (by rw[uO];exact b7) (q:Int)
 have d8:q=l.length:=by have:=HG.out;omega
 have d9:l.take q=l:=by rw[d8];exact List.take_length
 rw[d9]at HA h0;have i1:=Kh h0;have h8:=Kh h4;clear d8 d9 h0 HA HG h4;obtain⟨e0,e1,e2,e3⟩:=zM (zD j0.out h8.out);have H2:=zD (zD (zD c9.out c8.out) b5.out) h8.out;obtain⟨q0,q1,q2,q3⟩:=zM H2;have f0:=zB H2 0;have f1:=zB H2 1;have f2:=zB H2 2;have f3:=zB H2 3;have f4:=Kh H2;clear H2;go_wp2;obtain⟨e6,b3⟩:=vS f4.out (.int .i64 (k:Int)) (.int .i64 0) (.slice sf FL cf) (.slice sn NL cn);obtain⟨wz,d5⟩:=Nm ((((wr.setCell ⟨Q,0,none⟩ (.int .i64 (k:Int))).setCell ⟨Q,1,none⟩ (.int .i64 0)).setCell ⟨Q,2,none⟩ (.slice sf FL cf)).setCell ⟨Q,3,none⟩ (.slice sn NL cn));rw[<-d5]at e6 b3⊢;clear d5;obtain⟨r0,r1,r2,r3⟩:=zM e6;clear e0 e1 e2 e3 q0 q1 q2 q3 f0 f1 f2 f3;refine bodyPost_ret (v:=.tuple #[.agg #[.int .i64 (k:Int),.int .i64 0,.slice sf FL cf,.slice sn NL cn],.slice (some ⟨G,0,none⟩) n n]) (by simp[results,Tryz.results93,go_sem,r0,r1,r2,r3]) rfl ?_;have g2:w.grownBy wz none:=zE (zE (zE (zE (zE i6.out i7.out) c8.out) b5.out) h8.out) b3 (fun k e=>by have h7:Q=k:=Oj e;omega);have g3:=((i9.out.grow b5.out).grow h8.out).far b3 f4.out yo;have e4:wX d k=m:=HM.out.symm;refine⟨_,G,rfl,⟨o,hs,sf,cf,sn,cn,?_,yo,by rw[e4];exact g3⟩,by have:=c7.out;omega,?_,g2⟩
 ·rw[e4,i4.out,i5.out,i8.out,i3.out]
 rw[<-HL.out];exact i1.out.kept b3 (fun e=>by have h7:Q=G:=Oj e;omega)
end Go.Proofs.YtiknckajkdlppaaGreat
namespace Go.Proofs.YtiknckajkdlppaaGreat
variable{q q':Nat}{w l l':List Nat}
def acc (d:DfaV)(q:Nat)(w:List Nat):Bool:=d.final.getD (run d q w) false
theorem qOI {a b:Bool}(h:finB a=finB b):a=b:=by cases a<;>cases b<;>simp[finB]at h<;>rfl
section
variable {d:DfaV} {n k:Nat}
theorem fW (hd:VD d n k)(hq:q<n)(a9:q'<n):(jH d).getD q 0=(jH d).getD q' 0↔d.final.getD q false=d.final.getD q' false:=by
 have hn:=hd.hn;rw[jH,oX (by rw[List.length_map];omega) (by rw[List.length_map];omega),List.getElem_map,List.getElem_map,<-zQ (d:=false),<-zQ (d:=false)];exact⟨qOI,fun h=>by rw[h]⟩
theorem eQ (hd:VD d n k):∀m {q q':Nat},q<n->q'<n->(xJ d k m).getD q 0=(xJ d k m).getD q' 0->d.final.getD q false=d.final.getD q' false
 | 0,q,q',hq,hq',h=>(fW hd hq hq').1 h
 | m+1,q,q',hq,hq',h=>eQ hd m hq hq' ((pE hd (by rw[xQ,hd.hn]) (by rw[<-hd.hn];exact qFP d k m) hq hq' k (Nat.le_refl _)).1 h).1
theorem eP (hd:VD d n k):∀m {q q':Nat},q<n->q'<n->(xJ d k m).getD q 0≠(xJ d k m).getD q' 0->∃w,qY k w/\acc d q w≠acc d q' w
 | 0,q,q',hq,hq',h=>⟨[],fun a ha=>by simp at ha,fun e=>h ((fW hd hq hq').2 e)⟩
 | m+1,q,q',hq,hq',h=>by
  by_cases h1:(xJ d k m).getD q 0=(xJ d k m).getD q' 0
  ·have hx:¬∀a,a<k->(xJ d k m).getD (nx d q a) 0=(xJ d k m).getD (nx d q' a) 0:=fun ha=>h ((pE hd (by rw[xQ,hd.hn]) (by rw[<-hd.hn];exact qFP d k m) hq hq' k (Nat.le_refl _)).2 ⟨h1,ha⟩)
   obtain⟨a,ha⟩:=Classical.not_forall.1 hx
   obtain⟨ha,hne⟩:=Classical.not_imp.1 ha
   obtain⟨w,hw,e⟩:=eP hd m (mF hd hq ha) (mF hd hq' ha) hne
   exact⟨a::w,fun b hb=>by
    rcases List.mem_cons.1 hb with rfl|hb
    ·exact ha
    ·exact hw b hb,e⟩
  ·exact eP hd m hq hq' h1
theorem qEY (d:DfaV)(p:List Nat):st0 (sV d p)=p.getD (st0 d) 0:=by simp[st0,sV]
theorem gY (hd:VD d n k)(hq:q<n)(hw:qY k w):acc (sV d (xU d k)) ((xU d k).getD q 0) w=acc d q w:=by
 have hl:(xU d k).length=n:=by rw[uI,hd.hn]
 have hN:=rO d k;have hr:=qIZ hd w hq hw;unfold acc;rw[qEZ hd hl hN (qCE hd) w hq hw];have hc:=pF hN (show run d q w<(xU d k).length by omega);have hg:=oU hN hc;show ((reps (xU d k)).map fun q=>d.final.getD q false).getD _ false=_;rw[xY (x:=0) (by rw[pD hN];exact hc)];exact eQ hd _ yo hr hg.1
theorem qFA (hd:VD d n k){c c':Nat}(hc:c<cls (xU d k))(a9:c'<cls (xU d k))(h:∀w,qY k w->acc (sV d (xU d k)) c w=acc (sV d (xU d k)) c' w):c=c':=by
 have hl:(xU d k).length=n:=by rw[uI,hd.hn]
 have hN:=rO d k;obtain⟨h1,h2⟩:=oU hN hc;obtain⟨h3,h4⟩:=oU hN a9;rw[hl]at h2 h4;rcases Decidable.em (c=c') with e|e
 ·exact e
 exfalso;obtain⟨w,hw,h0⟩:=eP hd d.final.length h2 h4 (by rw[show xJ d k d.final.length=xU d k from rfl,h1,h3];exact e);have a1:=gY hd h2 hw;have a2:=gY hd h4 hw;rw[h1]at a1;rw[h3]at a2;exact h0 (a1.symm.trans ((h w hw).trans a2))
theorem qMM (hd:VD d n k)(hw:qY k w):acc (wX d k) 0 w=acc d (st0 d) w:=by
 have hA:=(wV hd).1;have hr:=qIZ (kH hd) w (kH hd).n1 hw;unfold acc;rw[iH hd hr,qER hd w hA.hd.1 hw,hA.hd.2]
end
inductive Side (R:Nat->Nat->Prop):List Nat->List Nat->Prop
 | nil:Side R [] []
 | snoc {l l':List Nat} {q q':Nat}:Side R l l'->R q q'->Side R (l++[q]) (l'++[q'])
theorem Side.len {R:Nat->Nat->Prop}(h:Side R l l'):l.length=l'.length:=by
 induction h with
 | nil=>rfl
 | snoc _ _ ih=>simp[ih]
theorem Side.get {R:Nat->Nat->Prop}(h:Side R l l'):∀i,i<l.length->R (l.getD i 0) (l'.getD i 0):=by
 induction h with
 | nil=>intro i hi;simp at hi
 | @snoc l l' q q' hs hr ih =>
  intro i hi;have hl:=hs.len;simp at hi;by_cases e:i<l.length
  ·rw[pG (List.prefix_append _ _) e,pG (List.prefix_append _ _) yo];exact ih i e
  have e1:i=l.length:=yo
  subst e1;have a1:(l++[q]).getD l.length 0=q:=by simp[List.getD]
  have a2:(l'++[q']).getD l.length 0=q':=by rw[hl];simp[List.getD]
  rw[a1,a2];exact hr
structure One (R:Nat->Nat->Prop):Prop where
 l:∀ {q q' r'},R q q'->R q r'->q'=r'
 r:∀ {q r q'},R q q'->R r q'->q=r
theorem Side.mem {R:Nat->Nat->Prop}(hR:One R)(h:Side R l l')(hq:R q q'):q∈l↔q'∈l':=by
 have hl:=h.len;constructor
 ·intro hm
  obtain⟨i,hi,rfl⟩:=List.getElem_of_mem hm;have:=h.get i hi;rw[zQ hi]at this;rw[hR.l hq this,zQ yo];exact List.getElem_mem _
 intro hm;obtain⟨i,hi,rfl⟩:=List.getElem_of_mem hm;have:=h.get i yo;rw[zQ hi,zQ (show i<l.length by omega)]at this;rw[hR.r hq this];exact List.getElem_mem _
theorem Side.add {R:Nat->Nat->Prop}(hR:One R)(h:Side R l l')(hq:R q q'):Side R (wU l q) (wU l' q'):=by
 unfold wU;by_cases e:q∈l
 ·rw[if_pos e,if_pos ((h.mem hR hq).1 e)];exact h
 rw[if_neg e,if_neg (fun e'=>e ((h.mem hR hq).2 e'))];exact .snoc h hq
theorem Side.idx {R:Nat->Nat->Prop}(hR:One R)(h:Side R l l')(hn:l.Nodup)(a9:l'.Nodup)(hq:R q q')(hm:q∈l):l.idxOf q=l'.idxOf q':=by
 have hi:=List.idxOf_lt_length_of_mem hm;have hl:=h.len;have:=h.get _ hi;rw[zQ hi,List.getElem_idxOf,zQ (show l.idxOf q<l'.length by omega)]at this;have e:=hR.l hq this;have h0:=(h.mem hR hq).1 hm;have h1:=List.idxOf_lt_length_of_mem h0;have e2:l'[l'.idxOf q']=l'[l.idxOf q]'(yo):=by rw[List.getElem_idxOf];exact e
 exact((List.getElem_inj a9).1 e2).symm
section
variable {x x':DfaV} {n n' k:Nat} {R:Nat->Nat->Prop}
theorem qET (hR:One R)(hs:∀ {q q' a},R q q'->a<k->R (nx x q a) (nx x' q' a)){l l':List Nat}(h:Side R l l'){i:Nat}(hi:i<l.length):∀a,a<=k->Side R (uJ x l i a) (uJ x' l' i a)
 | 0,_=>h
 | a+1,ha=>(qET hR hs h hi a yo).add hR (hs (h.get i hi) yo)
theorem qIX (hR:One R)(hs:∀ {q q' a},R q q'->a<k->R (nx x q a) (nx x' q' a)):∀f i {l l':List Nat},Side R l l'->Side R (qL x k f i l) (qL x' k f i l')
 | 0,_,_,_,h=>h
 | f+1,i,l,l',h=>by
  rw[qL,qL,h.len]
  by_cases e:i<l'.length
  ·rw[if_pos e,if_pos e]
   exact qIX hR hs f (i+1) (qET hR hs h (by rw[h.len];exact e) k (Nat.le_refl _))
  ·rw[if_neg e,if_neg e];exact h
end
theorem bE {d:DfaV}{n k:Nat}(hd:VD d n k):∀f i l m,AccI d n k i l->n<=i+f->qL d k (f+m) i l=qL d k f i l
 | 0,i,l,m,h,hf=>by
  have hl:=qN h.nd h.lt
  rw[eU (f:=0+m) yo,qL]
 | f+1,i,l,m,h,hf=>by
  rw[show f+1+m=(f+m)+1 by omega,qL,qL]
  by_cases e:i<l.length
  ·rw[if_pos e,if_pos e]
   exact bE hd f (i+1) _ m (h.row hd e) yo
  ·rw[if_neg e,if_neg e]
theorem eS {d:DfaV}{n k:Nat}(hd:VD d n k)(m:Nat):qL d k (n+m) 0 [st0 d]=yN d k:=by
 rw[yN,hd.hn];exact bE hd n 0 _ m (AccI.start hd) yo
theorem qFZ {x x':DfaV}{n n' k:Nat}(hx:VD x n k)(a9:VD x' n' k)(hr:∀ {c c'},c<n->c'<n->(∀w,qY k w->acc x c w=acc x c' w)->c=c')(a8:∀ {c c'},c<n'->c'<n'->(∀w,qY k w->acc x' c w=acc x' c' w)->c=c')(hl:∀w,qY k w->acc x (st0 x) w=acc x' (st0 x') w):wX x k=wX x' k:=by
 obtain⟨R,h8⟩:∃R:Nat->Nat->Prop,∀q q',R q q'↔q<n/\q'<n'/\∀w,qY k w->acc x q w=acc x' q' w:=⟨fun q q'=>q<n/\q'<n'/\∀w,qY k w->acc x q w=acc x' q' w,fun _ _=>Iff.rfl⟩
 have hR:One R:=by
  refine⟨fun {q q' r'} h1 h2=>?_,fun {q r q'} h1 h2=>?_⟩
  ·obtain⟨_,h3,h4⟩:=(h8 _ _).1 h1
   obtain⟨_,h5,h6⟩:=(h8 _ _).1 h2;exact a8 h3 h5 (fun w hw=>(h4 w hw).symm.trans (h6 w hw))
  obtain⟨h3,_,h4⟩:=(h8 _ _).1 h1;obtain⟨h5,_,h6⟩:=(h8 _ _).1 h2;exact hr h3 h5 (fun w hw=>(h4 w hw).trans (h6 w hw).symm)
 have hs:∀ {q q' a},R q q'->a<k->R (nx x q a) (nx x' q' a):=fun {q q' a} h ha=>by
  obtain⟨h1,h2,h3⟩:=(h8 _ _).1 h
  exact(h8 _ _).2 ⟨mF hx h1 ha,mF a9 h2 ha,fun w hw=>h3 (a::w) (fun b hb=>by
   rcases List.mem_cons.1 hb with rfl|hb
   ·exact ha
   exact hw b hb)⟩
 have h0:R (st0 x) (st0 x'):=(h8 _ _).2 ⟨jB hx,jB a9,hl⟩
 have h7:Side R (yN x k) (yN x' k):=by
  have:=qIX (x:=x) (x':=x') (k:=k) hR hs (n+n') 0 (Side.snoc .nil h0);rw[List.nil_append,List.nil_append,eS hx n']at this;rw[Nat.add_comm n n',eS a9 n]at this;exact this
 have hA:=(wV hx).1;have H2:=(wV a9).1;have h9:=h7.len;have hm:∀i,i<(yN x k).length->(yN x k).getD i 0∈yN x k:=fun i hi=>by rw[zQ hi];exact List.getElem_mem _
 have key:∀i,i<(yN x k).length->(wX x k).final.getD i false=(wX x' k).final.getD i false:=fun i hi=>by
  rw[iH hx hi,iH a9 yo];obtain⟨_,_,h⟩:=(h8 _ _).1 (h7.get i hi);exact h [] (fun a ha=>by simp at ha)
 have hv:=kH hx;have H0:=kH a9;have e1:(wX x k).letters=(wX x' k).letters:=hx.hk.trans a9.hk.symm
 have e3:(wX x k).final=(wX x' k).final:=by
  refine List.ext_getElem (by rw[hv.hn,H0.hn,h9]) fun i h1 h2=>?_;have:=key i (by rw[hv.hn]at h1;exact h1);rw[zQ h1,zQ h2]at this;exact this
 have e4:(wX x k).next=(wX x' k).next:=by
  refine List.ext_getElem (by rw[hv.nl,H0.nl,h9]) fun i h1 h2=>?_;have hi:i<(yN x k).length:=by rw[hv.nl]at h1;exact h1
  have r1:=hv.row i hi;have r2:=H0.row i yo;rw[zQ h1]at r1;rw[zQ h2]at r2;refine List.ext_getElem (by rw[r1,r2]) fun a h3 h4=>?_;have ha:a<k:=yo
  have t1:=kY hx hi ha;have t2:=kY a9 (show i<(yN x' k).length by omega) ha;have hq:=h7.get i hi;have H3:=(wV hx).2;have H1:=hA.cl i a yo hi ha;rw[h7.idx hR hA.nd H2.nd (hs hq ha) H1,<-t2]at t1;unfold ent at t1;rw[zQ h1,zQ h2,zQ h3,zQ h4]at t1;exact t1
 show (⟨_,0,(wX x k).final,(wX x k).next⟩:DfaV)=⟨_,0,(wX x' k).final,(wX x' k).next⟩;rw[e3,e4];exact congrArg (fun z=>(⟨z,0,(wX x' k).final,(wX x' k).next⟩:DfaV)) e1
theorem qKF {d d':DfaV}{n n' k:Nat}(hd:VD d n k)(a9:VD d' n' k)(h:∀w,qY k w->acc d (st0 d) w=acc d' (st0 d') w):minD d k=minD d' k:=by
 refine qFZ (gZ hd) (gZ a9) (fun h1 h2=>qFA hd h1 h2) (fun h1 h2=>qFA a9 h1 h2) fun w hw=>?_;rw[qEY,qEY,gY hd (jB hd) hw,gY a9 (jB a9) hw];exact h w hw
theorem qNR {d:DfaV}{n k:Nat}(hd:VD d n k):minD (wX d k) k=minD d k:=qKF (kH hd) hd (fun w hw=>by rw[show st0 (wX d k)=0 from rfl];exact qMM hd hw)
end Go.Proofs.YtiknckajkdlppaaGreat
