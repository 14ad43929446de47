/- Part 4 of the proof. -/
import Derived.Test.YtcoimliafiammaaGreatQa3
import Derived.WalkSpells
import Derived.Deep.RegionLaw
import Derived.Deep.DeepCutAuto
import Derived.Deep.CutBlock
set_option linter.unusedVariables false
set_option linter.unusedSimpArgs false
set_option maxRecDepth 100000
set_option maxHeartbeats 16000000
namespace Go.Proofs.YtcoimliafiammaaGreat
open Go.RowKit
def RowX (X:Nat->Prop)(e:TypeId)(w:World)(v:Value)(xs:List Value):Prop:=RowT w.heap.size e w v xs/\∀k,v.ownBlock=some k->X k
def uH (X:Nat->Prop)(w w':World):Prop:=∀k,X k->w'.heap[k]?=w.heap[k]?
theorem uH.trans {X:Nat->Prop}{a b c:World}(h:uH X a b)(h':uH X b c):uH X a c:=fun k hk=>(h' k hk).trans (h k hk)
theorem uH.refl (X:Nat->Prop)(w:World):uH X w w:=fun _ _=>rfl
theorem uH.cell {X:Nat->Prop}{w w':World}(h:uH X w w'){b i:Nat}(hb:X b){u:Value}(hc:w.cell? ⟨b,i,none⟩=some u):w'.cell? ⟨b,i,none⟩=some u:=(World.cell?_of_block (h b hb)).trans hc
theorem RowX.kept {X:Nat->Prop}{e:TypeId}{w w':World}{v:Value}{xs:List Value}(h:RowX X e w v xs)(hk:uH X w w')(hs:w.heap.size<=w'.heap.size):RowX X e w' v xs:=by
 refine⟨?_,h.2⟩;rcases h.1 with h1|⟨b,off,cap,cur,m,h1,h2,h3,h4,h5,h6⟩
 ·exact .inl h1
 exact .inr ⟨b,off,cap,cur,m,h1,by omega,h3,h4,(hk b (h.2 b (by rw[h1];rfl))).trans h5,h6⟩
theorem RowX.mono {X X':Nat->Prop}{e:TypeId}{w:World}{v:Value}{xs:List Value}(h:RowX X e w v xs)(hX:∀k,X k->X' k):RowX X' e w v xs:=⟨h.1,fun k hk=>hX k (h.2 k hk)⟩
theorem RowX.row {X:Nat->Prop}{e:TypeId}{w:World}{v:Value}{xs:List Value}(h:RowX X e w v xs):Row w.heap.size w v xs:=h.1.row
theorem RowX.of_owns {X:Nat->Prop}{w:World}{base e n:Nat}{v:Value}{xs:List Value}(h:w.ownsRow base e 1 v n xs)(hX:∀k,v.ownBlock=some k->X k):RowX X e w v xs:=⟨RowT.of_owns h,hX⟩
def uX {α:Type}(X:Nat->Prop)(e:TypeId)(f:α->List Value)(w:World)(hs:List Value)(ts:List α):Prop :=
 hs.length=ts.length/\∀i (h:i<hs.length) (h':i<ts.length),RowX X e w hs[i] (f ts[i])
section
variable {α:Type} {X X':Nat->Prop} {e:TypeId} {f:α->List Value} {w w':World} {hs:List Value} {ts:List α}
theorem uX.nil:uX X e f w [] []:=⟨rfl,fun i h=>by simp at h⟩
theorem uX.kept (h:uX X e f w hs ts)(hk:uH X w w')(a9:w.heap.size<=w'.heap.size):uX X e f w' hs ts:=⟨h.1,fun i h1 h2=>(h.2 i h1 h2).kept hk a9⟩
theorem uX.mono (h:uX X e f w hs ts)(hX:∀k,X k->X' k):uX X' e f w hs ts:=⟨h.1,fun i h1 h2=>(h.2 i h1 h2).mono hX⟩
theorem uX.snoc {v:Value}{t:α}(h:uX X e f w hs ts)(hv:RowX X e w v (f t)):uX X e f w (hs++[v]) (ts++[t]):=by
 refine⟨by simp[h.1],fun i h1 h2=>?_⟩;by_cases hi:i<hs.length
 ·rw[List.getElem_append_left hi]
  simp only[List.getElem_append_left (show i<ts.length by rw[<-h.1];exact hi)];exact h.2 i hi _
 have:i=hs.length:=by simp at h1;omega
 subst this;rw[List.getElem_append_right (Nat.le_refl _)];simp only[List.getElem_append_right (show ts.length<=hs.length by rw[h.1];exact Nat.le_refl _)];simpa [h.1] using hv
end
structure EMem (X:Nat->Prop)(W:World)(rs:List RowS):Prop where
 own:∀r∈rs,W.ownsRow r.base r.e r.sz r.v r.n r.xs
 apart:rs.Pairwise (fun r s=>∀k,r.v.ownBlock=some k->s.v.ownBlock≠some k)
 offX:∀r∈rs,∀k,r.v.ownBlock=some k->¬X k
 lt:∀k,X k->k<W.heap.size
def qEG (rs:List RowS)(k:Nat):Prop:=∃r∈rs,r.v.ownBlock=some k
section
variable {X:Nat->Prop} {W W':World} {rs rs':List RowS}
theorem EMem.many (h:EMem X W rs)(F:Nat->Prop)(hF:∀k,qEG rs k->F k):Many W F W rs [] []:=Many.start h.own (fun r hr k hk=>hF k ⟨r,hr,hk⟩) h.apart
theorem EMem.grow (h:EMem X W rs)(hg:W.grownBy W' none):EMem X W' rs:=⟨fun r hr=>zP (h.own r hr) hg,h.apart,h.offX,fun k hk=>Nat.lt_of_lt_of_le (h.lt k hk) hg.size⟩
theorem uH.of_grown {row:Option Nat}(a9:∀k,X k->k<W.heap.size)(hg:W.grownBy W' row)(hr:∀k,row=some k->¬X k):uH X W W':=fun k hk=>hg.block k (a9 k hk) (fun e=>hr k e.symm hk)
theorem EMem.keep (h:EMem X W rs)(hg:W.grownBy W' none):uH X W W':=uH.of_grown h.lt hg (by simp)
theorem EMem.after {F:Nat->Prop}{ls:List (Nat×Obj)}(h:EMem X W rs)(hM:Many W F W' rs' ls [])(hF:∀k,F k->¬X k):EMem X W' rs' where
 own:=fun r hr=>by
  obtain⟨i,hi,e⟩:=List.getElem_of_mem hr
  exact hM.own i r (by rw[List.getElem?_eq_getElem hi,e])
 apart:=by
  rw[List.pairwise_iff_getElem];intro i j hi hj h0;exact hM.apart i j _ _ (by omega) (List.getElem?_eq_getElem hi) (List.getElem?_eq_getElem hj)
 offX:=fun r hr k hk hx=>by
  obtain⟨i,hi,e⟩:=List.getElem_of_mem hr;rcases hM.mine i r (by rw[List.getElem?_eq_getElem hi,e]) k hk with hf|hf
  ·exact hF k hf hx
  ·have:=h.lt k hx;omega
 lt:=fun k hk=>Nat.lt_of_lt_of_le (h.lt k hk) hM.but.size
theorem EMem.keepMany {F:Nat->Prop}{ls:List (Nat×Obj)}(h:EMem X W rs)(hM:Many W F W' rs' ls [])(hF:∀k,F k->¬X k):uH X W W':=fun k hk=>hM.but.block k (h.lt k hk) (fun hf=>hF k hf hk)
theorem EMem.far (h:EMem X W rs){o:Nat}(hg:W.grownBy W' (some o))(hr:∀r∈rs,r.v.ownBlock≠some o):EMem X W' rs where
 own:=fun r hr'=>(h.own r hr').kept hg (.inr (hr r hr'))
 apart:=h.apart
 offX:=h.offX
 lt:=fun k hk=>Nat.lt_of_lt_of_le (h.lt k hk) hg.size
theorem EMem.retire {r:RowS}(h:EMem X W (rs++[r])):EMem (fun k=>X k\/r.v.ownBlock=some k) W rs where
 own:=fun s hs=>h.own s (List.mem_append_left _ hs)
 apart:=(List.pairwise_append.1 h.apart).1
 offX:=fun s hs k hk hx=>by
  rcases hx with hx|hx
  ·exact h.offX s (List.mem_append_left _ hs) k hk hx
  ·exact(List.pairwise_append.1 h.apart).2.2 s hs r (by simp) k hk hx
 lt:=fun k hx=>by
  rcases hx with hx|hx
  ·exact h.lt k hx
  ·exact((h.own r (by simp)).lt k hx).2
theorem EMem.fresh (h:EMem X W rs)(hg:W.grownBy W' none){Y:Nat->Prop}(hY:∀k,Y k->W.heap.size<=k/\k<W'.heap.size):EMem (fun k=>X k\/Y k) W' rs where
 own:=fun r hr=>zP (h.own r hr) hg
 apart:=h.apart
 offX:=fun r hr k hk hx=>by
  rcases hx with hx|hx
  ·exact h.offX r hr k hk hx
  ·have:=((h.own r hr).lt k hk).2
   have:=(hY k hx).1
   omega
 lt:=fun k hx=>by
  rcases hx with hx|hx
  ·exact Nat.lt_of_lt_of_le (h.lt k hx) hg.size
  ·exact(hY k hx).2
theorem EMem.add (h:EMem X W rs)(hg:W.grownBy W' none){r:RowS}(ho:W'.ownsRow r.base r.e r.sz r.v r.n r.xs)(hn:∀k,r.v.ownBlock=some k->W.heap.size<=k):EMem X W' (rs++[r]) where
 own:=fun s hs=>by
  rcases List.mem_append.1 hs with hs|hs
  ·exact zP (h.own s hs) hg
  ·rw[List.mem_singleton]at hs;subst hs;exact ho
 apart:=by
  rw[List.pairwise_append];refine⟨h.apart,by simp,fun s hs t ht k hk e=>?_⟩;rw[List.mem_singleton]at ht;subst ht;have:=((h.own s hs).lt k hk).2;have:=hn k e;omega
 offX:=fun s hs k hk hx=>by
  rcases List.mem_append.1 hs with hs|hs
  ·exact h.offX s hs k hk hx
  ·rw[List.mem_singleton]at hs;subst hs
   have:=h.lt k hx;have:=hn k hk;omega
 lt:=fun k hk=>Nat.lt_of_lt_of_le (h.lt k hk) hg.size
theorem EMem.nil (w:World):EMem (fun _=>False) w []:=⟨fun r hr=>by simp at hr,List.Pairwise.nil,fun r hr=>by simp at hr,fun k hk=>hk.elim⟩
end
theorem uX.rowsT {α:Type}{X:Nat->Prop}{e:TypeId}{f:α->List Value}{w:World}{hs:List Value}{ts:List α}(h:uX X e f w hs ts):wO w.heap.size e f w hs ts:=⟨h.1,fun i h3 h4=>(h.2 i h3 h4).1⟩
theorem EMem.appAt {X:Nat->Prop}{W W':World}{rs:List RowS}(h:EMem X W rs){j:Nat}{r:RowS}(hr:rs[j]?=some r){v':Value}{n':Nat}{us:List Value}(ho:W'.ownsRow r.base r.e r.sz v' n' (r.xs++us))(hg:W.grownBy W' r.v.ownBlock)(hm:pG W W' r.v v'):EMem X W' (rs.set j ⟨r.base,r.e,v',n',r.xs++us,r.sz⟩) :=
 h.after ((h.many (qEG rs) (fun _ h=>h)).append hr ho hg hm) (fun k hk=>by obtain⟨r,hr,hk⟩:=hk;exact h.offX r hr k hk)
theorem EMem.dropLast {X:Nat->Prop}{W:World}{rs:List RowS}{r:RowS}(h:EMem X W (rs++[r])):EMem X W rs:=⟨fun s hs=>h.own s (List.mem_append_left _ hs),(List.pairwise_append.1 h.apart).1,fun s hs=>h.offX s (List.mem_append_left _ hs),h.lt⟩
theorem Arr.rowT' {w:World}{g cap:Nat}{e:TypeId}{xs:List Value}(h:Arr w g e xs)(hc:xs.length<=cap)(hm:cap<=maxLen):RowT w.heap.size e w (.slice (some ⟨g,0,none⟩) xs.length cap) xs:=by
 have h1:=h.lt;obtain⟨cur,rest,hg,h0⟩:=h;refine .inr ⟨g,0,cap,cur,(0,0),rfl,h1,hc,hm,hg,fun i hi=>?_⟩;rw[Nat.zero_add,<-Array.getElem?_toList,h0,List.getElem?_append_left hi,List.getElem?_eq_getElem hi]
open Go.Maps
def zl (l:List Nat):List Int:=l.map fun(x:Nat)=>(x:Int)
theorem qCT {l : List Nat}{x : Nat}: ((x : Nat) : Int) ∈ zl l ↔ x ∈ l := by
  simp only [zl, List.mem_map]
  exact ⟨fun ⟨y, hy, e⟩ => by have : y = x := by omega
                              exact this ▸ hy, fun h => ⟨x, h, rfl⟩⟩
theorem xAZ {l:List Nat}{x:Nat}(h:x∈l):(zl l).idxOf ((x:Nat):Int)=l.idxOf x:=qBY (fun(x:Nat)=>(x:Int)) l x h (fun y _ e=>by omega)
theorem qYG (l:List Nat):(zl l).length=l.length:=by simp[zl]
theorem qYZ (l:List Nat)(x:Nat):zl (l++[x])=zl l++[(x:Int)]:=by simp[zl]
def NF (o:Nat)(sa:Option Addr)(mv:Option Nat)(k:Nat):Prop:=k=o\/(Value.slice sa 0 0).ownBlock=some k\/mv=some k
structure NumSt (base:Nat)(W:World)(o:Nat)(sa:Option Addr)(sc:Nat)(mv:Option Nat)(l:List Nat):Prop where
 box:W.heap[o]?=some (.cells #[.slice sa l.length sc,.map mv] 170 (0,0))
 own:W.ownsRow base 3 1 (.slice sa l.length sc) l.length (nats l)
 map:(mv=none/\l=[])\/∃mb,mv=some mb/\base<=mb/\mb≠o/\(Value.slice sa 0 0).ownBlock≠some mb/\mb<W.heap.size/\qH W mb l.length (zl l)
 lo:base<=o
theorem NumSt.ge {base:Nat}{W:World}{o:Nat}{sa:Option Addr}{sc:Nat}{mv:Option Nat}{l:List Nat}(h:NumSt base W o sa sc mv l):∀k,NF o sa mv k->base<=k/\k<W.heap.size:=by
 rintro k (rfl|hk|hk)
 ·exact⟨h.lo,zM h.box⟩
 ·rw[<-zR sa l.length sc]at hk;exact h.own.lt k hk
 rcases h.map with ⟨e,_⟩|⟨mb,e,h1,_,_,h2,_⟩
 ·rw[e]at hk;cases hk
 rw[e]at hk;have:=Oj hk;subst this;exact⟨h1,h2⟩
theorem NumSt.kept {base:Nat}{W W':World}{o:Nat}{sa:Option Addr}{sc:Nat}{mv:Option Nat}{l:List Nat}{row:Option Nat}(h:NumSt base W o sa sc mv l)(hg:W.grownBy W' row)(hr:∀k,row=some k->¬NF o sa mv k):NumSt base W' o sa sc mv l where
 box:=zB h.box hg (fun e=>hr o e (.inl rfl))
 own:=h.own.kept hg (by
  rcases hv:(Value.slice sa l.length sc).ownBlock with _|k
  ·exact .inl rfl
  ·exact .inr fun e=>hr k e.symm (.inr (.inl (by rw[zR]at hv;exact hv))))
 map:=by
  rcases h.map with h|⟨mb,e,h1,h2,h3,h4,h5⟩
  ·exact .inl h
  ·exact .inr ⟨mb,e,h1,h2,h3,Nat.lt_of_lt_of_le h4 hg.size,h5.kept hg (fun e2=>hr mb e2 (.inr (.inr e)))⟩
 lo:=h.lo
def qTT (base:Nat)(W:World)(o:Nat)(sa:Option Addr)(mv:Option Nat)(l:List Nat)(x:Nat)(e:Ending)(W':World):Prop :=
 ∃sa' sc' mv',e=.returned (.int .i64 (((xV l x).idxOf x:Nat):Int))/\NumSt base W' o sa' sc' mv' (xV l x)/\GrownBut W W' (NF o sa mv)/\∀k,NF o sa' mv' k->NF o sa mv k\/W.heap.size<=k
theorem bT {l:List Nat}{x:Nat}(h:x ∉ l):(xV l x).idxOf x=l.length:=by
 rw[vK h,List.idxOf_append,if_neg h];simp
theorem uD {w:World}{p e:Nat}{x0 x1:Value}(h:w.heap[p]?=some (.cells #[x0,x1] e (0,0))):w.cell? ⟨p,0,none⟩=some x0/\w.cell? ⟨p,1,none⟩=some x1:=by
 have c0:=zJ h 0;have c1:=zJ h 1;exact⟨by simpa using c0,by simpa using c1⟩
theorem qEL {base:Nat}{W w2 w3:World}{o mb:Nat}{sa a9:Option Addr}{sc a8:Nat}{mv:Option Nat}{l:List Nat}{x:Nat}(h0:base<=o)(hx:x ∉ l)(b9:w2.heap[o]?=some (.cells #[.slice sa l.length sc,.map (some mb)] 170 (0,0)))(a1:mb≠o)(a5:base<=mb)(a4:(Value.slice sa 0 0).ownBlock≠some mb)(a2:qH w2 mb (l.length+1) (zl l++[(x:Int)]))(a0:(Value.slice sa 0 0).ownBlock≠some o)(a7:w3.ownsRow base 3 1 (.slice a9 (l.length+1) a8) (l.length+1) (nats l++[.int .i64 (x:Int)]))(hg:w2.grownBy w3 (Value.slice sa l.length sc).ownBlock)(a3:pG w2 w3 (.slice sa l.length sc) (.slice a9 (l.length+1) a8))(hW:GrownBut W w2 (NF o sa mv))(a6:mv=some mb\/W.heap.size<=mb):qTT base W o sa mv l x (.returned (.int .i64 ((l.length:Nat):Int))) (w3.setCell ⟨o,0,none⟩ (.slice a9 (l.length+1) a8)):=by
 have h4:=zB b9 hg (fun e=>a0 (by rw[zR]at e;exact e));have hs:=heap_setCell_same w3 o 0 _ _ (.slice a9 (l.length+1) a8) h4;have h2:=zD w3 ⟨o,0,none⟩ (.slice a9 (l.length+1) a8);have h5:=a2.lt;have hz:=hg.size;have h6:=h2.size;have h1:(xV l x).length=l.length+1:=by rw[vK hx];simp
 have h3:(Value.slice a9 0 0).ownBlock≠some mb:=by
  intro e;rw[<-zR a9 (l.length+1) a8]at e;rcases a3 with h|⟨_,h⟩
  ·rw[h,zR]at e;exact a4 e
  have:=h mb e;omega
 refine⟨a9,a8,some mb,by rw[bT hx],⟨?_,?_,?_,h0⟩,?_,fun k hk=>?_⟩
 ·rw[h1,hs];simp
 ·rw[h1,vK hx,uE]
  exact a7.kept h2 (.inr (zO a7 h4 (by decide)))
 ·refine .inr ⟨mb,rfl,a5,a1,h3,by omega,?_⟩
  rw[h1,vK hx,qYZ];refine(a2.kept hg (fun e=>a4 (by rw[zR]at e;exact e))).kept h2 (fun e=>a1 (Oj e).symm)
 ·refine(hW.step hg fun k hk=>?_).step h2 fun k hk=>?_
  ·rw[zR]at hk;exact .inl (.inr (.inl hk))
  exact .inl (.inl (Oj hk).symm)
 rcases hk with rfl|hk|hk
 ·exact .inl (.inl rfl)
 ·rw[<-zR a9 (l.length+1) a8]at hk
  rcases a3 with h|⟨_,h⟩
  ·rw[h,zR]at hk;exact .inl (.inr (.inl hk))
  exact .inr (Nat.le_trans hW.size (h k hk))
 have:=Oj hk;subst this;rcases a6 with h|h
 ·exact .inl (.inr (.inr h))
 exact .inr h
theorem qEM (base:Nat)(W:World)(o:Nat)(sa:Option Addr)(sc:Nat)(mv:Option Nat)(l:List Nat)(x:Nat)(h:NumSt base W o sa sc mv l)(hb:base<=W.heap.size)(hl:l.length<=1073741824)(hx:x<4611686018427387904):Calls Tryz.prog 111 #[.pointer (some ⟨o,0,none⟩),.int .i64 (x:Int)] W (qTT base W o sa mv l x):=by
 have d3:=@run_makeMap Tryz.prog;have h8:Mid (x:Int):=⟨by omega,by omega⟩;have c8:∀W,(binOp .eql 168 (.map none) (.map none)).run Tryz.prog W=.ok (.bool true) W:=fun W=>run_eql_map_nil W _ _ _ none rE;have c7:∀W mb,(binOp .eql 168 (.map (some mb)) (.map none)).run Tryz.prog W=.ok (.bool false) W:=fun W mb=>run_eql_map_nil W _ _ _ (some mb) rE;obtain⟨c0,c1⟩:=uD h.box;have f0:=zF h.box 0;have f1:=zF h.box 1
 have a7:(Value.slice sa 0 0).ownBlock≠some o:=by
  intro e;rw[<-zR sa l.length sc]at e;exact zO h.own h.box (by decide) e
 obtain⟨H,H3,h3⟩:=K3 h a7 h8;clear a7 h8;rcases h.map with ⟨rfl,rfl⟩|⟨mb,rfl,hmb0,hmb,hsm,hml,hmp⟩
 ·have h9:(Instr.lookup 168 (.map none) (.int .i64 (x:Int)) true).run Tryz.prog W=.ok (.tuple #[.int .i64 0,.bool false]) W:=Maps.look_nil true qBX rE (fP W) (qHP h3.out)
  obtain⟨w1,h7⟩:=Nm (W.setCell ⟨o,1,none⟩ (.map (some W.heap.size)));have H6:=zD W ⟨o,1,none⟩ (.map (some W.heap.size))
  have a8:w1.heap[o]?=some (.cells #[.slice sa ([]:List Nat).length sc,.map (some W.heap.size)] 170 (0,0)):=by
   rw[h7,heap_setCell_same W o 1 _ _ _ h.box];simp
  have a6:w1.heap.size=W.heap.size:=by rw[h7];simp[World.setCell]
  rw[<-h7]at H6;obtain⟨ws,H7⟩:=Nm (w1.alloc (.map #[] 0));have H0:=Ga w1 (.map #[] 0) none;have H4:=Kh (qH.made w1);rw[<-H7]at H0 H4;rw[a6]at H4;have d4:=zM h.box;have a5:=Kh (zB a8 H0);have b7:=Kh H7;have b8:=Kh h7;have c2:Hid (ws.ownsRow base 3 1 (.slice sa ([]:List Nat).length sc) ([]:List Nat).length (nats [])):=Kh (zP (h.own.kept H6 (.inr (by rw[zR];exact H3.out))) H0);have c3:Hid (GrownBut W ws (NF o sa none)):=Kh (((GrownBut.refl W _).step H6 (fun k hk=>.inl (.inl (Oj hk).symm))).step H0 (by simp));clear h a8 h7 H6 H7 H0 a6
  have h6:Hid ((Value.slice sa 0 0).ownBlock≠some W.heap.size):=Kh (fun e=>by
   rw[<-zR sa ([]:List Nat).length sc]at e
   have:=(H.out.own.lt _ e).2;omega)
  have d2:W.heap.size≠o:=by omega
  obtain⟨M,hM⟩:=Nm W.heap.size;have c6:=Kh hM;rw[<-hM]at H4 h6 a5;have a9:M≠o:=by omega
  have b5:base<=M:=by omega
  have b6:W.heap.size<=M:=by omega
  clear hM;go_enter Tryz.func111,Tryz.ntmps111;go_upto_region 5 with fail;rw[<-b8.out,<-b7.out,<-c6.out];clear c0 c1 f0 f1 h9;obtain⟨c0,c1⟩:=uD a5.out;have c9:=H4.out.lt;go_wp2_with (first|(at_mapUpdate;refine iX rfl _ _ _ rfl M 0 [] x rfl rfl rfl H4.out (by unfold maxLen;omega) h3.out (by simp) (by simp) ?_;intro w2 h0 h2;(have H9:=Kh h0);(have a4:=Kh h2);(have h4:=zB a5.out h2 (by simp;exact a9));(have H5:=Kh h4);(obtain⟨d0,d1⟩:=uD h4);(have e0:=zF h4 0);(have H8:=Kh (c2.out.kept h2 (.inr (by rw[zR];exact h6.out))));(have b4:=h2.size);clear h0 h4 h2)|(at_builtin;refine qGF rfl _ _ _ rfl yP base (.slice sa ([]:List Nat).length sc) ([]:List Nat).length (nats []) rfl H8.out (.int .i64 (x:Int)) rfl rfl ?a1 ?a2 ?a3 ?_;(case a1=>(unfold maxLen;simp));(case a2=>simp);(case a3=>omega);intro sa3 sc3 w3 h1 H1 b3 h5;(have H2:=zB H5.out H1 (by rw[zR];exact H3.out));(obtain⟨b0,b1⟩:=uD H2);(have e3:=zF H2 0))|fail);go_ret;exact qEL (l:=[]) H.out.lo (by simp) H5.out a9 b5 h6.out H9.out H3.out h1 H1 h5 (c3.out.step a4.out (fun k hk=>.inr (by have:=Oj hk;omega))) (.inr b6)
 clear h;by_cases hin:x∈l
 ·have h9:=hmp.lookup h3.out
  rw[if_pos (qCT.2 hin),decide_eq_true (qCT.2 hin),xAZ hin]at h9;have a0:=Kh hin;clear hin hmp;go_enter Tryz.func111,Tryz.ntmps111;go_wp2;go_ret;have e:=tK a0.out;exact⟨sa,sc,some mb,yA (by rw[e]),by rw[e];exact H.out,GrownBut.refl _ _,fun k hk=>.inl hk⟩
 have h9:=hmp.lookup h3.out;rw[if_neg (fun hh=>hin (qCT.1 hh)),decide_eq_false (fun hh=>hin (qCT.1 hh))]at h9;have a0:=Kh hin;have c5:=Kh hmp;have c4:Hid ((x:Int) ∉ zl l):=Kh (fun hh=>hin (qCT.1 hh));have b2:=qYG l;have h6:=Kh hsm;clear hin hmp hsm;have b9:=Kh H.out.own;go_enter Tryz.func111,Tryz.ntmps111;go_wp2_with (first|(at_mapUpdate;refine iX rfl _ _ _ rfl mb l.length (zl l) x rfl rfl ?q1 c5.out (by unfold maxLen;omega) h3.out c4.out (by omega) ?_;(case q1=>(rw[b2];rfl));intro w2 h0 h2;(have H9:=Kh h0);(have a4:=Kh h2);(have h4:=zB H.out.box h2 (by simp;exact hmb));(have H5:=Kh h4);(obtain⟨d0,d1⟩:=uD h4);(have e0:=zF h4 0);(have H8:=Kh (b9.out.kept h2 (.inr (by rw[zR];exact h6.out))));(have b4:=h2.size);clear h0 h4 h2)|(at_builtin;refine qGF rfl _ _ _ rfl yP base (.slice sa l.length sc) l.length (nats l) rfl H8.out (.int .i64 (x:Int)) rfl rfl ?a1 ?a2 ?a3 ?_;(case a1=>(unfold maxLen;omega));(case a2=>omega);(case a3=>omega);intro sa3 sc3 w3 h1 H1 b3 h5;(have H2:=zB H5.out H1 (by rw[zR];exact H3.out));(obtain⟨b0,b1⟩:=uD H2);(have e3:=zF H2 0))|fail);go_ret;exact qEL H.out.lo a0.out H5.out hmb hmb0 h6.out H9.out H3.out h1 H1 h5 ((GrownBut.refl W _).step a4.out (fun k hk=>.inl (.inr (.inr hk)))) (.inl rfl)
theorem qH.obj {w:World}{b n:Nat}{l:List Int}(h:qH w b n l):∃es clock,w.heap[b]?=some (.map es clock):=by
 obtain⟨D,⟨es,clock,hb,_⟩,_⟩:=h;exact⟨es,clock,hb⟩
theorem NumSt.off {base:Nat}{W:World}{o:Nat}{sa:Option Addr}{sc:Nat}{mv:Option Nat}{l:List Nat}(h:NumSt base W o sa sc mv l){k e:Nat}{c:Array Value}{m:Nat×Nat}(hk:W.heap[k]?=some (.cells c e m))(h1:e≠3)(h2:e≠170):¬NF o sa mv k:=by
 rintro (rfl|hn|hn)
 ·rw[h.box]at hk
  simp only[Option.some.injEq,Obj.cells.injEq]at hk;exact h2 hk.2.1.symm
 ·rw[<-zR sa l.length sc]at hn
  exact zO h.own hk (fun e=>h1 e.symm) hn
 rcases h.map with ⟨e,_⟩|⟨mb,e,_,_,_,_,hm⟩
 ·rw[e]at hn;cases hn
 rw[e]at hn;have:=Oj hn;subst this;obtain⟨es,cl,hm⟩:=hm.obj;rw[hm]at hk;simp at hk
theorem NumSt.offOwn {base:Nat}{W:World}{o:Nat}{sa:Option Addr}{sc:Nat}{mv:Option Nat}{l:List Nat}(h:NumSt base W o sa sc mv l){b e n sz:Nat}{v:Value}{xs:List Value}(a9:W.ownsRow b e sz v n xs)(h1:e≠3)(h2:e≠170):∀k,v.ownBlock=some k->¬NF o sa mv k:=fun k hk=>by
 rcases a9.2 with ⟨rfl,_⟩|⟨g,cap,cur,rfl,_,hg,_⟩
 ·simp[Value.ownBlock]at hk
 ·have:g=k:=by simpa [Value.ownBlock] using hk
  subst this
  exact h.off hg h1 h2
theorem uX.keptT {α:Type}{X:Nat->Prop}{e:TypeId}{f:α->List Value}{w w':World}{hs:List Value}{ts:List α}{row:Option Nat}(h:uX X e f w hs ts)(hg:w.grownBy w' row)(hr:∀k,row=some k->yC w e k):uX X e f w' hs ts :=
 ⟨h.1,fun i h1 h2=>⟨((h.2 i h1 h2).1.kept hg (fun k hk=>.inr (hr k hk))).mono hg.size,(h.2 i h1 h2).2⟩⟩
theorem uH.but {X F:Nat->Prop}{w w':World}(a9:∀k,X k->k<w.heap.size)(hg:GrownBut w w' F)(hF:∀k,F k->¬X k):uH X w w':=fun k hk=>hg.block k (a9 k hk) (fun hf=>hF k hf hk)
theorem nD {w w':World}{base e n sz:Nat}{v:Value}{xs:List Value}{F:Nat->Prop}(h:w.ownsRow base e sz v n xs)(hg:GrownBut w w' F)(hF:∀k,v.ownBlock=some k->¬F k):w'.ownsRow base e sz v n xs:=by
 refine⟨h.1,?_⟩;rcases id h.2 with h2|⟨g,cap,cur,hv,hb,hgc,h3⟩
 ·exact .inl h2
 exact .inr ⟨g,cap,cur,hv,hb,hg.heap hgc (hF g (by rw[hv];rfl)),h3⟩
structure ExSt (B:Nat)(W0 W:World)(oN o2:Nat)(X Y:Nat->Prop)(k:Nat)(l:List Nat)(fs:List Bool)(t:List (List Int))(hs:List Value)(sa:Option Addr)(sc:Nat)(mv:Option Nat)(sf:Option Addr)(cf:Nat)(sn:Option Addr)(cn:Nat):Prop where
 num:NumSt B W oN sa sc mv l
 sep:∀j,NF oN sa mv j->¬Y j
 XY:∀j,X j->Y j
 lt:∀j,Y j->j<W.heap.size
 box:W.heap[o2]?=some (.cells #[.int .i64 (k:Int),.int .i64 0,.slice sf fs.length cf,.slice sn t.length cn] 30 (0,0))
 ownF:W.ownsRow o2 4 1 (.slice sf fs.length cf) fs.length (bls fs)
 ownN:W.ownsRow o2 22 1 (.slice sn t.length cn) t.length hs
 rows:uX X 3 ints W hs t
 lo:W0.heap.size<=o2
 loB:W0.heap.size<=B/\B<=W.heap.size
 grown:W0.grownBy W none
section
variable {B:Nat} {W0 W W':World} {oN o2 k:Nat} {X Y:Nat->Prop} {l:List Nat} {fs:List Bool} {t:List (List Int)} {hs:List Value} {sa:Option Addr} {sc:Nat} {mv:Option Nat} {sf:Option Addr} {cf:Nat} {sn:Option Addr} {cn:Nat}
theorem ExSt.grow (h:ExSt B W0 W oN o2 X Y k l fs t hs sa sc mv sf cf sn cn)(hg:W.grownBy W' none):ExSt B W0 W' oN o2 X Y k l fs t hs sa sc mv sf cf sn cn where
 num:=h.num.kept hg (by simp)
 sep:=h.sep
 XY:=h.XY
 lt:=fun j hj=>Nat.lt_of_lt_of_le (h.lt j hj) hg.size
 box:=zB h.box hg
 ownF:=zP h.ownF hg
 ownN:=zP h.ownN hg
 rows:=h.rows.keptT hg (by simp)
 lo:=h.lo
 loB:=⟨h.loB.1,Nat.le_trans h.loB.2 hg.size⟩
 grown:=zA h.grown hg
theorem ExSt.fresh (h:ExSt B W0 W oN o2 X Y k l fs t hs sa sc mv sf cf sn cn)(hg:W.grownBy W' none){g:Nat}(h1:W.heap.size<=g)(h2:g<W'.heap.size):ExSt B W0 W' oN o2 X (fun j=>Y j\/j=g) k l fs t hs sa sc mv sf cf sn cn where
 num:=h.num.kept hg (by simp)
 sep:=fun j hj hy=>by
  rcases hy with hy|hy
  ·exact h.sep j hj hy
  ·have:=(h.num.ge j hj).2;omega
 XY:=fun j hj=>.inl (h.XY j hj)
 lt:=fun j hj=>by
  rcases hj with hj|hj
  ·exact Nat.lt_of_lt_of_le (h.lt j hj) hg.size
  ·omega
 box:=zB h.box hg
 ownF:=zP h.ownF hg
 ownN:=zP h.ownN hg
 rows:=h.rows.keptT hg (by simp)
 lo:=h.lo
 loB:=⟨h.loB.1,Nat.le_trans h.loB.2 hg.size⟩
 grown:=zA h.grown hg
theorem ExSt.num_step (h:ExSt B W0 W oN o2 X Y k l fs t hs sa sc mv sf cf sn cn){l':List Nat}{a9:Option Addr}{a7:Nat}{a8:Option Nat}(hn:NumSt B W' oN a9 a7 a8 l')(hg:GrownBut W W' (NF oN sa mv))(hm:∀k,NF oN a9 a8 k->NF oN sa mv k\/W.heap.size<=k):ExSt B W0 W' oN o2 X Y k l' fs t hs a9 a7 a8 sf cf sn cn where
 num:=hn
 sep:=fun j hj hy=>by
  rcases hm j hj with h1|h1
  ·exact h.sep j h1 hy
  ·have:=h.lt j hy;omega
 XY:=h.XY
 lt:=fun j hj=>Nat.lt_of_lt_of_le (h.lt j hj) hg.size
 box:=hg.heap h.box (h.num.off h.box (by decide) (by decide))
 ownF:=nD h.ownF hg (h.num.offOwn h.ownF (by decide) (by decide))
 ownN:=nD h.ownN hg (h.num.offOwn h.ownN (by decide) (by decide))
 rows:=h.rows.kept (uH.but (fun k hk=>h.lt k (h.XY k hk)) hg (fun k hf hx=>h.sep k hf (h.XY k hx))) hg.size
 lo:=h.lo
 loB:=⟨h.loB.1,Nat.le_trans h.loB.2 hg.size⟩
 grown:=hg.grown h.grown (fun k hk=>.inr (Nat.le_trans h.loB.1 (h.num.ge k hk).1))
theorem ExSt.put (h:ExSt B W0 W oN o2 X Y k l fs t hs sa sc mv sf cf sn cn){g:Nat}{c:Array Value}{m:Nat×Nat}(hg:W.grownBy W' (some g))(hc:W.heap[g]?=some (.cells c 3 m))(hY:Y g)(hX:¬X g)(h0:W0.heap.size<=g):ExSt B W0 W' oN o2 X Y k l fs t hs sa sc mv sf cf sn cn where
 num:=h.num.kept hg (fun j e hf=>by have:=Oj e;subst this;exact h.sep _ hf hY)
 sep:=h.sep
 XY:=h.XY
 lt:=fun j hj=>Nat.lt_of_lt_of_le (h.lt j hj) hg.size
 box:=zB h.box hg (fun e=>by
  have:=Oj e
  subst this
  rw[h.box]at hc
  simp only[Option.some.injEq,Obj.cells.injEq]at hc
  exact absurd hc.2.1 (by decide))
 ownF:=h.ownF.kept hg (.inr (zO h.ownF hc (by decide)))
 ownN:=h.ownN.kept hg (.inr (zO h.ownN hc (by decide)))
 rows:=h.rows.kept (fun j hj=>hg.block j (h.lt j (h.XY j hj)) (fun e=>by have:=Oj e;subst this;exact hX hj)) hg.size
 lo:=h.lo
 loB:=⟨h.loB.1,Nat.le_trans h.loB.2 hg.size⟩
 grown:=zA h.grown hg (fun j e=>by have:=Oj e;omega)
theorem ExSt.pushN (h:ExSt B W0 W oN o2 X Y k l fs t hs sa sc mv sf cf sn cn){m:Nat}(hm:t.length=m){rv:Value}{row:List Int}{a9:Option Addr}{a8:Nat}(ho:W'.ownsRow o2 22 1 (.slice a9 (m+1) a8) (m+1) (hs++[rv]))(hg:W.grownBy W' (Value.slice sn m cn).ownBlock)(a7:RowX (fun j=>X j\/Y j) 3 W rv (ints row)){W2:World}(a6:W2=W'.setCell ⟨o2,3,none⟩ (.slice a9 (m+1) a8)):ExSt B W0 W2 oN o2 Y Y k l fs (t++[row]) (hs++[rv]) sa sc mv sf cf a9 a8:=by
 subst hm;have hb:=zB h.box hg (zO h.ownN h.box (by decide));have h1:=heap_setCell_same W' o2 3 _ _ (.slice a9 (t.length+1) a8) hb;have g2:=zD W' ⟨o2,3,none⟩ (.slice a9 (t.length+1) a8);rw[<-a6]at h1 g2;have h0:=h.num.offOwn h.ownN (by decide) (by decide);have h2:=h.num.kept hg (fun j e=>h0 j e)
 have h3:=h.ownF.kept hg (by
  rcases hv:(Value.slice sf fs.length cf).ownBlock with _|j
  ·exact .inl rfl
  refine .inr fun e=>?_;obtain⟨cu,e',mm,hh,h7⟩:=zZ (e':=22) h.ownF (by decide) j hv
  exact zO h.ownN hh (fun e2=>h7 e2.symm) e.symm)
 have h5:uX Y 3 ints W (hs++[rv]) (t++[row]):=(h.rows.mono h.XY).snoc (a7.mono (fun j hj=>hj.elim (h.XY j) id));have h4:=h5.keptT hg (fun j e=>zZ h.ownN (by decide) j e);have h6:yC W' 3 o2:=⟨_,_,_,hb,by decide⟩;have hz:=hg.size;have h8:=g2.size
 exact⟨h2.kept g2 (fun j e hf=>by have:=Oj e;subst this;exact h2.off hb (by decide) (by decide) hf),h.sep,fun _ hj=>hj,fun j hj=>by have:=h.lt j hj;omega,by rw[h1];simp,h3.kept g2 (.inr (zO h3 hb (by decide))),by
  rw[List.length_append]
  exact ho.kept g2 (.inr (zO ho hb (by decide))),h4.keptT g2 (fun j e=>by have:=Oj e;subst this;exact h6),h.lo,⟨h.loB.1,by have:=h.loB.2;omega⟩,zY (zA h.grown hg (fun j e=>Nat.le_trans h.lo (h.ownN.lt j e).1)) g2 (by show _<=o2;have:=h.lo;omega)⟩
theorem ExSt.pushF (h:ExSt B W0 W oN o2 X Y k l fs t hs sa sc mv sf cf sn cn){m:Nat}(hm:fs.length=m){b:Bool}{a9:Option Addr}{a8:Nat}(ho:W'.ownsRow o2 4 1 (.slice a9 (m+1) a8) (m+1) (bls fs++[.bool b]))(hg:W.grownBy W' (Value.slice sf m cf).ownBlock){W2:World}(a7:W2=W'.setCell ⟨o2,2,none⟩ (.slice a9 (m+1) a8)):ExSt B W0 W2 oN o2 X Y k l (fs++[b]) t hs sa sc mv a9 a8 sn cn:=by
 subst hm;have hb:=zB h.box hg (zO h.ownF h.box (by decide));have h1:=heap_setCell_same W' o2 2 _ _ (.slice a9 (fs.length+1) a8) hb;have g2:=zD W' ⟨o2,2,none⟩ (.slice a9 (fs.length+1) a8);rw[<-a7]at h1 g2;have h0:=h.num.offOwn h.ownF (by decide) (by decide);have h2:=h.num.kept hg (fun j e=>h0 j e)
 have h3:=h.ownN.kept hg (by
  rcases hv:(Value.slice sn t.length cn).ownBlock with _|j
  ·exact .inl rfl
  refine .inr fun e=>?_;obtain⟨cu,e',mm,hh,h6⟩:=zZ (e':=4) h.ownN (by decide) j hv
  exact zO h.ownF hh (fun e2=>h6 e2.symm) e.symm)
 have h4:=h.rows.keptT hg (fun j e=>zZ h.ownF (by decide) j e);have h5:yC W' 3 o2:=⟨_,_,_,hb,by decide⟩;have hz:=hg.size;have h8:=g2.size;have h7:bls (fs++[b])=bls fs++[.bool b]:=by simp[bls]
 exact⟨h2.kept g2 (fun j e hf=>by have:=Oj e;subst this;exact h2.off hb (by decide) (by decide) hf),h.sep,h.XY,fun j hj=>by have:=h.lt j hj;omega,by rw[h1];simp,by
  rw[List.length_append,h7]
  exact ho.kept g2 (.inr (zO ho hb (by decide))),h3.kept g2 (.inr (zO h3 hb (by decide))),h4.keptT g2 (fun j e=>by have:=Oj e;subst this;exact h5),h.lo,⟨h.loB.1,by have:=h.loB.2;omega⟩,zY (zA h.grown hg (fun j e=>Nat.le_trans h.lo (h.ownF.lt j e).1)) g2 (by show _<=o2;have:=h.lo;omega)⟩
end
end Go.Proofs.YtcoimliafiammaaGreat
namespace Go.Proofs.YtcoimliafiammaaGreat
def mZ (d:DfaV)(k q x:Nat):List Nat:=(List.range x).map (fun a=>(yB d k).idxOf (nx d q a))++List.replicate (k-x) 0
theorem mY {d:DfaV}{k q x:Nat}(h:x<=k):(mZ d k q x).length=k:=by simp[mZ];omega
theorem qSI {d:DfaV}{k q x:Nat}(h:x<k):(mZ d k q x).set x ((yB d k).idxOf (nx d q x))=mZ d k q (x+1):=by
 unfold mZ;rw[List.set_append_right _ _ (by simp),List.range_succ,List.map_append,show k-x=(k-(x+1))+1 by omega,List.replicate_succ];simp
theorem qNO (d:DfaV)(k q:Nat):mZ d k q 0=List.replicate k 0:=by simp[mZ]
theorem qNP {d:DfaV}{n k q:Nat}(hd:VD d n k)(hA:∀a,a<k->nx d q a∈yB d k)(hq:q<n):zl (mZ d k q k)=wI (yB d k) (d.next.getD q []):=by
 have hr:=hd.row q hq;refine List.ext_getElem (by rw[qYG,mY (Nat.le_refl k),wI,List.length_map,hr]) fun a h1 h2=>?_;have ha:a<k:=by simpa [zl,mZ] using h1
 have e2:(wI (yB d k) (d.next.getD q []))[a]=rX (yB d k) ((d.next.getD q [])[a]'(by rw[hr];exact ha)).toNat:=by simp[wI]
 rw[e2]
 have e3:((d.next.getD q [])[a]'(by rw[hr];exact ha)).toNat=nx d q a:=by
  show _=(ent d.next q a).toNat;unfold ent;rw[zG (show a<(d.next.getD q []).length by rw[hr];exact ha)]
 rw[e3,rX,if_pos (hA a ha)];simp[zl,mZ]
structure ExL (d:DfaV)(n k i:Nat)(l:List Nat):Prop where
 acc:AccI d n k i l
 go:qA d k (n-i) i l=yB d k
theorem ExL.start {d:DfaV}{n k:Nat}(hd:VD d n k):ExL d n k 0 [st0 d]:=⟨AccI.start hd,by rw[yB,hd.hn];rfl⟩
theorem ExL.le {d:DfaV}{n k i:Nat}{l:List Nat}(h:ExL d n k i l):l.length<=n:=lO h.acc.nd h.acc.lt
theorem ExL.next {d:DfaV}{n k i:Nat}{l:List Nat}(hd:VD d n k)(h:ExL d n k i l)(hi:i<l.length):ExL d n k (i+1) (vG d l i k):=by
 refine⟨h.acc.row hd hi,?_⟩;have:=h.le;have e:n-i=(n-(i+1))+1:=by omega
 have g:=h.go;rw[e,qA,if_pos hi]at g;exact g
theorem ExL.done {d:DfaV}{n k i:Nat}{l:List Nat}(h:ExL d n k i l)(hi:¬i<l.length):l=yB d k:=by
 have g:=h.go;rw[bI hi]at g;exact g
theorem fI (d:DfaV)(k:Nat):∀f i l,l <+: qA d k f i l
 | 0,_,l=>List.prefix_refl l
 | f+1,i,l=>by
  rw[qA]
  split
  ·exact(tL d l i k).trans (fI d k f (i+1) _)
  ·exact List.prefix_refl l
theorem jI (d:DfaV)(l:List Nat)(i:Nat):∀ {a b},a<=b->vG d l i a <+: vG d l i b
 | a,0,h=>by rw[show a=0 by omega];exact List.prefix_refl _
 | a,b+1,h=>by
  by_cases e:a=b+1
  ·rw[e];exact List.prefix_refl _
  ·exact(jI d l i (by omega)).trans (nS _ _)
theorem ExL.pre {d:DfaV}{n k i:Nat}{l:List Nat}(hd:VD d n k)(h:ExL d n k i l)(hi:i<l.length){x:Nat}(hx:x<=k):vG d l i x <+: yB d k:=by
 have h2:=(h.next hd hi).go;exact(jI d l i hx).trans (h2 ▸ fI d k _ _ _)
theorem ExL.idx {d:DfaV}{n k i:Nat}{l:List Nat}(hd:VD d n k)(h:ExL d n k i l)(hi:i<l.length){x:Nat}(hx:x<k):(vG d l i (x+1)).idxOf (nx d (l.getD i 0) x)=(yB d k).idxOf (nx d (l.getD i 0) x) :=
 (fA (h.pre hd hi (show x+1<=k by omega)) (sI.2 (.inr ⟨x,by omega,rfl⟩))).symm
theorem ExL.done_mem {d:DfaV}{n k i:Nat}{l:List Nat}(hd:VD d n k)(h:ExL d n k i l)(hi:i<l.length){a:Nat}(ha:a<k):nx d (l.getD i 0) a∈yB d k :=
 (h.pre hd hi (show a+1<=k by omega)).subset (sI.2 (.inr ⟨a,by omega,rfl⟩))
theorem ExL.rowLen {d:DfaV}{n k i:Nat}{l:List Nat}(hd:VD d n k)(h:ExL d n k i l)(hi:i<l.length){x:Nat}(hx:x<=k):(vG d l i x).length<=n:=by
 have h1:=(jI d l i hx).length_le;have h2:=(h.next hd hi).le;omega
theorem mD {l m:List Nat}(h:l <+: m){i:Nat}(hi:i<=l.length):m.take i=l.take i:=by
 obtain⟨r,rfl⟩:=h;rw[List.take_append_of_le_length hi]
open Go.Maps Go.RowKit
def exT (d:DfaV)(k:Nat)(l:List Nat)(i:Nat):List (List Int):=(l.take i).map fun q=>wI (yB d k) (d.next.getD q [])
def exF (d:DfaV)(l:List Nat)(i:Nat):List Bool:=(l.take i).map fun q=>d.final.getD q false
theorem qIA {d:DfaV}{k:Nat}{l:List Nat}{i:Nat}(h:i<=l.length):(exT d k l i).length=i:=by simp[exT];omega
theorem qSJ {d:DfaV}{l:List Nat}{i:Nat}(h:i<=l.length):(exF d l i).length=i:=by simp[exF];omega
theorem qXF {d:DfaV}{k:Nat}{l m:List Nat}{i:Nat}(hp:l <+: m)(h:i<l.length):exT d k m (i+1)=exT d k l i++[wI (yB d k) (d.next.getD (l.getD i 0) [])]:=by
 simp only[exT,mD hp (show i+1<=l.length by omega),zT (d:=0) h,List.map_append,List.map_cons,List.map_nil]
theorem qXG {d:DfaV}{l m:List Nat}{i:Nat}(hp:l <+: m)(h:i<l.length):exF d m (i+1)=exF d l i++[d.final.getD (l.getD i 0) false]:=by
 simp only[exF,mD hp (show i+1<=l.length by omega),zT (d:=0) h,List.map_append,List.map_cons,List.map_nil]
theorem RowX.of_arr {X:Nat->Prop}{w:World}{g n:Nat}{e:TypeId}{xs:List Value}(h:Arr w g e xs)(hn:xs.length=n)(hm:n<=maxLen)(hX:X g):RowX X e w (.slice (some ⟨g,0,none⟩) n n) xs:=by
 obtain⟨cur,rest,hc,ht⟩:=h;subst hn;refine⟨.inr ⟨g,0,xs.length,cur,(0,0),rfl,zM hc,Nat.le_refl _,hm,hc,fun i hi=>?_⟩,fun k hk=>?_⟩
 ·rw[Nat.zero_add,<-Array.getElem?_toList,ht,List.getElem?_append_left hi,List.getElem?_eq_getElem hi]
 have:g=k:=by simpa [Value.ownBlock] using hk
 subst this;exact hX
theorem Arr.but {w w':World}{g:Nat}{e:TypeId}{xs:List Value}{F:Nat->Prop}(h:Arr w g e xs)(hg:GrownBut w w' F)(hF:¬F g):Arr w' g e xs:=by
 obtain⟨cur,rest,hc,ht⟩:=h;exact⟨cur,rest,hg.heap hc hF,ht⟩
theorem vI {w W:World}{o:Obj}(h1:W.os=w.os)(h2:W.tape=w.tape)(h3:W.output=w.output)(h4:W.heap=(w.alloc o).heap):w.grownBy W none :=
 wS (Ga w o none) h1 h2 h3 h4
structure TBox (B:Nat)(W:World)(P:Nat)(d:DfaV)(n k S fb fo fc b off cap:Nat)(RB RO RC:Nat->Nat):Prop where
 box:W.heap[P]?=some (.cells #[.int .i64 (k:Int),.int .i64 (S:Int),.slice (some ⟨fb,fo,none⟩) n fc,.slice (some ⟨b,off,none⟩) n cap] 30 (0,0))
 at_:DAt B W d n k fb fo fc b off cap RB RO RC
theorem TBox.grow {B:Nat}{W W':World}{P:Nat}{d:DfaV}{n k S fb fo fc b off cap:Nat}{RB RO RC:Nat->Nat}(h:TBox B W P d n k S fb fo fc b off cap RB RO RC)(hg:W.grownBy W' none):TBox B W' P d n k S fb fo fc b off cap RB RO RC :=
 ⟨zB h.box hg,h.at_.kept hg (by simp)⟩
section
variable {B:Nat} {W:World} {P:Nat} {d:DfaV} {n k S fb fo fc b off cap:Nat} {RB RO RC:Nat->Nat}
theorem qOU (h:TBox B W P d n k S fb fo fc b off cap RB RO RC){q a:Nat}(hq:q<n)(ha:a<k):Calls Tryz.prog 98 #[.int .i64 (q:Int),.int .i64 (a:Int),.pointer (some ⟨P,0,none⟩)] W fun e w'=>e=.returned (.int .i64 ((nx d q a:Nat):Int))/\W=w':=by
 obtain⟨c0,c1,c2,c3⟩:=zE h.box;have c4:=h.at_.hd q hq;have c5:=h.at_.el q a hq ha;have hc:=h.at_.cap;have hr:=h.at_.rcap q hq;have hd:=h.at_.ok;have hn:=hd.nbig;have hk:=hd.k6;unfold maxLen at hc hr;clear h hd;go_enter Tryz.func98,Tryz.ntmps98;go_wp2;go_ret;exact⟨rfl,rfl⟩
theorem qOT (h:TBox B W P d n k S fb fo fc b off cap RB RO RC){q:Nat}(hq:q<n):Calls Tryz.prog 99 #[.int .i64 (q:Int),.pointer (some ⟨P,0,none⟩)] W fun e w'=>e=.returned (.bool (d.final.getD q false))/\W=w':=by
 obtain⟨c0,c1,c2,c3⟩:=zE h.box;have c4:=h.at_.fin hq;have hc:=h.at_.fcap;have hd:=h.at_.ok;have hn:=hd.nbig;unfold maxLen at hc;clear h hd;go_enter Tryz.func99,Tryz.ntmps99;go_wp2;go_ret;exact⟨rfl,rfl⟩
end
def xCY (W:World)(d:DfaV)(k:Nat)(e:Ending)(W':World):Prop :=
 ∃v sa sc,e=.returned (.tuple #[v,.slice sa (yB d k).length sc,.int .i64 0])/\sZ W W' v (xY d k)/\W'.ownsRow W.heap.size 3 1 (.slice sa (yB d k).length sc) (yB d k).length (nats (yB d k))/\W.grownBy W' none
theorem qHZ (B:Nat)(W:World)(P:Nat)(d:DfaV)(n k S fb fo fc b off cap:Nat)(RB RO RC:Nat->Nat)(hS:S=st0 d)(h5:n<=512)(h:TBox B W P d n k S fb fo fc b off cap RB RO RC):Calls Tryz.prog 97 #[.int .i64 (k:Int),.int .i64 (S:Int),.func (.func 98) #[] #[.pointer (some ⟨P,0,none⟩)],.func (.func 99) #[] #[.pointer (some ⟨P,0,none⟩)]] W (xCY W d k):=by
 have hd:=h.at_.ok;have hn:=hd.nbig;have hk:=hd.k6;have q9:=hd.k1;have r4:S<n:=by rw[hS];exact oJ hd
 obtain⟨w1,a5⟩:=Nm ((W.alloc (.cells #[.int .i64 0,.int .i64 0,.slice none 0 0,.slice none 0 0] 30)).alloc (.cells #[.slice none 0 0,.map none] 170));have l2:W.grownBy w1 none:=by rw[a5];exact vC (Ga W _ none) _
 have H3:w1.heap[W.heap.size]?=some (.cells #[.int .i64 0,.int .i64 0,.slice none 0 0,.slice none 0 0] 30 (0,0)):=by rw[a5];exact oO W _ _
 have i6:w1.heap[W.heap.size+1]?=some (.cells #[.slice none 0 0,.map none] 170 (0,0)):=by rw[a5];exact oL W _ _
 have q3:w1.heap.size=W.heap.size+2:=by rw[a5,zL,zL]
 obtain⟨oN,e7⟩:=Nm (W.heap.size+1);obtain⟨o0,e9⟩:=Nm W.heap.size;rw[<-e9]at H3;rw[<-e7]at i6;have j2:Hid (NumSt W.heap.size w1 oN none 0 none []):=Kh ⟨i6,World.ownsRow_nil _ _ _ _,.inl ⟨rfl,rfl⟩,by omega⟩;obtain⟨h2,p4,m2,HD,HT,HS⟩:=K6 H3 l2 a5 hd h hS;have p1:=Kh e9;have p2:=Kh e7;have n7:W.heap.size<oN:=by omega
 have n6:oN<w1.heap.size:=by omega
 have o1:W.heap.size<=o0:=by omega
 have n9:o0<oN:=by omega
 clear e7 e9;clear H3 i6 l2 a5 hd h hS;go_enter Tryz.func97,Tryz.ntmps97;go_upto_region 2 with fail;rw[<-m2.out,<-p2.out,<-p1.out];go_wp2_with fail;refine(qEM W.heap.size w1 oN none 0 none [] S j2.out (by omega) (by simp) (by omega)).mono ?_;rintro e w2 ⟨sa2,sc2,mv2,rfl,H1,H2,f5⟩;have a6:xV ([]:List Nat) S=[S]:=by simp[xV]
 rw[a6]at H1;have q2:=H2.size;have c2:=Kh H1;have a4:=Kh H2;obtain⟨o2,e8⟩:=Nm w2.heap.size;clear a6 H1 H2 f5;go_wp2_with fail;obtain⟨w3,d7⟩:=Nm (w2.alloc (.cells #[.int .i64 (k:Int),.int .i64 0,.slice none 0 0,.slice none 0 0] 30));have a7:=Ga w2 (.cells #[.int .i64 (k:Int),.int .i64 0,.slice none 0 0,.slice none 0 0] 30) none;have b5:=heap_alloc_new w2 (.cells #[.int .i64 (k:Int),.int .i64 0,.slice none 0 0,.slice none 0 0] 30);rw[<-d7]at a7 b5;rw[<-e8]at b5;have q1:=a7.size;have b0:W.heap.size<=o2:=by omega
 have n8:=zM b5;have m8:=Kh (zA (a4.out.grown p4.out (fun k hk=>.inr (j2.out.ge k hk).1)) a7);have h0:Hid (ExSt W.heap.size W w3 oN o2 (fun _=>False) (fun _=>False) k [S] (exF d [S] 0) (exT d k [S] 0) [] sa2 sc2 mv2 none 0 none 0):=Kh ⟨c2.out.kept a7 (by simp),fun _ _ h=>h,fun _ h=>h,fun _ h=>h.elim,b5,World.ownsRow_nil _ _ _ _,World.ownsRow_nil _ _ _ _,uX.nil,b0,⟨Nat.le_refl _,by omega⟩,m8.out⟩
 have p3:=Kh e8;have m1:=Kh d7;have c4:=Kh (zB (a4.out.heap h2.out (fun h=>by
  rcases h with h|h|h
  ·omega
  ·simp[Value.ownBlock]at h
  simp at h)) a7)
 have H9:o0≠o2:=by omega
 have k5:o0<w3.heap.size:=by omega
 clear a7 b5 d7 e8;rw[<-p3.out,<-m1.out]
 go_loopg [13,14,15,16] n (fun gh i a14 a15 a16 wr=>∃(q:Nat) (l:List Nat) (hs:List Value) (X:Nat->Prop) (sa:Option Addr) (sc:Nat) (mv:Option Nat) (sf:Option Addr) (cf:Nat) (sn:Option Addr) (cn:Nat),gh+q=n/\i=.int .i64 q/\q<=l.length/\ExL d n k q l/\wr.heap[o0]?=some (.cells #[.int .i64 0,.int .i64 0,.slice none 0 0,.slice none 0 0] 30 (0,0))/\ExSt W.heap.size W wr oN o2 X X k l (exF d l q) (exT d k l q) hs sa sc mv sf cf sn cn)
 case atStart=>exact⟨0,[S],[],fun _=>False,sa2,sc2,mv2,none,0,none,0,rfl,rfl,by simp,by rw[HS.out];exact ExL.start HD.out,c4.out,h0.out⟩
 clear h0 c2 a4 h2 j2 m8 c4 m2 m1;obtain⟨q,l,hs,X,sa,sc,mv,sf,cf,sn,cn,b4,rfl,d9,a8,H3,h3⟩:=hrel;obtain⟨m7,a9,h2,h0⟩:=K4 b4 a8 H3 h3;have q7:=a8.le;have p9:=h3.grown.size;obtain⟨c0,c1⟩:=uD h3.num.box;clear b4 a8 H3 h3;by_cases hk':q<l.length
 ·have f9:(q:Int)<l.length:=by omega
  obtain⟨lb,lo,lc,el,q8,k9,a6,k8⟩:=(Row.of_owns h0.out.num.own).some_ (by rw[zV];omega);rw[zV]at el k9;simp only[Value.slice.injEq]at el;obtain⟨rfl,_,rfl⟩:=el;have cq:=k8.nat q hk';obtain⟨s,c7⟩:=Nm (l.getD q 0);have c6:s<n:=(by rw[c7,zG hk'];exact a9.out.acc.lt _ (List.getElem_mem hk'));rw[<-c7]at cq;have b8:=Kh c7;clear k8 c7;go_wp2_with (first|(at_make;refine kW rfl _ _ _ rfl yP rfl .i64 .i64 _ _ k rfl rfl rfl rfl ?b1 ?b2 ?_)|fail)
  case b1=>omega
  case b2=>unfold maxLen;omega
  intro w4 h6 i0 f7;obtain⟨g,hg⟩:=Nm wr.heap.size;rw[<-hg]at h6⊢;have n2:Hid (Arr w4 g 3 (nats (mZ d k s 0))):=Kh (by rw[qNO,xJ];exact h6);have m3:=Kh (h0.out.fresh i0 (g:=g) (by omega) (by omega));have n1:=Kh (zB h2.out i0);have l7:¬X g:=fun hx=>by have:=h0.out.lt g hx;omega
  have o8:=Kh l7;have o6:W.heap.size<=g:=by omega
  have o5:o0<g:=(by have:=zM h2.out;omega);have k2:=fun x (hx:x<=k)=>a9.out.rowLen HD.out hk' hx;have j0:=Kh k2;clear h6 i0 l7 f7 hg k2 h0 h2 c0 c1 cq;go_wp2_with fail
  go_loopg [16,37] k (fun gh a16 i wr=>∃(x:Nat) (sa:Option Addr) (sc:Nat) (mv:Option Nat),gh+x=k/\i=.int .i64 x/\Arr wr g 3 (nats (mZ d k s x))/\wr.heap[o0]?=some (.cells #[.int .i64 0,.int .i64 0,.slice none 0 0,.slice none 0 0] 30 (0,0))/\ExSt W.heap.size W wr oN o2 X (fun j=>X j\/j=g) k (vG d l q x) (exF d l q) (exT d k l q) hs sa sc mv sf cf sn cn)
  case atStart=>exact⟨0,_,_,_,rfl,rfl,n2.out,n1.out,m3.out⟩
  clear n2 m3 n1 k9 a6;obtain⟨x,sa,sc,mv,b4,rfl,h6,H3,h3⟩:=hrel;obtain⟨c3,j6,h2,h0⟩:=K4 b4 h6 H3 h3;have p8:=h3.grown.size;have q6:=h3.loB.2;clear b4 h6 H3 h3;by_cases hx':x<k
  ·have d6:(x:Int)<k:=by omega
   have d4:=Kh (HT.out.grow h0.out.grown);have k7:=j0.out x (by omega);have f6:=mP HD.out c6 hx';go_wp2_with fail;refine(qOU d4.out c6 hx').mono ?_;rintro e w5 ⟨rfl,rfl⟩;obtain⟨y,hy⟩:=Nm (nx d s x);rw[<-hy]at f6⊢;have HY:=Kh hy;clear hy;go_wp2_with fail;refine(qEM W.heap.size wr oN sa sc mv (vG d l q x) y h0.out.num (by omega) (by omega) (by omega)).mono ?_;rintro e w5 ⟨sa5,sc5,mv5,rfl,H0,h4,b3⟩;have e5:xV (vG d l q x) y=vG d l q (x+1):=by rw[HY.out,b8.out];rfl
   have e6:(vG d l q (x+1)).idxOf y=(yB d k).idxOf y:=by rw[HY.out,b8.out];exact a9.out.idx HD.out hk' hx'
   rw[e5]at H0;rw[e5,e6];have q0:=h4.size;have b6:=j6.out.but h4 (fun hf=>h0.out.sep g hf (.inr rfl))
   have l5:=h4.heap h2.out (fun hf=>by
    rcases hf with e|e|e
    ·omega
    ·rw[<-zR sa (vG d l q x).length sc]at e
     exact zO h0.out.num.own h2.out (by decide) e
    rcases h0.out.num.map with ⟨e2,_⟩|⟨mb,e2,_,_,_,_,hm⟩
    ·rw[e2]at e;cases e
    rw[e2]at e;have:=Oj e;subst this;obtain⟨es,cl,hm⟩:=hm.obj
    rw[h2.out]at hm;simp at hm)
   have k0:=h0.out.num_step H0 h4 b3;have cg:=b6.nat x (by rw[mY (by omega)];exact hx');have fg:=b6.frozen x;have H8:=b6.nat_set x (by rw[mY (by omega)];exact hx') ((yB d k).idxOf y);have a8:(mZ d k s x).set x ((yB d k).idxOf y)=mZ d k s (x+1):=by rw[HY.out];exact qSI hx'
   rw[a8]at H8;obtain⟨b9,p6,p7,p0⟩:=K4 H8 l5 b6 k0;have q4:(nats (mZ d k s x)).length=k:=by rw[zV,mY (by omega)]
   obtain⟨I,hI⟩:=Nm ((yB d k).idxOf y);rw[<-hI]at b9⊢;clear e5 e6 H0 h4 b3 b6 l5 k0 H8 a8 hI;go_wp2_with fail;go_roundg (k-(x+1))
   case measure=>have:=c3.out;omega
   obtain⟨cur,rest,i3,_⟩:=p7.out;have l0:=zD w5 ⟨g,x,none⟩ (.int .i64 (I:Int));exact⟨x+1,sa5,sc5,mv5,by omega,by go_num,b9.out,zB p6.out l0 (fun e=>by have e:g=o0:=Oj e;omega),p0.out.put l0 i3 (.inr rfl) o8.out o6⟩
  have n4:x=k:=by have:=c3.out;omega
  subst n4;have d6:¬(x:Int)<x:=(by omega);obtain⟨m,hm⟩:=Nm (vG d l q x);have k7:=j0.out x (by omega);have m0:=Kh (a9.out.next HD.out hk')
  have o4:q<m.length:=by
   have:=(tL d l q x).length_le;rw[hm];omega
  have j1:=Kh (tL d l q x);rw[<-hm]at m0 j1 h0 k7;have HM:=Kh hm;clear hm;obtain⟨c0,c1⟩:=uD h0.out.num.box;obtain⟨d0,d1,d2,d3⟩:=zE h0.out.box;have f3:=zF h0.out.box 3;have q5:¬((512:Int)<m.length):=by omega
  have H4:Hid (RowX (fun j=>X j\/(X j\/j=g)) 3 wr (.slice (some ⟨g,0,none⟩) x x) (ints (wI (yB d x) (d.next.getD s [])))):=Kh (by
   have e:=qNP HD.out (q:=s) (fun a ha=>by rw[b8.out];exact a9.out.done_mem HD.out hk' ha) c6;have h9:=RowX.of_arr (X:=fun j=>X j\/(X j\/j=g)) j6.out (by rw[zV,mY (Nat.le_refl x)]) (by unfold maxLen;omega) (.inr (.inr rfl));rw[show nats (mZ d x s x)=ints (zl (mZ d x s x)) by simp[nats,ints,zl],e]at h9
   exact h9)
  go_wp2_with (first|(at_builtin;refine qGF rfl _ _ _ rfl vX o2 (.slice sn (exT d x l q).length cn) (exT d x l q).length hs rfl h0.out.ownN (.slice (some ⟨g,0,none⟩) x x) rfl rfl ?a1 ?a2 ?a3 ?_;(case a1=>(unfold maxLen;rw[qIA d9];omega));(case a2=>(rw[qIA d9];omega));(case a3=>exact Nat.le_of_lt (zM h0.out.box));intro sn6 cn6 w6 H6 c9 n3 f4;(have i7:=zB h0.out.box c9 (zO h0.out.ownN h0.out.box (by decide)));(obtain⟨e0,e1,e2,e3⟩:=zE i7);(have fz6:=zF i7 3))|fail);have h8:=Kh (h0.out.pushN rfl H6 c9 H4.out rfl);obtain⟨wo,c5⟩:=Nm (w6.setCell ⟨o2,3,none⟩ (.slice sn6 ((exT d x l q).length+1) cn6));rw[<-c5]at h8⊢;have o9:=Kh c5
  have j5:Hid (wo.heap[o0]?=some (.cells #[.int .i64 0,.int .i64 0,.slice none 0 0,.slice none 0 0] 30 (0,0))):=Kh (by
   rw[c5]
   exact zB (zB h2.out c9 (zO h0.out.ownN h2.out (by decide))) (zD w6 ⟨o2,3,none⟩ _) (fun e=>H9 (Oj e).symm))
  have d4:=Kh (HT.out.grow h8.out.grown);obtain⟨d0,d1,d2,d3⟩:=zE h8.out.box;have fz2:=zF h8.out.box 2;have m6:Hid (∀w',wo.grownBy w' none->w'.ownsRow o2 4 1 (.slice sf (exF d l q).length cf) (exF d l q).length (bls (exF d l q))/\o2<=w'.heap.size):=Kh (fun w' hg=>⟨zP h8.out.ownF hg,Nat.le_of_lt (Nat.lt_of_lt_of_le (zM h8.out.box) hg.size)⟩)
  have p5:Hid (∀w7 w',wo.grownBy w7 none->w7.grownBy w' (Value.slice sf (exF d l q).length cf).ownBlock->w'.frozen? ⟨o2,2,none⟩=false/\w'.cell? ⟨o2,2,none⟩=some (.slice sf (exF d l q).length cf)):=Kh (fun w7 w' h7 hg=>by
   have hb:=zB (zB h8.out.box h7) hg (zO h8.out.ownF h8.out.box (by decide))
   exact⟨zF hb 2,(zE hb).2.2.1⟩)
  have j4:=Kh (qSJ (d:=d) d9);have k4:=zM h8.out.box;obtain⟨bf,i5⟩:=Nm (d.final.getD s false);have n0:=Kh i5;have m9:Hid (∀w',wo.grownBy w' none->Calls Tryz.prog 99 #[.int .i64 (s:Int),.pointer (some ⟨P,0,none⟩)] w' fun e w''=>e=.returned (.bool bf)/\w'=w''):=Kh (fun w' hg=>by rw[i5];exact qOT (d4.out.grow hg) c6);clear i5;clear c5 n3 f4 H6 c9 i7 e0 e1 e2 e3 fz6
  have H7:Hid (∀(W1 w':World) (sf':Option Addr) (cf':Nat),w'.ownsRow o2 4 1 (.slice sf' ((exF d l q).length+1) cf') ((exF d l q).length+1) (bls (exF d l q)++[.bool bf])->W1.grownBy w' (Value.slice sf (exF d l q).length cf).ownBlock->wo.grownBy W1 none ->
    (∃(hs:List Value) (X:Nat->Prop) (sa:Option Addr) (sc:Nat) (mv:Option Nat) (sn:Option Addr) (cn:Nat),ExSt W.heap.size W (w'.setCell ⟨o2,2,none⟩ (.slice sf' ((exF d l q).length+1) cf')) oN o2 X X x m (exF d m (q+1)) (exT d x m (q+1)) hs sa sc mv sf' cf' sn cn) /\
    (w'.setCell ⟨o2,2,none⟩ (.slice sf' ((exF d l q).length+1) cf')).heap[o0]?=some (.cells #[.int .i64 0,.int .i64 0,.slice none 0 0,.slice none 0 0] 30 (0,0))/\w'.frozen? ⟨o2,2,none⟩=false/\w'.cell? ⟨o2,2,none⟩=some (.slice sf (exF d l q).length cf)):=Kh (fun W1 w' sf' cf' ho hg h1=>by
   have b7:=h8.out.grow h1;have l6:=zB b7.box hg (zO b7.ownF b7.box (by decide));have hp:=b7.pushF (b:=bf) rfl ho hg rfl;have eF:exF d l q++[bf]=exF d m (q+1):=by rw[qXG j1.out hk',<-b8.out,<-n0.out]
   have eT:exT d x l q++[wI (yB d x) (d.next.getD s [])]=exT d x m (q+1):=by rw[qXF j1.out hk',<-b8.out]
   rw[eF,eT]at hp
   exact⟨⟨_,_,_,_,_,_,_,hp⟩,zB (zB (zB j5.out h1) hg (zO b7.ownF (zB j5.out h1) (by decide))) (zD w' ⟨o2,2,none⟩ _) (fun e=>H9 (Oj e).symm),zF l6 2,(zE l6).2.2.1⟩)
  have j3:Hid (∀W1:World,wo.grownBy W1 none->W1.ownsRow o2 4 1 (.slice sf (exF d l q).length cf) (exF d l q).length (bls (exF d l q))/\o2<=W1.heap.size):=m6;clear m6 p5
  go_region_law (first|(go_simp;go_at_call 99;refine(m9.out _ (by first|exact zN wo none|exact zK wo _ none)).mono ?_;rintro e w' ⟨rfl,rfl⟩)|(refine oI ?g1 (.tmp 61) (.tmp 65) 27 ?g2 xL o2 (.slice sf (exF d l q).length cf) (exF d l q).length (bls (exF d l q)) ?g3 ?g4 (.bool bf) wo.heap.size (0,0) ?g5 ?g6 ?g7 ?g8 ?g9 ?g10 ?_;(case g1=>rfl);(case g2=>rfl);(case g3=>rfl);(case g4=>(refine(j3.out _ ?_).1;exact vI (o:=.cells #[.bool bf] 4) rfl rfl rfl rfl));(case g5=>rfl);(case g6=>exact heap_alloc_new (wo.drew) _);(case g7=>rfl);(case g8=>(rw[j4.out];unfold maxLen;omega));(case g9=>(rw[j4.out];omega));(case g10=>(refine(j3.out _ ?_).2;exact vI (o:=.cells #[.bool bf] 4) rfl rfl rfl rfl));intro sf8 cf8 w8 H5 l1;have c8:=H7.out _ _ _ _ H5 l1 (vI (o:=.cells #[.bool bf] 4) rfl rfl rfl rfl);have i1:=c8.2.2.1;have i2:=c8.2.2.2;have m5:=Kh c8;clear c8 H5 l1)|fail)
  all_goals
   clear H7 j3 m9 j5 n0 o9 d4 h8 d0 d1 d2 d3 fz2 i1 i2 j4 j0 H4 j6 h2;obtain⟨w9,j9⟩:=Nm (w8.setCell ⟨o2,2,none⟩ (.slice sf8 ((exF d l q).length+1) cf8));rw[<-j9]at m5⊢;clear j9;go_wp2;go_roundg (n-(q+1))
   case measure=>have:=m7.out;omega
   obtain⟨⟨n5,X9,sa9,sc9,mv9,sn9,cn9,d8⟩,i9,_,_⟩:=m5.out;exact⟨q+1,m,n5,X9,sa9,sc9,mv9,sf8,cf8,sn9,cn9,by have:=m7.out;omega,by go_num,o4,m0.out,i9,d8⟩
 have f9:¬(q:Int)<l.length:=by omega
 have d5:=Kh (a9.out.done hk');have m4:Hid (q=l.length):=Kh (by omega);obtain⟨d0,d1,d2,d3⟩:=zE h0.out.box;obtain⟨e0,e1,e2,e3⟩:=zE h2.out;have f0:=zF h2.out 0;have f1:=zF h2.out 1;have f2:=zF h2.out 2;have f3:=zF h2.out 3;go_wp2_with fail;obtain⟨c0,c1⟩:=uD h0.out.num.box;have o3:o0≠oN:=by omega
 go_region
 all_goals (try go_frame)
 all_goals go_wp2
 obtain⟨i4,g0⟩:=vY h2.out (.int .i64 (k:Int)) (.int .i64 0) (.slice sf (exF d l q).length cf) (.slice sn (exT d k l q).length cn);obtain⟨wz,j7⟩:=Nm ((((wr.setCell ⟨o0,0,none⟩ (.int .i64 (k:Int))).setCell ⟨o0,1,none⟩ (.int .i64 0)).setCell ⟨o0,2,none⟩ (.slice sf (exF d l q).length cf)).setCell ⟨o0,3,none⟩ (.slice sn (exT d k l q).length cn));rw[<-j7]at i4 g0⊢;clear j7;have a0:=zA (row:=some o0) g0 (zN wz none) (by simp);have l4:wz.drew.heap[o0]?=some (.cells #[.int .i64 (k:Int),.int .i64 0,.slice sf (exF d l q).length cf,.slice sn (exT d k l q).length cn] 30 (0,0)):=i4;obtain⟨wf,j8⟩:=Nm wz.drew;rw[<-j8]at a0 l4⊢;obtain⟨r0,r1,r2,r3⟩:=zE l4;clear j8 i4 g0;refine bodyPost_ret (v:=.tuple #[.agg #[.int .i64 (k:Int),.int .i64 0,.slice sf (exF d l q).length cf,.slice sn (exT d k l q).length cn],.slice sa l.length sc,.int .i64 0]) (by simp[results,Tryz.results97,go_sem,r0,r1,r2,r3]) rfl ?_
 have eF:exF d l q=(xY d k).final:=by
  rw[exF,m4.out,List.take_length,d5.out];rfl
 have eT:exT d k l q=(xY d k).next:=by
  rw[exT,m4.out,List.take_length,d5.out];rfl
 have h3:=h0.out;have o7:W.grownBy wf none:=zY h3.grown a0 (by show _<=o0;omega);have e4:yC wr 3 o0:=⟨_,_,_,h2.out,by decide⟩;have f8:(exF d l q).length=(exT d k l q).length:=by rw[qSJ (by omega),qIA (by omega)]
 have i8:=zB h3.box a0 (fun e=>H9 (Oj e));have l9:=h3.ownF.kept a0 (.inr (zO h3.ownF h2.out (by decide)));have l8:=h3.ownN.kept a0 (.inr (zO h3.ownN h2.out (by decide)));have k3:=(h3.rows.keptT a0 (fun k e=>by have e:o0=k:=Oj e;subst e;exact e4)).rowsT;have a6:=h3.num.own.kept a0 (.inr (zO h3.num.own h2.out (by decide)));have l3:(xY d k).letters=k:=HD.out.hk;rw[eF]at f8 i8 l9⊢;rw[eT]at f8 i8 l8 k3⊢;refine⟨_,sa,sc,by rw[<-d5.out],?_,by rw[<-d5.out];exact a6,o7⟩;exact⟨o2,hs,sf,cf,sn,cn,by rw[l3];rfl,b0,by rw[l3];exact i8,l9,l8,k3,f8⟩
end Go.Proofs.YtcoimliafiammaaGreat
namespace Go.Proofs.YtcoimliafiammaaGreat
open Go.RowKit
structure BX (W0 W:World)(o:Nat)(X:Nat->Prop)(k:Nat)(fs:List Bool)(t:List (List Int))(hs:List Value)(sf:Option Addr)(cf:Nat)(sn:Option Addr)(cn:Nat):Prop where
 lt:∀j,X j->j<W.heap.size
 box:W.heap[o]?=some (.cells #[.int .i64 (k:Int),.int .i64 0,.slice sf fs.length cf,.slice sn t.length cn] 30 (0,0))
 ownF:W.ownsRow o 4 1 (.slice sf fs.length cf) fs.length (bls fs)
 ownN:W.ownsRow o 22 1 (.slice sn t.length cn) t.length hs
 rows:uX X 3 ints W hs t
 lo:W0.heap.size<=o
 grown:W0.grownBy W none
section
variable {W0 W W':World} {o k:Nat} {X:Nat->Prop} {fs:List Bool} {t:List (List Int)} {hs:List Value} {sf:Option Addr} {cf:Nat} {sn:Option Addr} {cn:Nat}
theorem BX.start {w:World}{o k:Nat}(hb:w.heap[o]?=some (.cells #[.int .i64 (k:Int),.int .i64 0,.slice none 0 0,.slice none 0 0] 30 (0,0)))(h0:W0.heap.size<=o)(hg:W0.grownBy w none):BX W0 w o (fun _=>False) k [] [] [] none 0 none 0 :=
 ⟨fun _ h=>h.elim,hb,World.ownsRow_nil _ _ _ _,World.ownsRow_nil _ _ _ _,uX.nil,h0,hg⟩
theorem BX.grow (h:BX W0 W o X k fs t hs sf cf sn cn)(hg:W.grownBy W' none):BX W0 W' o X k fs t hs sf cf sn cn where
 lt:=fun j hj=>Nat.lt_of_lt_of_le (h.lt j hj) hg.size
 box:=zB h.box hg
 ownF:=zP h.ownF hg
 ownN:=zP h.ownN hg
 rows:=h.rows.keptT hg (by simp)
 lo:=h.lo
 grown:=zA h.grown hg
theorem BX.put (h:BX W0 W o X k fs t hs sf cf sn cn){g:Nat}{c:Array Value}{m:Nat×Nat}(hg:W.grownBy W' (some g))(hc:W.heap[g]?=some (.cells c 3 m))(hX:¬X g)(h0:W0.heap.size<=g):BX W0 W' o X k fs t hs sf cf sn cn where
 lt:=fun j hj=>Nat.lt_of_lt_of_le (h.lt j hj) hg.size
 box:=zB h.box hg (fun e=>by
  have:=Oj e
  subst this
  rw[h.box]at hc
  simp only[Option.some.injEq,Obj.cells.injEq]at hc
  exact absurd hc.2.1 (by decide))
 ownF:=h.ownF.kept hg (.inr (zO h.ownF hc (by decide)))
 ownN:=h.ownN.kept hg (.inr (zO h.ownN hc (by decide)))
 rows:=h.rows.kept (fun j hj=>hg.block j (h.lt j hj) (fun e=>by have:=Oj e;subst this;exact hX hj)) hg.size
 lo:=h.lo
 grown:=zA h.grown hg (fun j e=>by have:=Oj e;omega)
theorem BX.pushN (h:BX W0 W o X k fs t hs sf cf sn cn){m:Nat}(hm:t.length=m){rv:Value}{row:List Int}{a9:Option Addr}{a8:Nat}{Y:Nat->Prop}(a6:∀j,X j->Y j)(hY:∀j,Y j->j<W.heap.size)(ho:W'.ownsRow o 22 1 (.slice a9 (m+1) a8) (m+1) (hs++[rv]))(hg:W.grownBy W' (Value.slice sn m cn).ownBlock)(a7:RowX Y 3 W rv (ints row)){W2:World}(a5:W2=W'.setCell ⟨o,3,none⟩ (.slice a9 (m+1) a8)):BX W0 W2 o Y k fs (t++[row]) (hs++[rv]) sf cf a9 a8:=by
 subst hm;have hb:=zB h.box hg (zO h.ownN h.box (by decide));have h0:=heap_setCell_same W' o 3 _ _ (.slice a9 (t.length+1) a8) hb;have g2:=zD W' ⟨o,3,none⟩ (.slice a9 (t.length+1) a8);rw[<-a5]at h0 g2
 have h1:=h.ownF.kept hg (by
  rcases hv:(Value.slice sf fs.length cf).ownBlock with _|j
  ·exact .inl rfl
  refine .inr fun e=>?_;obtain⟨cu,e',mm,hh,h5⟩:=zZ (e':=22) h.ownF (by decide) j hv
  exact zO h.ownN hh (fun e2=>h5 e2.symm) e.symm)
 have h3:uX Y 3 ints W (hs++[rv]) (t++[row]):=(h.rows.mono a6).snoc a7;have h2:=h3.keptT hg (fun j e=>zZ h.ownN (by decide) j e);have h4:yC W' 3 o:=⟨_,_,_,hb,by decide⟩;have hz:=hg.size;have h6:=g2.size
 exact⟨fun j hj=>by have:=hY j hj;omega,by rw[h0];simp,h1.kept g2 (.inr (zO h1 hb (by decide))),by
  rw[List.length_append]
  exact ho.kept g2 (.inr (zO ho hb (by decide))),h2.keptT g2 (fun j e=>by have:=Oj e;subst this;exact h4),h.lo,zY (zA h.grown hg (fun j e=>Nat.le_trans h.lo (h.ownN.lt j e).1)) g2 (by show _<=o;have:=h.lo;omega)⟩
theorem BX.pushF (h:BX W0 W o X k fs t hs sf cf sn cn){m:Nat}(hm:fs.length=m){b:Bool}{a9:Option Addr}{a8:Nat}(ho:W'.ownsRow o 4 1 (.slice a9 (m+1) a8) (m+1) (bls fs++[.bool b]))(hg:W.grownBy W' (Value.slice sf m cf).ownBlock){W2:World}(a7:W2=W'.setCell ⟨o,2,none⟩ (.slice a9 (m+1) a8)):BX W0 W2 o X k (fs++[b]) t hs a9 a8 sn cn:=by
 subst hm;have hb:=zB h.box hg (zO h.ownF h.box (by decide));have h0:=heap_setCell_same W' o 2 _ _ (.slice a9 (fs.length+1) a8) hb;have g2:=zD W' ⟨o,2,none⟩ (.slice a9 (fs.length+1) a8);rw[<-a7]at h0 g2
 have h1:=h.ownN.kept hg (by
  rcases hv:(Value.slice sn t.length cn).ownBlock with _|j
  ·exact .inl rfl
  refine .inr fun e=>?_;obtain⟨cu,e',mm,hh,h4⟩:=zZ (e':=4) h.ownN (by decide) j hv
  exact zO h.ownF hh (fun e2=>h4 e2.symm) e.symm)
 have h2:=h.rows.keptT hg (fun j e=>zZ h.ownF (by decide) j e);have h3:yC W' 3 o:=⟨_,_,_,hb,by decide⟩;have hz:=hg.size;have h6:=g2.size;have h5:bls (fs++[b])=bls fs++[.bool b]:=by simp[bls]
 exact⟨fun j hj=>by have:=h.lt j hj;omega,by rw[h0];simp,by
  rw[List.length_append,h5]
  exact ho.kept g2 (.inr (zO ho hb (by decide))),h1.kept g2 (.inr (zO h1 hb (by decide))),h2.keptT g2 (fun j e=>by have:=Oj e;subst this;exact h3),h.lo,zY (zA h.grown hg (fun j e=>Nat.le_trans h.lo (h.ownF.lt j e).1)) g2 (by show _<=o;have:=h.lo;omega)⟩
theorem BX.built (h:BX W0 W o X k fs t hs sf cf sn cn)(hl:fs.length=t.length):Built o W o k 0 fs t hs sf cf sn cn:=⟨h.box,h.ownF,h.ownN,h.rows.rowsT,hl⟩
end
def tT (d:DfaV)(p:List Nat)(q:Nat):List Bool:=(tR p q).map fun q=>d.final.getD q false
def sY (d:DfaV)(p:List Nat)(q:Nat):List (List Int):=(tR p q).map fun q=>uJ p (d.next.getD q [])
theorem qMM {d:DfaV}{p:List Nat}{q:Nat}(h:p.getD q 0=cls (p.take q)):tT d p (q+1)=tT d p q++[d.final.getD q false]:=by
 rw[tT,uC h,List.map_append];rfl
theorem qMK {d:DfaV}{p:List Nat}{q:Nat}(h:p.getD q 0=cls (p.take q)):sY d p (q+1)=sY d p q++[uJ p (d.next.getD q [])]:=by
 rw[sY,uC h,List.map_append];rfl
theorem qML {d:DfaV}{p:List Nat}{q:Nat}(h:p.getD q 0≠cls (p.take q)):tT d p (q+1)=tT d p q:=by rw[tT,uB h];rfl
theorem qMJ {d:DfaV}{p:List Nat}{q:Nat}(h:p.getD q 0≠cls (p.take q)):sY d p (q+1)=sY d p q:=by rw[sY,uB h];rfl
theorem aJ {d:DfaV}{p:List Nat}{q:Nat}(h:Norm p)(hq:q<=p.length):(tT d p q).length=cls (p.take q):=by rw[tT,List.length_map,uL h q hq]
theorem aI {d:DfaV}{p:List Nat}{q:Nat}(h:Norm p)(hq:q<=p.length):(sY d p q).length=cls (p.take q):=by rw[sY,List.length_map,uL h q hq]
theorem qPY {d:DfaV}{p:List Nat}{q:Nat}(hq:q=p.length)(h0:p.getD (st0 d) 0=0):(⟨d.letters,0,tT d p q,sY d p q⟩:DfaV)=tO d p:=by
 rw[hq,tO,h0];rfl
theorem qRD {p:List Nat}(h:Norm p):p.getD 0 0=0:=by
 by_cases h0:0<p.length
 ·have:=(iC h h0).1
  rw[List.take_zero]at this;simpa [cls,yE] using this
 rw[List.getD,List.getElem?_eq_none (by omega)];rfl
theorem sK (B:Nat)(w:World)(v:Value)(d:DfaV)(hB:B<=w.heap.size)(h:tM B w v d):Calls Tryz.prog 21 #[v] w fun e w'=>e=.returned (.int .i64 (xK d))/\w.grownBy w' none:=by
 obtain⟨fv,nv,rfl,hf,hn⟩:=h;have a2:=hf.len_le;rw[yV]at a2;unfold maxLen at a2;have a5:=hn.len_le;unfold maxLen at a5;obtain⟨fa,fc,rfl⟩:=hf.shape;rw[yV]at hf⊢;obtain⟨na,nc,rfl⟩:=hn.shape;have HN:=Kh hn;obtain⟨n,a0⟩:=Nm d.final.length;obtain⟨m,a1⟩:=Nm d.next.length;obtain⟨L,hL⟩:=Nm d.letters;obtain⟨S,hS⟩:=Nm d.start;rw[<-a0]at a2⊢;rw[<-a1]at a5 HN⊢;rw[<-hL,<-hS];obtain⟨H0,H1,H8,b0⟩:=K4 a0 a1 hL hS;clear hf hn a0 a1 hL hS;obtain⟨wA,H6⟩:=Nm (w.alloc (.cells #[.int .i64 L,.int .i64 S,.slice fa n fc,.slice na m nc] 30));have h3:wA.heap[w.heap.size]?=some (.cells #[.int .i64 L,.int .i64 S,.slice fa n fc,.slice na m nc] 30 (0,0)):=by rw[H6];exact heap_alloc_new w _
 have a7:w.grownBy wA none:=by rw[H6];exact Ga w _ none
 have c0:=zJ h3 0;have c1:=zJ h3 1;have c2:=zJ h3 2;have c3:=zJ h3 3;simp only[sPd,sPe,sPf]at c0 c1 c2 c3;have h4:=Kh a7;have h9:=Kh H6;clear h3 a7 H6;by_cases hl:L<1\/6<L
 ·have HE:=Kh (kE (d:=d) (by rw[<-H8.out];exact hl))
  by_cases h1:L<1
  ·clear hl
   go_enter Tryz.func21,Tryz.ntmps21;go_upto_region 1 with fail;rw[<-h9.out];go_wp2;go_ret;exact⟨yA HE.out.symm,h4.out⟩
  have h6:6<L:=by omega
  clear hl;go_enter Tryz.func21,Tryz.ntmps21;go_upto_region 1 with fail;rw[<-h9.out];go_wp2;go_ret;exact⟨yA HE.out.symm,h4.out⟩
 have c7:1<=L:=by omega
 have c6:L<=6:=by omega
 have H2:Hid (¬(d.letters<1\/6<d.letters)):=Kh (by rw[<-H8.out];exact hl);clear hl;by_cases h5:512<n
 ·have HE:=Kh (bX H2.out (by rw[<-H0.out];exact h5))
  go_enter Tryz.func21,Tryz.ntmps21;go_upto_region 1 with fail;rw[<-h9.out];go_wp2;go_ret;exact⟨yA HE.out.symm,h4.out⟩
 have H5:Hid (¬512<d.final.length):=Kh (by rw[<-H0.out];exact h5);by_cases hsh:n=0\/m≠n\/S<0\/n<=S
 ·have HE:=Kh (gR H2.out H5.out (by rw[<-H0.out,<-H1.out,<-b0.out];exact hsh))
  ·by_cases h8:m=n
   ·have e1:((m:Int) != n)=false:=by rw[h8];simp
    have b7:=Kh h8;by_cases hs:S<0
    ·clear hsh h8
     go_enter Tryz.func21,Tryz.ntmps21;go_upto_region 1 with fail;rw[<-h9.out];go_wp2;go_ret;exact⟨yA HE.out.symm,h4.out⟩
    have b1:(n:Int)<=S:=by omega
    clear hsh h8;go_enter Tryz.func21,Tryz.ntmps21;go_upto_region 1 with fail;rw[<-h9.out];go_wp2;go_ret;exact⟨yA HE.out.symm,h4.out⟩
   have e1:((m:Int) != n)=true:=by rw[bne_iff_ne];omega
   clear hsh;go_enter Tryz.func21,Tryz.ntmps21;go_upto_region 1 with fail;rw[<-h9.out];go_wp2;go_ret;exact⟨yA HE.out.symm,h4.out⟩
 have H7:Hid (¬(d.final.length=0\/d.next.length≠d.final.length\/d.start<0\/d.final.length<=d.start)):=Kh (by rw[<-H0.out,<-H1.out,<-b0.out];exact hsh);have h0:0<n:=(by omega);have e0:((n:Int) == 0)=false:=by rw[beq_eq_false_iff_ne];omega
 have h8:m=n:=by omega
 have e1:((m:Int) != n)=false:=by rw[h8];simp
 have c4:0<=S:=by omega
 have b1:S<n:=(by omega);have b2:0<m:=(by omega);have a9:Mat B wA (.slice na m nc) d.next:=HN.out.kept h4.out (by simp);obtain⟨b,off,cap,A,C,e,b6,b5,a6⟩:=a9.some_ (by rw[<-H1.out];exact b2);simp only[Value.slice.injEq]at e;obtain⟨rfl,-,rfl⟩:=e;rw[<-H1.out]at b6;have c5:nc<=9223372036854775807:=by unfold maxLen at b5;omega
 have HM:=Kh a6;have b7:=Kh h8;clear hsh h8 a9 a6;go_enter Tryz.func21,Tryz.ntmps21;go_upto_region 1 with fail;rw[<-h9.out];go_wp2
 go_loopg [40] m (fun g i wr=>∃k:Nat,g+k=m/\i=.int .i64 k/\xCZ d k/\wA=wr)
 case atStart=>exact⟨0,rfl,rfl,fun x hx=>absurd hx (by omega),rfl⟩
 obtain⟨k,hg,rfl,H3,rfl⟩:=hrel;have OK:=Kh H3;have HG:=Kh hg;clear H3 hg;by_cases hk:k<m
 ·have H4:k<d.next.length:=by rw[<-H1.out];exact hk
  have a8:=HM.out.hd k H4;have h7:=HM.out.row k H4;have H9:=h7.len_le;rw[yF]at H9;unfold maxLen at H9;obtain⟨r,hr⟩:=Nm (d.next.getD k []);rw[<-hr]at a8 h7 H9;have HR:=Kh hr;have a3:=Kh H4;clear hr H4;by_cases hlr:(r.length:Int)=L
  ·have b8:=Kh hlr
   have b3:((r.length:Int) != L)=false:=by rw[hlr];simp
   obtain⟨rb,ro,rc,e,hb,h1,h2,a4⟩:=h7.some_ (by rw[yF];omega);simp only[Value.slice.injEq]at e;obtain⟨eA,-,rfl⟩:=e;rw[eA]at a8;rw[yF]at h1;have HA:=Kh eA;have RA:=Kh a4;clear eA a4 hlr h7;go_wp2
   go_loopg [51] r.length (fun g j wr'=>∃y:Nat,g+y=r.length/\j=.int .i64 y/\qYW n r y/\wA=wr')
   case atStart=>exact⟨0,rfl,rfl,fun x hx=>absurd hx (by omega),rfl⟩
   obtain⟨y,hg,rfl,H3,rfl⟩:=hrel;have OKY:=Kh H3;have b9:=Kh hg;clear H3 hg;by_cases hy:y<r.length
   ·have b4:=RA.out.int y hy
    obtain⟨z,hz⟩:=Nm (r.getD y 0);rw[<-hz]at b4;have HZ:=Kh hz;clear hz;by_cases hb1:z<0
    ·have HE:=Kh (qJ H2.out H5.out H7.out a3.out (by rw[<-HR.out];exact fU (y:=y) hy (by rw[<-HZ.out];exact .inl hb1)))
     go_wp2;go_ret;exact⟨yA HE.out.symm,h4.out⟩
    by_cases hb2:(n:Int)<=z
    ·have HE:=Kh (qJ H2.out H5.out H7.out a3.out (by rw[<-HR.out];exact fU (y:=y) hy (by rw[<-HZ.out,<-H0.out];exact .inr hb2)))
     go_wp2;go_ret;exact⟨yA HE.out.symm,h4.out⟩
    go_wp2;go_roundg (r.length-(y+1))
    case measure=>have:=b9.out;omega
    refine⟨y+1,by omega,by go_num,fun x hx=>?_,rfl⟩;rcases Nat.lt_succ_iff_lt_or_eq.1 hx with hx|rfl
    ·exact OKY.out x hx
    rw[<-HZ.out];omega
   go_wp2;go_roundg (m-(k+1))
   case measure=>have:=HG.out;omega
   refine⟨k+1,by omega,by go_num,fun x hx=>?_,rfl⟩;rcases Nat.lt_succ_iff_lt_or_eq.1 hx with hx|rfl
   ·exact OK.out x hx
   rw[<-HR.out,oY,<-H0.out,<-H8.out];exact⟨b8.out,fun z hz=>OKY.out z (by omega)⟩
  have b3:((r.length:Int) != L)=true:=by rw[bne_iff_ne];exact hlr
  have HE:=Kh (qJ H2.out H5.out H7.out a3.out (by rw[<-HR.out];exact qJL (by rw[<-H8.out];exact hlr)));clear hlr;go_wp2;go_ret;exact⟨yA HE.out.symm,h4.out⟩
 have HE:=Kh (qCZ H2.out H5.out H7.out (fun q hq=>OK.out q (by have:=H1.out;omega)));go_wp2;go_ret;exact⟨yA HE.out.symm,h4.out⟩
end Go.Proofs.YtcoimliafiammaaGreat
