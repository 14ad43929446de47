/- Part 4 of the proof. -/
import Derived.Test.YtobakifdllameaaGreatQd3
import Derived.Deep.OwnRows
set_option linter.unusedVariables false
set_option linter.unusedSimpArgs false
set_option maxRecDepth 100000
set_option maxHeartbeats 16000000
namespace Go.Proofs.YtobakifdllameaaGreat
open Go.RowKit
theorem RowT.shape {B:Nat}{e:TypeId}{w:World}{v:Value}{xs:List Value}(h:RowT B e w v xs):∃a cap,v=.slice a xs.length cap:=by
 rcases h with ⟨rfl,rfl⟩|⟨b,off,cap,cur,m,rfl,_⟩
 ·exact⟨none,0,rfl⟩
 exact⟨_,_,rfl⟩
theorem Mat.of_rows {w:World}{base e n:Nat}{v:Value}{hs:List Value}{t:List (List Int)}{B:Nat}(h:w.ownsRow base e 1 v n hs)(hr:tP B 3 ints w hs t)(hB:B<=w.heap.size):Mat w.heap.size w v t:=by
 have hl:hs.length=n:=by have:=h.1;omega
 have h3:=hr.1;rcases h.2 with ⟨rfl,rfl⟩|⟨g,cap,cur,rfl,hb,hg,hnc,hcm,hcs,htake⟩
 ·have:hs=[]:=List.eq_nil_of_length_eq_zero hl
  subst this;exact .inl ⟨_,_,rfl,List.eq_nil_of_length_eq_zero (by simpa using h3.symm)⟩
 have h0:∀x,∃a c,x<t.length->hs.getD x (.int .i64 0)=.slice a (t.getD x []).length c:=by
  intro x;by_cases hx:x<t.length
  ·have h1:=hr.2 x (by omega) hx
   obtain⟨a,c,e⟩:=h1.shape;refine⟨a,c,fun _=>?_⟩;rw[zN (by omega),e,zJ,zN hx]
  exact⟨none,0,fun h=>absurd h hx⟩
 obtain⟨A,hA⟩:=Classical.axiomOfChoice h0;obtain⟨C,hC⟩:=Classical.axiomOfChoice hA;refine .inr ⟨g,0,cap,A,C,?_,by omega,hcm,zR hg,zR hg,fun x hx=>?_,fun x hx=>?_⟩
 ·rw[show n=t.length by omega]
 ·rw[Nat.zero_add,h.cellAt x (by omega),List.getElem?_eq_getElem (by omega),<-hC x hx,zN (show x<hs.length by omega)]
 have h1:=hr.2 x (by omega) hx;have h2:=hC x hx;rw[zN (show x<hs.length by omega)]at h2;rw[<-h2,zN hx];exact h1.row.mono hB
theorem RowT.keptF {B:Nat}{e:TypeId}{w w':World}{v:Value}{xs:List Value}{F:Nat->Prop}(h:RowT B e w v xs)(hg:GrownBut w w' F)(hr:∀k,F k->B<=k\/xG w e k):RowT B e w' v xs:=by
 rcases h with h|⟨b,off,cap,cur,m,h1,h2,h3,h4,h5,h6⟩
 ·exact .inl h
 refine .inr ⟨b,off,cap,cur,m,h1,h2,h3,h4,hg.heap h5 (fun hf=>?_),h6⟩;rcases hr b hf with hk|⟨cur',e',m',hk,hne⟩
 ·omega
 rw[h5]at hk;simp at hk;exact hne hk.2.1.symm
theorem tP.keptF {α:Type}{B:Nat}{e:TypeId}{f:α->List Value}{w w':World}{a9:List Value}{ps:List α}{F:Nat->Prop}(h:tP B e f w a9 ps)(hg:GrownBut w w' F)(hr:∀k,F k->B<=k\/xG w e k):tP B e f w' a9 ps :=
 ⟨h.1,fun i h1 h2=>(h.2 i h1 h2).keptF hg hr⟩
theorem uF {w:World}{p e:Nat}{x0 x1 x2 x3:Value}(h:w.heap[p]?=some (.cells #[x0,x1,x2,x3] e (0,0)))(y0 y1 y2 y3:Value):((((w.setCell ⟨p,0,none⟩ y0).setCell ⟨p,1,none⟩ y1).setCell ⟨p,2,none⟩ y2).setCell ⟨p,3,none⟩ y3).heap[p]?=some (.cells #[y0,y1,y2,y3] e (0,0))/\w.grownBy ((((w.setCell ⟨p,0,none⟩ y0).setCell ⟨p,1,none⟩ y1).setCell ⟨p,2,none⟩ y2).setCell ⟨p,3,none⟩ y3) (some p):=by
 have s0:=heap_setCell_same w p 0 _ _ y0 h;have s1:=heap_setCell_same _ p 1 _ _ y1 s0;have s2:=heap_setCell_same _ p 2 _ _ y2 s1;have s3:=heap_setCell_same _ p 3 _ _ y3 s2;refine⟨by rw[s3];simp,?_⟩;exact zG (zG (zG (zF w ⟨p,0,none⟩ y0) (zF (w.setCell ⟨p,0,none⟩ y0) ⟨p,1,none⟩ y1)) (zF ((w.setCell ⟨p,0,none⟩ y0).setCell ⟨p,1,none⟩ y1) ⟨p,2,none⟩ y2)) (zF (((w.setCell ⟨p,0,none⟩ y0).setCell ⟨p,1,none⟩ y1).setCell ⟨p,2,none⟩ y2) ⟨p,3,none⟩ y3)
structure Built (base:Nat)(W:World)(o:Nat)(L S:Int)(fs:List Bool)(t:List (List Int))(hs:List Value)(sf:Option Addr)(cf:Nat)(sn:Option Addr)(cn:Nat):Prop where
 box:W.heap[o]?=some (.cells #[.int .i64 L,.int .i64 S,.slice sf fs.length cf,.slice sn t.length cn] 29 (0,0))
 ownF:W.ownsRow base 4 1 (.slice sf fs.length cf) fs.length (bls fs)
 ownN:W.ownsRow base 22 1 (.slice sn t.length cn) t.length hs
 rows:tP W.heap.size 3 ints W hs t
 len:fs.length=t.length
section
variable {base o:Nat} {W W':World} {L S:Int} {fs:List Bool} {t:List (List Int)} {hs:List Value} {sf sn:Option Addr} {cf cn:Nat}
theorem Built.grow (h:Built base W o L S fs t hs sf cf sn cn)(hg:W.grownBy W' none):Built base W' o L S fs t hs sf cf sn cn where
 box:=zB h.box hg
 ownF:=wK h.ownF hg (by simp)
 ownN:=wK h.ownN hg (by simp)
 rows:=(h.rows.kept hg (by simp)).mono hg.size
 len:=h.len
theorem Built.dfa (h:Built base W o L S fs t hs sf cf sn cn):tR W.heap.size W (.agg #[.int .i64 L,.int .i64 S,.slice sf fs.length cf,.slice sn t.length cn]) ⟨L,S,fs,t⟩ :=
 ⟨_,_,rfl,Row.of_owns h.ownF,Mat.of_rows h.ownN h.rows (Nat.le_refl _)⟩
theorem Built.far {r:Nat}{cs:Array Value}{m:Nat×Nat}(h:Built base W o L S fs t hs sf cf sn cn)(hg:W.grownBy W' (some r))(hr:W.heap[r]?=some (.cells cs 29 m))(a9:r≠o):Built base W' o L S fs t hs sf cf sn cn where
 box:=zB h.box hg (fun e=>a9 (Oj e))
 ownF:=h.ownF.kept hg (.inr (zV h.ownF hr (by decide)))
 ownN:=h.ownN.kept hg (.inr (zV h.ownN hr (by decide)))
 rows:=(h.rows.kept hg (fun k hk=>.inr (by have:=Oj hk;subst this;exact⟨_,_,_,hr,by decide⟩))).mono hg.size
 len:=h.len
theorem Built.congr {a9:List Bool}{t':List (List Int)}(h:Built base W o L S fs t hs sf cf sn cn)(e1:a9=fs)(e2:t'=t):Built base W o L S a9 t' hs sf cf sn cn:=by rw[e1,e2];exact h
def rN (base:Nat)(n:Nat)(hs:List Value)(sn:Option Addr)(cn:Nat):RowS:=⟨base,22,.slice sn n cn,n,hs,1⟩
def rF (base:Nat)(fs:List Bool)(sf:Option Addr)(cf:Nat):RowS:=⟨base,4,.slice sf fs.length cf,fs.length,bls fs,1⟩
theorem Built.apart (h:Built base W o L S fs t hs sf cf sn cn):∀k,(Value.slice sn t.length cn).ownBlock=some k->(Value.slice sf fs.length cf).ownBlock≠some k:=by
 intro k hk e;rcases h.ownF.2 with ⟨hv,_⟩|⟨g,cap,cur,hv,_,hg,_⟩
 ·rw[hv]at e;simp[Value.ownBlock]at e
 rw[hv]at e;have:g=k:=by simpa [Value.ownBlock] using e
 subst this;exact zV h.ownN hg (by decide) hk
def FB (sf:Option Addr)(sn:Option Addr)(k:Nat):Prop:=(Value.slice sn 0 0).ownBlock=some k\/(Value.slice sf 0 0).ownBlock=some k
theorem yI (s:Option Addr)(n c:Nat):(Value.slice s n c).ownBlock=(Value.slice s 0 0).ownBlock:=by cases s<;>rfl
theorem Built.many (h:Built base W o L S fs t hs sf cf sn cn):Many W (FB sf sn) W [rN base t.length hs sn cn,rF base fs sf cf] [] []:=by
 have:=Many.two (w:=W) (r:=rN base t.length hs sn cn) (s:=rF base fs sf cf) h.ownN h.ownF h.apart
 have e:(fun k=>(rN base t.length hs sn cn).v.ownBlock=some k\/(rF base fs sf cf).v.ownBlock=some k)=FB sf sn:=by
  funext k;simp only[rN,rF,FB,yI sn t.length,yI sf fs.length]
 rwa [e]at this
theorem Built.other (h:Built base W o L S fs t hs sf cf sn cn):∀k,FB sf sn k->xG W 3 k:=by
 intro k hk;rcases hk with hk|hk
 ·rw[<-yI sn t.length cn]at hk;exact vV h.ownN (by decide) k hk
 rw[<-yI sf fs.length cf]at hk;exact vV h.ownF (by decide) k hk
theorem Built.notbox (h:Built base W o L S fs t hs sf cf sn cn):¬FB sf sn o:=by
 rintro (hk|hk)
 ·rw[<-yI sn t.length cn]at hk;exact zV h.ownN h.box (by decide) hk
 rw[<-yI sf fs.length cf]at hk;exact zV h.ownF h.box (by decide) hk
theorem Built.ge (h:Built base W o L S fs t hs sf cf sn cn):∀k,FB sf sn k->base<=k:=by
 rintro k (hk|hk)
 ·rw[<-yI sn t.length cn]at hk;exact(h.ownN.lt k hk).1
 rw[<-yI sf fs.length cf]at hk;exact(h.ownF.lt k hk).1
theorem Built.push {m:Nat}{b:Bool}{row:List Int}{rv:Value}{a7 a9:Option Addr}{a6 a8:Nat}{ls:List (Nat×Obj)}{ps:List (Nat×TypeId×List Value)}(h:Built base W o L S fs t hs sf cf sn cn)(hm:t.length=m)(hM:Many W (FB sf sn) W' [⟨base,22,.slice a9 (m+1) a8,m+1,hs++[rv],1⟩,⟨base,4,.slice a7 (m+1) a6,m+1,bls fs++[.bool b],1⟩] ls ps)(a5:RowT W.heap.size 3 W rv (ints row)){W2:World}(a4:W2=(W'.setCell ⟨o,3,none⟩ (.slice a9 (m+1) a8)).setCell ⟨o,2,none⟩ (.slice a7 (m+1) a6)):Built base W2 o L S (fs++[b]) (t++[row]) (hs++[rv]) a7 a6 a9 a8/\∀w0:World,w0.grownBy W (some o)->w0.heap.size<=base->w0.grownBy W2 (some o):=by
 have h2:fs.length=m:=h.len.trans hm;have hN:=hM.own 0 _ rfl;have hF:=hM.own 1 _ rfl;simp only[]at hN hF;have h0:=hM.but.heap h.box h.notbox;have h1:=(h.rows.snoc a5).keptF hM.but (fun k hk=>.inr (h.other k hk));have s1:=heap_setCell_same W' o 3 _ _ (.slice a9 (m+1) a8) h0;have s2:=heap_setCell_same _ o 2 _ _ (.slice a7 (m+1) a6) s1;have g1:W'.grownBy W2 (some o):=by rw[a4];exact zG (zF W' ⟨o,3,none⟩ _) (zF (W'.setCell ⟨o,3,none⟩ (.slice a9 (m+1) a8)) ⟨o,2,none⟩ _)
 have h3:xG W' 3 o:=⟨_,_,_,h0,by decide⟩;refine⟨⟨?_,?_,?_,?_,by simp[h.len]⟩,fun w0 hw0 hb=>?_⟩
 ·rw[a4,s2]
  simp[h2,hm]
 ·have:=hF.kept g1 (.inr (zV hF h0 (by decide)))
  rw[List.length_append,h2];simpa [bls] using this
 ·have:=hN.kept g1 (.inr (zV hN h0 (by decide)))
  rw[List.length_append,hm];exact this
 ·exact(h1.kept g1 (fun k hk=>.inr (by have:=Oj hk;subst this;exact h3))).mono (Nat.le_trans hM.but.size g1.size)
 exact zG (hM.but.grown hw0 (fun k hk=>.inr (Nat.le_trans hb (h.ge k hk)))) g1
def tW (w w':World)(v:Value)(m:DfaV):Prop:=∃(o:Nat) (hs:List Value) (sf:Option Addr) (cf:Nat) (sn:Option Addr) (cn:Nat),
 v=.agg #[.int .i64 m.letters,.int .i64 m.start,.slice sf m.final.length cf,.slice sn m.next.length cn]/\w.heap.size<=o/\Built o w' o m.letters m.start m.final m.next hs sf cf sn cn
theorem tW.dfa {w w':World}{v:Value}{m:DfaV}(h:tW w w' v m):tR w'.heap.size w' v m:=by
 obtain⟨o,hs,sf,cf,sn,cn,rfl,_,hb⟩:=h;exact hb.dfa
theorem tW.grow {w w' a9:World}{v:Value}{m:DfaV}(h:tW w w' v m)(hg:w'.grownBy a9 none):tW w a9 v m:=by
 obtain⟨o,hs,sf,cf,sn,cn,h1,h2,hb⟩:=h;exact⟨o,hs,sf,cf,sn,cn,h1,h2,hb.grow hg⟩
theorem tW.old {w0 w w':World}{v:Value}{m:DfaV}(h:tW w w' v m)(hg:w0.heap.size<=w.heap.size):tW w0 w' v m:=by
 obtain⟨o,hs,sf,cf,sn,cn,h1,h2,hb⟩:=h;exact⟨o,hs,sf,cf,sn,cn,h1,Nat.le_trans hg h2,hb⟩
theorem tW.far {w w' a9:World}{v:Value}{m:DfaV}{r:Nat}{cs:Array Value}{mm:Nat×Nat}(h:tW w w' v m)(hg:w'.grownBy a9 (some r))(hr:w'.heap[r]?=some (.cells cs 29 mm))(a8:r<w.heap.size):tW w a9 v m:=by
 obtain⟨o,hs,sf,cf,sn,cn,h1,h2,hb⟩:=h;exact⟨o,hs,sf,cf,sn,cn,h1,h2,hb.far hg hr (by omega)⟩
end
def RowX (X:Nat->Prop)(e:TypeId)(w:World)(v:Value)(xs:List Value):Prop:=RowT w.heap.size e w v xs/\∀k,v.ownBlock=some k->X k
def xV (X:Nat->Prop)(w w':World):Prop:=∀k,X k->w'.heap[k]?=w.heap[k]?
theorem xV.trans {X:Nat->Prop}{a b c:World}(h:xV X a b)(h':xV X b c):xV X a c:=fun k hk=>(h' k hk).trans (h k hk)
theorem xV.refl (X:Nat->Prop)(w:World):xV X w w:=fun _ _=>rfl
theorem xV.cell {X:Nat->Prop}{w w':World}(h:xV X w w'){b i:Nat}(hb:X b){u:Value}(hc:w.cell? ⟨b,i,none⟩=some u):w'.cell? ⟨b,i,none⟩=some u:=(World.cell?_of_block (h b hb)).trans hc
theorem RowX.kept {X:Nat->Prop}{e:TypeId}{w w':World}{v:Value}{xs:List Value}(h:RowX X e w v xs)(hk:xV X w w')(hs:w.heap.size<=w'.heap.size):RowX X e w' v xs:=by
 refine⟨?_,h.2⟩;rcases h.1 with h1|⟨b,off,cap,cur,m,h1,h2,h3,h4,h5,h6⟩
 ·exact .inl h1
 exact .inr ⟨b,off,cap,cur,m,h1,by omega,h3,h4,(hk b (h.2 b (by rw[h1];rfl))).trans h5,h6⟩
theorem RowX.mono {X X':Nat->Prop}{e:TypeId}{w:World}{v:Value}{xs:List Value}(h:RowX X e w v xs)(hX:∀k,X k->X' k):RowX X' e w v xs:=⟨h.1,fun k hk=>hX k (h.2 k hk)⟩
theorem RowX.row {X:Nat->Prop}{e:TypeId}{w:World}{v:Value}{xs:List Value}(h:RowX X e w v xs):Row w.heap.size w v xs:=h.1.row
theorem RowX.of_owns {X:Nat->Prop}{w:World}{base e n:Nat}{v:Value}{xs:List Value}(h:w.ownsRow base e 1 v n xs)(hX:∀k,v.ownBlock=some k->X k):RowX X e w v xs:=⟨RowT.of_owns h,hX⟩
def xU {α:Type}(X:Nat->Prop)(e:TypeId)(f:α->List Value)(w:World)(hs:List Value)(ts:List α):Prop :=
 hs.length=ts.length/\∀i (h:i<hs.length) (h':i<ts.length),RowX X e w hs[i] (f ts[i])
section
variable {α:Type} {X X':Nat->Prop} {e:TypeId} {f:α->List Value} {w w':World} {hs:List Value} {ts:List α}
theorem xU.nil:xU X e f w [] []:=⟨rfl,fun i h=>by simp at h⟩
theorem xU.kept (h:xU X e f w hs ts)(hk:xV X w w')(a9:w.heap.size<=w'.heap.size):xU X e f w' hs ts:=⟨h.1,fun i h1 h2=>(h.2 i h1 h2).kept hk a9⟩
theorem xU.mono (h:xU X e f w hs ts)(hX:∀k,X k->X' k):xU X' e f w hs ts:=⟨h.1,fun i h1 h2=>(h.2 i h1 h2).mono hX⟩
theorem xU.snoc {v:Value}{t:α}(h:xU X e f w hs ts)(hv:RowX X e w v (f t)):xU X e f w (hs++[v]) (ts++[t]):=by
 refine⟨by simp[h.1],fun i h1 h2=>?_⟩;by_cases hi:i<hs.length
 ·rw[List.getElem_append_left hi]
  simp only[List.getElem_append_left (show i<ts.length by rw[<-h.1];exact hi)];exact h.2 i hi _
 have:i=hs.length:=by simp at h1;omega
 subst this;rw[List.getElem_append_right (Nat.le_refl _)];simp only[List.getElem_append_right (show ts.length<=hs.length by rw[h.1];exact Nat.le_refl _)];simpa [h.1] using hv
end
structure EMem (X:Nat->Prop)(W:World)(rs:List RowS):Prop where
 own:∀r∈rs,W.ownsRow r.base r.e r.sz r.v r.n r.xs
 apart:rs.Pairwise (fun r s=>∀k,r.v.ownBlock=some k->s.v.ownBlock≠some k)
 offX:∀r∈rs,∀k,r.v.ownBlock=some k->¬X k
 lt:∀k,X k->k<W.heap.size
def qE (rs:List RowS)(k:Nat):Prop:=∃r∈rs,r.v.ownBlock=some k
section
variable {X:Nat->Prop} {W W':World} {rs rs':List RowS}
theorem EMem.many (h:EMem X W rs)(F:Nat->Prop)(hF:∀k,qE rs k->F k):Many W F W rs [] []:=Many.start h.own (fun r hr k hk=>hF k ⟨r,hr,hk⟩) h.apart
theorem EMem.grow (h:EMem X W rs)(hg:W.grownBy W' none):EMem X W' rs:=⟨fun r hr=>zY (h.own r hr) hg,h.apart,h.offX,fun k hk=>Nat.lt_of_lt_of_le (h.lt k hk) hg.size⟩
theorem xV.of_grown {row:Option Nat}(a9:∀k,X k->k<W.heap.size)(hg:W.grownBy W' row)(hr:∀k,row=some k->¬X k):xV X W W':=fun k hk=>hg.block k (a9 k hk) (fun e=>hr k e.symm hk)
theorem EMem.keep (h:EMem X W rs)(hg:W.grownBy W' none):xV X W W':=xV.of_grown h.lt hg (by simp)
theorem EMem.after {F:Nat->Prop}{ls:List (Nat×Obj)}(h:EMem X W rs)(hM:Many W F W' rs' ls [])(hF:∀k,F k->¬X k):EMem X W' rs' where
 own:=fun r hr=>by
  obtain⟨i,hi,e⟩:=List.getElem_of_mem hr
  exact hM.own i r (by rw[List.getElem?_eq_getElem hi,e])
 apart:=by
  rw[List.pairwise_iff_getElem];intro i j hi hj h0;exact hM.apart i j _ _ (by omega) (List.getElem?_eq_getElem hi) (List.getElem?_eq_getElem hj)
 offX:=fun r hr k hk hx=>by
  obtain⟨i,hi,e⟩:=List.getElem_of_mem hr;rcases hM.mine i r (by rw[List.getElem?_eq_getElem hi,e]) k hk with hf|hf
  ·exact hF k hf hx
  ·have:=h.lt k hx;omega
 lt:=fun k hk=>Nat.lt_of_lt_of_le (h.lt k hk) hM.but.size
theorem EMem.keepMany {F:Nat->Prop}{ls:List (Nat×Obj)}(h:EMem X W rs)(hM:Many W F W' rs' ls [])(hF:∀k,F k->¬X k):xV X W W':=fun k hk=>hM.but.block k (h.lt k hk) (fun hf=>hF k hf hk)
theorem EMem.far (h:EMem X W rs){o:Nat}(hg:W.grownBy W' (some o))(hr:∀r∈rs,r.v.ownBlock≠some o):EMem X W' rs where
 own:=fun r hr'=>(h.own r hr').kept hg (.inr (hr r hr'))
 apart:=h.apart
 offX:=h.offX
 lt:=fun k hk=>Nat.lt_of_lt_of_le (h.lt k hk) hg.size
theorem EMem.retire {r:RowS}(h:EMem X W (rs++[r])):EMem (fun k=>X k\/r.v.ownBlock=some k) W rs where
 own:=fun s hs=>h.own s (List.mem_append_left _ hs)
 apart:=(List.pairwise_append.1 h.apart).1
 offX:=fun s hs k hk hx=>by
  rcases hx with hx|hx
  ·exact h.offX s (List.mem_append_left _ hs) k hk hx
  ·exact(List.pairwise_append.1 h.apart).2.2 s hs r (by simp) k hk hx
 lt:=fun k hx=>by
  rcases hx with hx|hx
  ·exact h.lt k hx
  ·exact((h.own r (by simp)).lt k hx).2
theorem EMem.fresh (h:EMem X W rs)(hg:W.grownBy W' none){Y:Nat->Prop}(hY:∀k,Y k->W.heap.size<=k/\k<W'.heap.size):EMem (fun k=>X k\/Y k) W' rs where
 own:=fun r hr=>zY (h.own r hr) hg
 apart:=h.apart
 offX:=fun r hr k hk hx=>by
  rcases hx with hx|hx
  ·exact h.offX r hr k hk hx
  ·have:=((h.own r hr).lt k hk).2
   have:=(hY k hx).1
   omega
 lt:=fun k hx=>by
  rcases hx with hx|hx
  ·exact Nat.lt_of_lt_of_le (h.lt k hx) hg.size
  ·exact(hY k hx).2
theorem EMem.add (h:EMem X W rs)(hg:W.grownBy W' none){r:RowS}(ho:W'.ownsRow r.base r.e r.sz r.v r.n r.xs)(hn:∀k,r.v.ownBlock=some k->W.heap.size<=k):EMem X W' (rs++[r]) where
 own:=fun s hs=>by
  rcases List.mem_append.1 hs with hs|hs
  ·exact zY (h.own s hs) hg
  ·rw[List.mem_singleton]at hs;subst hs;exact ho
 apart:=by
  rw[List.pairwise_append];refine⟨h.apart,by simp,fun s hs t ht k hk e=>?_⟩;rw[List.mem_singleton]at ht;subst ht;have:=((h.own s hs).lt k hk).2;have:=hn k e;omega
 offX:=fun s hs k hk hx=>by
  rcases List.mem_append.1 hs with hs|hs
  ·exact h.offX s hs k hk hx
  ·rw[List.mem_singleton]at hs;subst hs
   have:=h.lt k hx;have:=hn k hk;omega
 lt:=fun k hk=>Nat.lt_of_lt_of_le (h.lt k hk) hg.size
theorem EMem.nil (w:World):EMem (fun _=>False) w []:=⟨fun r hr=>by simp at hr,List.Pairwise.nil,fun r hr=>by simp at hr,fun k hk=>hk.elim⟩
end
theorem xU.rowsT {α:Type}{X:Nat->Prop}{e:TypeId}{f:α->List Value}{w:World}{hs:List Value}{ts:List α}(h:xU X e f w hs ts):tP w.heap.size e f w hs ts:=⟨h.1,fun i h3 h4=>(h.2 i h3 h4).1⟩
theorem EMem.appAt {X:Nat->Prop}{W W':World}{rs:List RowS}(h:EMem X W rs){j:Nat}{r:RowS}(hr:rs[j]?=some r){v':Value}{n':Nat}{us:List Value}(ho:W'.ownsRow r.base r.e r.sz v' n' (r.xs++us))(hg:W.grownBy W' r.v.ownBlock)(hm:jJ W W' r.v v'):EMem X W' (rs.set j ⟨r.base,r.e,v',n',r.xs++us,r.sz⟩) :=
 h.after ((h.many (qE rs) (fun _ h=>h)).append hr ho hg hm) (fun k hk=>by obtain⟨r,hr,hk⟩:=hk;exact h.offX r hr k hk)
theorem EMem.dropLast {X:Nat->Prop}{W:World}{rs:List RowS}{r:RowS}(h:EMem X W (rs++[r])):EMem X W rs:=⟨fun s hs=>h.own s (List.mem_append_left _ hs),(List.pairwise_append.1 h.apart).1,fun s hs=>h.offX s (List.mem_append_left _ hs),h.lt⟩
theorem Arr.rowT' {w:World}{g cap:Nat}{e:TypeId}{xs:List Value}(h:Arr w g e xs)(hc:xs.length<=cap)(hm:cap<=maxLen):RowT w.heap.size e w (.slice (some ⟨g,0,none⟩) xs.length cap) xs:=by
 have h1:=h.lt;obtain⟨cur,rest,hg,h0⟩:=h;refine .inr ⟨g,0,cap,cur,(0,0),rfl,h1,hc,hm,hg,fun i hi=>?_⟩;rw[Nat.zero_add,<-Array.getElem?_toList,h0,List.getElem?_append_left hi,List.getElem?_eq_getElem hi]
end Go.Proofs.YtobakifdllameaaGreat
namespace Go.Proofs.YtobakifdllameaaGreat
def acc (d:DfaV)(q:Nat)(w:List Nat):Bool:=d.final.getD (run d q w) false
theorem qOR {a b:Bool}(h:finB a=finB b):a=b:=by cases a<;>cases b<;>simp[finB]at h<;>rfl
section
variable {d:DfaV} {n k:Nat}
theorem oK (hd:VD d n k){q q':Nat}(hq:q<n)(a9:q'<n):(nM d).getD q 0=(nM d).getD q' 0↔d.final.getD q false=d.final.getD q' false:=by
 have hn:=hd.hn;rw[nM,nN (by rw[List.length_map];omega) (by rw[List.length_map];omega),List.getElem_map,List.getElem_map,<-zN (d:=false),<-zN (d:=false)];exact⟨qOR,fun h=>by rw[h]⟩
theorem jF (hd:VD d n k):∀m {q q':Nat},q<n->q'<n->(xI d k m).getD q 0=(xI d k m).getD q' 0->d.final.getD q false=d.final.getD q' false
 | 0,q,q',hq,hq',h=>(oK hd hq hq').1 h
 | m+1,q,q',hq,hq',h=>jF hd m hq hq' ((rE hd (by rw[xH,hd.hn]) (by rw[<-hd.hn];exact qAQ d k m) hq hq' k (Nat.le_refl _)).1 h).1
theorem eZ (hd:VD d n k):∀m {q q':Nat},q<n->q'<n->(xI d k m).getD q 0≠(xI d k m).getD q' 0->∃w,tS k w/\acc d q w≠acc d q' w
 | 0,q,q',hq,hq',h=>⟨[],fun a ha=>by simp at ha,fun e=>h ((oK hd hq hq').2 e)⟩
 | m+1,q,q',hq,hq',h=>by
  by_cases h1:(xI d k m).getD q 0=(xI d k m).getD q' 0
  ·have hx:¬∀a,a<k->(xI d k m).getD (nx d q a) 0=(xI d k m).getD (nx d q' a) 0:=fun ha=>h ((rE hd (by rw[xH,hd.hn]) (by rw[<-hd.hn];exact qAQ d k m) hq hq' k (Nat.le_refl _)).2 ⟨h1,ha⟩)
   obtain⟨a,ha⟩:=Classical.not_forall.1 hx
   obtain⟨ha,hne⟩:=Classical.not_imp.1 ha
   obtain⟨w,hw,e⟩:=eZ hd m (pB hd hq ha) (pB hd hq' ha) hne
   exact⟨a::w,fun b hb=>by
    rcases List.mem_cons.1 hb with rfl|hb
    ·exact ha
    ·exact hw b hb,e⟩
  ·exact eZ hd m hq hq' h1
theorem fJ (d:DfaV)(p:List Nat):st0 (uL d p)=p.getD (st0 d) 0:=by simp[st0,uL]
theorem jQ (hd:VD d n k){q:Nat}(hq:q<n){w:List Nat}(hw:tS k w):acc (uL d (yK d k)) ((yK d k).getD q 0) w=acc d q w:=by
 have hl:(yK d k).length=n:=by rw[vD,hd.hn]
 have hN:=uG d k;have hr:=qJF hd w hq hw;unfold acc;rw[aS hd hl hN (lE hd) w hq hw];have hc:=sC hN (show run d q w<(yK d k).length by omega);have hg:=pM hN hc;show ((reps (yK d k)).map fun q=>d.final.getD q false).getD _ false=_;rw[xZ (x:=0) (by rw[qZ hN];exact hc)];exact jF hd _ (by omega) hr hg.1
theorem qFQ (hd:VD d n k){c c':Nat}(hc:c<cls (yK d k))(a9:c'<cls (yK d k))(h:∀w,tS k w->acc (uL d (yK d k)) c w=acc (uL d (yK d k)) c' w):c=c':=by
 have hl:(yK d k).length=n:=by rw[vD,hd.hn]
 have hN:=uG d k;obtain⟨h1,h2⟩:=pM hN hc;obtain⟨h3,h4⟩:=pM hN a9;rw[hl]at h2 h4;rcases Decidable.em (c=c') with e|e
 ·exact e
 exfalso;obtain⟨w,hw,h0⟩:=eZ hd d.final.length h2 h4 (by rw[show xI d k d.final.length=yK d k from rfl,h1,h3];exact e);have a1:=jQ hd h2 hw;have a2:=jQ hd h4 hw;rw[h1]at a1;rw[h3]at a2;exact h0 (a1.symm.trans ((h w hw).trans a2))
theorem qMR (hd:VD d n k){w:List Nat}(hw:tS k w):acc (wR d k) 0 w=acc d (st0 d) w:=by
 have hA:=(wJ hd).1;have hr:=qJF (kQ hd) w (kQ hd).n1 hw;unfold acc;rw[iK hd hr,qFI hd w hA.hd.1 hw,hA.hd.2]
end
inductive Side (R:Nat->Nat->Prop):List Nat->List Nat->Prop
 | nil:Side R [] []
 | snoc {l l':List Nat} {q q':Nat}:Side R l l'->R q q'->Side R (l++[q]) (l'++[q'])
theorem Side.len {R:Nat->Nat->Prop}{l l':List Nat}(h:Side R l l'):l.length=l'.length:=by
 induction h with
 | nil=>rfl
 | snoc _ _ ih=>simp[ih]
theorem Side.get {R:Nat->Nat->Prop}{l l':List Nat}(h:Side R l l'):∀i,i<l.length->R (l.getD i 0) (l'.getD i 0):=by
 induction h with
 | nil=>intro i hi;simp at hi
 | @snoc l l' q q' hs hr ih =>
  intro i hi;have hl:=hs.len;simp at hi;by_cases e:i<l.length
  ·rw[pF (List.prefix_append _ _) e,pF (List.prefix_append _ _) (by omega)];exact ih i e
  have e1:i=l.length:=by omega
  subst e1;have a1:(l++[q]).getD l.length 0=q:=by simp[List.getD]
  have a2:(l'++[q']).getD l.length 0=q':=by rw[hl];simp[List.getD]
  rw[a1,a2];exact hr
structure One (R:Nat->Nat->Prop):Prop where
 l:∀ {q q' r'},R q q'->R q r'->q'=r'
 r:∀ {q r q'},R q q'->R r q'->q=r
theorem Side.mem {R:Nat->Nat->Prop}(hR:One R){l l':List Nat}(h:Side R l l'){q q':Nat}(hq:R q q'):q∈l↔q'∈l':=by
 have hl:=h.len;constructor
 ·intro hm
  obtain⟨i,hi,rfl⟩:=List.getElem_of_mem hm;have:=h.get i hi;rw[zN hi]at this;rw[hR.l hq this,zN (by omega)];exact List.getElem_mem _
 intro hm;obtain⟨i,hi,rfl⟩:=List.getElem_of_mem hm;have:=h.get i (by omega);rw[zN hi,zN (show i<l.length by omega)]at this;rw[hR.r hq this];exact List.getElem_mem _
theorem Side.add {R:Nat->Nat->Prop}(hR:One R){l l':List Nat}(h:Side R l l'){q q':Nat}(hq:R q q'):Side R (wP l q) (wP l' q'):=by
 unfold wP;by_cases e:q∈l
 ·rw[if_pos e,if_pos ((h.mem hR hq).1 e)];exact h
 rw[if_neg e,if_neg (fun e'=>e ((h.mem hR hq).2 e'))];exact .snoc h hq
theorem Side.idx {R:Nat->Nat->Prop}(hR:One R){l l':List Nat}(h:Side R l l')(hn:l.Nodup)(a9:l'.Nodup){q q':Nat}(hq:R q q')(hm:q∈l):l.idxOf q=l'.idxOf q':=by
 have hi:=List.idxOf_lt_length_of_mem hm;have hl:=h.len;have:=h.get _ hi;rw[zN hi,List.getElem_idxOf,zN (show l.idxOf q<l'.length by omega)]at this;have e:=hR.l hq this;have h0:=(h.mem hR hq).1 hm;have h1:=List.idxOf_lt_length_of_mem h0;have e2:l'[l'.idxOf q']=l'[l.idxOf q]'(by omega):=by rw[List.getElem_idxOf];exact e
 exact((List.getElem_inj a9).1 e2).symm
section
variable {x x':DfaV} {n n' k:Nat} {R:Nat->Nat->Prop}
theorem qFL (hR:One R)(hs:∀ {q q' a},R q q'->a<k->R (nx x q a) (nx x' q' a)){l l':List Nat}(h:Side R l l'){i:Nat}(hi:i<l.length):∀a,a<=k->Side R (vS x l i a) (vS x' l' i a)
 | 0,_=>h
 | a+1,ha=>(qFL hR hs h hi a (by omega)).add hR (hs (h.get i hi) (by omega))
theorem qJB (hR:One R)(hs:∀ {q q' a},R q q'->a<k->R (nx x q a) (nx x' q' a)):∀f i {l l':List Nat},Side R l l'->Side R (qK x k f i l) (qK x' k f i l')
 | 0,_,_,_,h=>h
 | f+1,i,l,l',h=>by
  rw[qK,qK,h.len]
  by_cases e:i<l'.length
  ·rw[if_pos e,if_pos e]
   exact qJB hR hs f (i+1) (qFL hR hs h (by rw[h.len];exact e) k (Nat.le_refl _))
  ·rw[if_neg e,if_neg e];exact h
end
theorem bU {d:DfaV}{n k:Nat}(hd:VD d n k):∀f i l m,AccI d n k i l->n<=i+f->qK d k (f+m) i l=qK d k f i l
 | 0,i,l,m,h,hf=>by
  have hl:=qN h.nd h.lt
  rw[dE (f:=0+m) (by omega),qK]
 | f+1,i,l,m,h,hf=>by
  rw[show f+1+m=(f+m)+1 by omega,qK,qK]
  by_cases e:i<l.length
  ·rw[if_pos e,if_pos e]
   exact bU hd f (i+1) _ m (h.row hd e) (by omega)
  ·rw[if_neg e,if_neg e]
theorem dD {d:DfaV}{n k:Nat}(hd:VD d n k)(m:Nat):qK d k (n+m) 0 [st0 d]=yJ d k:=by
 rw[yJ,hd.hn];exact bU hd n 0 _ m (AccI.start hd) (by omega)
theorem qGM {x x':DfaV}{n n' k:Nat}(hx:VD x n k)(a9:VD x' n' k)(hr:∀ {c c'},c<n->c'<n->(∀w,tS k w->acc x c w=acc x c' w)->c=c')(a8:∀ {c c'},c<n'->c'<n'->(∀w,tS k w->acc x' c w=acc x' c' w)->c=c')(hl:∀w,tS k w->acc x (st0 x) w=acc x' (st0 x') w):wR x k=wR x' k:=by
 obtain⟨R,h8⟩:∃R:Nat->Nat->Prop,∀q q',R q q'↔q<n/\q'<n'/\∀w,tS k w->acc x q w=acc x' q' w:=⟨fun q q'=>q<n/\q'<n'/\∀w,tS k w->acc x q w=acc x' q' w,fun _ _=>Iff.rfl⟩
 have hR:One R:=by
  refine⟨fun {q q' r'} h1 h2=>?_,fun {q r q'} h1 h2=>?_⟩
  ·obtain⟨_,h3,h4⟩:=(h8 _ _).1 h1
   obtain⟨_,h5,h6⟩:=(h8 _ _).1 h2;exact a8 h3 h5 (fun w hw=>(h4 w hw).symm.trans (h6 w hw))
  obtain⟨h3,_,h4⟩:=(h8 _ _).1 h1;obtain⟨h5,_,h6⟩:=(h8 _ _).1 h2;exact hr h3 h5 (fun w hw=>(h4 w hw).trans (h6 w hw).symm)
 have hs:∀ {q q' a},R q q'->a<k->R (nx x q a) (nx x' q' a):=fun {q q' a} h ha=>by
  obtain⟨h1,h2,h3⟩:=(h8 _ _).1 h
  exact(h8 _ _).2 ⟨pB hx h1 ha,pB a9 h2 ha,fun w hw=>h3 (a::w) (fun b hb=>by
   rcases List.mem_cons.1 hb with rfl|hb
   ·exact ha
   exact hw b hb)⟩
 have h0:R (st0 x) (st0 x'):=(h8 _ _).2 ⟨mP hx,mP a9,hl⟩
 have h7:Side R (yJ x k) (yJ x' k):=by
  have:=qJB (x:=x) (x':=x') (k:=k) hR hs (n+n') 0 (Side.snoc .nil h0);rw[List.nil_append,List.nil_append,dD hx n']at this;rw[Nat.add_comm n n',dD a9 n]at this;exact this
 have hA:=(wJ hx).1;have H2:=(wJ a9).1;have h9:=h7.len;have hm:∀i,i<(yJ x k).length->(yJ x k).getD i 0∈yJ x k:=fun i hi=>by rw[zN hi];exact List.getElem_mem _
 have key:∀i,i<(yJ x k).length->(wR x k).final.getD i false=(wR x' k).final.getD i false:=fun i hi=>by
  rw[iK hx hi,iK a9 (by omega)];obtain⟨_,_,h⟩:=(h8 _ _).1 (h7.get i hi);exact h [] (fun a ha=>by simp at ha)
 have hv:=kQ hx;have H0:=kQ a9;have e1:(wR x k).letters=(wR x' k).letters:=hx.hk.trans a9.hk.symm
 have e3:(wR x k).final=(wR x' k).final:=by
  refine List.ext_getElem (by rw[hv.hn,H0.hn,h9]) fun i h1 h2=>?_;have:=key i (by rw[hv.hn]at h1;exact h1);rw[zN h1,zN h2]at this;exact this
 have e4:(wR x k).next=(wR x' k).next:=by
  refine List.ext_getElem (by rw[hv.nl,H0.nl,h9]) fun i h1 h2=>?_;have hi:i<(yJ x k).length:=by rw[hv.nl]at h1;exact h1
  have r1:=hv.row i hi;have r2:=H0.row i (by omega);rw[zN h1]at r1;rw[zN h2]at r2;refine List.ext_getElem (by rw[r1,r2]) fun a h3 h4=>?_;have ha:a<k:=by omega
  have t1:=jM hx hi ha;have t2:=jM a9 (show i<(yJ x' k).length by omega) ha;have hq:=h7.get i hi;have H3:=(wJ hx).2;have H1:=hA.cl i a (by omega) hi ha;rw[h7.idx hR hA.nd H2.nd (hs hq ha) H1,<-t2]at t1;unfold ent at t1;rw[zN h1,zN h2,zN h3,zN h4]at t1;exact t1
 show (⟨_,0,(wR x k).final,(wR x k).next⟩:DfaV)=⟨_,0,(wR x' k).final,(wR x' k).next⟩;rw[e3,e4];exact congrArg (fun z=>(⟨z,0,(wR x' k).final,(wR x' k).next⟩:DfaV)) e1
theorem qCI {d d':DfaV}{n n' k:Nat}(hd:VD d n k)(a9:VD d' n' k)(h:∀w,tS k w->acc d (st0 d) w=acc d' (st0 d') w):minD d k=minD d' k:=by
 refine qGM (lT hd) (lT a9) (fun h1 h2=>qFQ hd h1 h2) (fun h1 h2=>qFQ a9 h1 h2) fun w hw=>?_;rw[fJ,fJ,jQ hd (mP hd) hw,jQ a9 (mP a9) hw];exact h w hw
theorem qNY {d:DfaV}{n k:Nat}(hd:VD d n k):minD (wR d k) k=minD d k:=qCI (kQ hd) hd (fun w hw=>by rw[show st0 (wR d k)=0 from rfl];exact qMR hd hw)
open Go.RowKit
def mR (letters:Int)(c:UInt8):Bool:=decide (97<=(c.toNat:Int)/\(c.toNat:Int)-97<letters)
def xQ (s:ByteArray)(letters:Int):Bool:=decide (1<=letters/\letters<=6/\s.size<=2048) && s.data.toList.all (mR letters)
theorem pL (s:ByteArray)(a9:Int)(k:Nat)(hk:k<s.size)(h:(s[k].toNat:Int)<97\/a9<=((s[k].toNat:Int)-97) % 256):xQ s a9=false:=by
 have hm:s[k]∈s.data.toList:=by
  have:s[k]=s.data[k]'(by simpa using hk):=rfl;rw[this];simp
 have h2:mR a9 s[k]=false:=by
  have:=UInt8.toNat_lt s[k];simp[mR];omega
 unfold xQ;rw[Bool.and_eq_false_iff];right;rw[List.all_eq_false];exact⟨_,hm,by simp[h2]⟩
theorem qGH (s:ByteArray)(a9:Int)(k:Nat)(hk:k<s.size)(h:(s.data.toList.take k).all (mR a9)=true)(h1:97<=(s[k].toNat:Int)/\((s[k].toNat:Int)-97) % 256<a9):(s.data.toList.take (k+1)).all (mR a9)=true:=by
 rw[List.take_succ_eq_append_getElem (by simpa using hk),List.all_append,h];have:s.data.toList[k]'(by simpa using hk)=s[k]:=rfl;have h3:=UInt8.toNat_lt s[k];simp[this,mR];omega
theorem jK (s:ByteArray)(a9:Int)(k:Nat)(hk:s.size<=k)(h:1<=a9/\a9<=6/\s.size<=2048)(ha:(s.data.toList.take k).all (mR a9)=true):xQ s a9=true:=by
 rw[List.take_of_length_le (by simpa using hk)]at ha;simp[xQ,ha,h]
theorem bV (s:ByteArray)(a9:Int)(w:World)(hs:s.size<=maxLen):Calls Tryz.prog 46 #[.string s,.int .i64 a9] w fun e w'=>e=.returned (.bool (xQ s a9))/\w=w':=by
 unfold maxLen at hs;by_cases h1:a9<1
 ·go_enter Tryz.func46,Tryz.ntmps46
  go_wp2;go_ret;exact⟨yT (by simp[xQ];omega),rfl⟩
 by_cases h2:6<a9
 ·go_enter Tryz.func46,Tryz.ntmps46
  go_wp2;go_ret;exact⟨yT (by simp[xQ];omega),rfl⟩
 by_cases h3:2048<s.size
 ·go_enter Tryz.func46,Tryz.ntmps46
  go_wp2;go_ret;exact⟨yT (by simp[xQ];omega),rfl⟩
 go_enter Tryz.func46,Tryz.ntmps46;go_wp2
 go_loop [19] (fun i=>∃k:Nat,k<=s.size/\i=.int .i64 k/\(s.data.toList.take k).all (mR a9)=true) (fun i=>s.size-(intOf i).toNat)
 case atStart=>exact⟨0,Nat.zero_le _,rfl,rfl⟩
 obtain⟨k,hk,rfl,h0⟩:=hrel;have HA:=Kh h0;clear h0;by_cases hlt:k<s.size
 ·go_wp2
  ·go_ret
   exact⟨yT (by rw[eq_comm];exact pL s a9 k hlt (by omega)),rfl⟩
  ·go_round
   case rel=>exact⟨k+1,by omega,by go_num,qGH s a9 k hlt HA.out (by omega)⟩
   simp[intOf];omega
  go_ret;exact⟨yT (by rw[eq_comm];exact pL s a9 k hlt (by omega)),rfl⟩
 go_wp2;go_ret;exact⟨yT (by rw[eq_comm];exact jK s a9 k (by omega) (by omega) HA.out),rfl⟩
def yS (s:ByteArray):List Nat:=s.data.toList.map fun c=>c.toNat-97
theorem vH (s:ByteArray):(yS s).length=s.size:=by simp[yS]
theorem qAI {s:ByteArray}{i:Nat}(h:i<s.size):(yS s).getD i 0=s[i].toNat-97:=by
 rw[zN (by rw[vH];exact h)];simp[yS];rfl
theorem bB {k:Nat}{c:UInt8}:mR (k:Int) c=true↔97<=c.toNat/\c.toNat-97<k:=by
 unfold mR;rw[decide_eq_true_eq];omega
theorem gH {s:ByteArray}{k:Nat}(h:xQ s (k:Int)=true):tS k (yS s)/\(∀i (hi:i<s.size),97<=s[i].toNat/\s[i].toNat-97<k)/\s.size<=2048:=by
 simp only[xQ,Bool.and_eq_true,decide_eq_true_eq,List.all_eq_true]at h;refine⟨fun a ha=>?_,fun i hi=>?_,h.1.2.2⟩
 ·obtain⟨c,hc,rfl⟩:=List.mem_map.1 ha
  exact(bB.1 (h.2 c hc)).2
 have hm:s[i]∈s.data.toList:=by
  have:s[i]=s.data.toList[i]'(by simpa using hi):=by simp;rfl
  rw[this];exact List.getElem_mem _
 exact bB.1 (h.2 _ hm)
theorem qSL {c:Nat}(h:97<=c)(h2:c<256):IntKind.u8.wrap ((c:Int)-97)=((c-97:Nat):Int):=by
 unfold IntKind.wrap;simp[IntKind.bits,IntKind.signed];omega
theorem dA {u:ByteArray}{k i:Nat}(h:∀i (hi:i<u.size),97<=u[i].toNat/\u[i].toNat-97<k)(hi:i<u.size):∃b a:Nat,(u[i].toNat:Int)=(b:Int)/\IntKind.u8.wrap ((b:Int)-97)=(a:Int)/\((b:Int)-97) % 256=(a:Int)/\a<k/\(yS u).getD i 0=a:=by
 have hb:=h i hi;have h0:u[i].toNat<256:=u[i].toNat_lt;exact⟨u[i].toNat,u[i].toNat-97,rfl,qSL hb.1 h0,by omega,hb.2,qAI hi⟩
end Go.Proofs.YtobakifdllameaaGreat
namespace Go.Proofs.YtobakifdllameaaGreat
def asN (n i p:Nat):Nat:=if n<i then n else i+(n-i) % p
def iN (c:CntV)(a:Nat):Nat:=(c.idx.getD a 0).toNat
def pN (c:CntV)(a:Nat):Nat:=(c.per.getD a 0).toNat
def atTo (c:CntV)(ns:List Nat):Nat->Nat
 | 0=>0
 | a+1=>atTo c ns a*(iN c a+pN c a)+asN (ns.getD a 0) (iN c a) (pN c a)
def xO (k:Nat)(u:List Nat):List Nat:=(List.range k).map fun a=>u.count a
theorem wU (k:Nat)(u:List Nat):(xO k u).length=k:=by simp[xO]
theorem oU {k a:Nat}{u:List Nat}(h:a<k):(xO k u).getD a 0=u.count a:=by
 rw[zN (by rw[wU];exact h)];simp[xO]
theorem iZ (k:Nat):xO k []=List.replicate k 0:=by
 refine List.ext_getElem (by simp[xO]) fun i h1 h2=>?_;simp[xO]
theorem eY {k a:Nat}{u:List Nat}:(xO k u).set a (u.count a+1)=xO k (u++[a]):=by
 refine List.ext_getElem (by simp[xO]) fun i h1 h2=>?_;rw[List.getElem_set];simp only[xO,List.getElem_map,List.getElem_range,List.count_append,List.count_singleton]
 split
 ·rename_i e;subst e;simp
 rename_i e;simp[e]
theorem qDJ {n i p:Nat}(hp:1<=p):asN n i p<i+p:=by
 unfold asN
 split
 ·omega
 have:=Nat.mod_lt (n-i) (show p > 0 by omega);omega
theorem qDI {c:CntV}(a9:PosC c.idx c.per)(ns:List Nat):∀(a m:Nat),a<=c.idx.length->vN c.idx c.per a=some m->atTo c ns a<m
 | 0,m,_,h=>by rw[vN]at h;have:=Oj h;subst this;simp[atTo]
 | a+1,m,ha,h=>by
  rw[vN]at h
  rcases hc:vN c.idx c.per a with _|x
  ·rw[hc]at h;cases h
  ·rw[hc]at h
   simp only at h
   have hp:=a9 a (by omega)
   have ih:=qDI a9 ns a x (by omega) hc
   split at h
   ·cases h
   ·have e:=Oj h
    have e2:(c.idx.getD a 0+c.per.getD a 0).toNat=iN c a+pN c a:=by unfold iN pN;omega
    rw[<-e,e2,atTo]
    have h1:=qDJ (n:=ns.getD a 0) (i:=iN c a) (p:=pN c a) (by unfold pN;omega)
    calc atTo c ns a*(iN c a+pN c a)+asN (ns.getD a 0) (iN c a) (pN c a)<atTo c ns a*(iN c a+pN c a)+(iN c a+pN c a):=by omega
     _=(atTo c ns a+1)*(iN c a+pN c a):=by rw[Nat.add_mul,Nat.one_mul]
     _<=x*(iN c a+pN c a):=Nat.mul_le_mul_right _ ih
theorem bR {idx per:List Int}{n m:Nat}(h:vN idx per n=some m):∀a,a<=n->∃x,vN idx per a=some x:=by
 intro a ha;rcases hc:vN idx per a with _|x
 ·have:=iY hc (n-a)
  rw[show a+(n-a)=n by omega,h]at this;cases this
 exact⟨x,rfl⟩
noncomputable def pR (c:CntV)(s:ByteArray):Bool:=decide (cntE c=0) && xQ s c.idx.length && c.acc.getD (atTo c (xO c.idx.length (yS s)) c.idx.length) false
theorem qCP {c:CntV}{s:ByteArray}(h:cntE c≠0):pR c s=false:=by rw[pR,decide_eq_false h];rfl
theorem bH {c:CntV}{s:ByteArray}(h:xQ s c.idx.length=false):pR c s=false:=by rw[pR,h];simp
theorem qCO {c:CntV}{s:ByteArray}(h:cntE c=0)(h2:xQ s c.idx.length=true):pR c s=c.acc.getD (atTo c (xO c.idx.length (yS s)) c.idx.length) false:=by rw[pR,h2,decide_eq_true h];rfl
theorem qLV {c:CntV}{ns:List Nat}{a i p:Nat}(hi:c.idx.getD a 0=(i:Int))(hp:c.per.getD a 0=(p:Int)):atTo c ns (a+1)=atTo c ns a*(i+p)+asN (ns.getD a 0) i p:=by
 rw[atTo,show iN c a=i by unfold iN;omega,show pN c a=p by unfold pN;omega]
theorem qNG {c:CntV}(h:CntOk c){a:Nat}(ha:a<c.idx.length):∃i p:Nat,c.idx.getD a 0=(i:Int)/\c.per.getD a 0=(p:Int)/\i<=2000/\1<=p/\p<=2000:=by
 have hp:=h.pos a ha;obtain⟨x,hx⟩:=bR h.size (a+1) (by omega);rw[vN]at hx
 split at hx
 ·cases hx
 split at hx
 ·cases hx
 exact⟨(c.idx.getD a 0).toNat,(c.per.getD a 0).toNat,by omega,by omega,by omega,by omega,by omega⟩
theorem qTF {c:CntV}(h:CntOk c)(ns:List Nat){a:Nat}(ha:a<=c.idx.length):atTo c ns a<=2000:=by
 obtain⟨x,hx⟩:=bR h.size a ha;have h1:=qDI h.pos ns a x ha hx;have h2:=qP hx;omega
def radN (c:CntV)(a:Nat):Nat:=iN c a+pN c a
def uS (r:Nat->Nat)(a:Nat):Nat->Nat
 | 0=>1
 | b+1=>if a<=b then uS r a b*r b else 1
theorem nK {r:Nat->Nat}{a:Nat}:∀ {b:Nat},b<=a->uS r a b=1
 | 0,_=>rfl
 | b+1,h=>by rw[uS,if_neg (by omega)]
theorem oJ {r:Nat->Nat}{a b:Nat}(h:a<=b):uS r a (b+1)=uS r a b*r b:=by rw[uS,if_pos h]
theorem sH {r:Nat->Nat}{a:Nat}:∀ {b:Nat},a<b->uS r a b=r a*uS r (a+1) b
 | 0,h=>by omega
 | b+1,h=>by
  rcases Nat.lt_or_ge a b with h1|h1
  ·rw[oJ (by omega),oJ (by omega),sH h1,Nat.mul_assoc]
  ·have e:a=b:=by omega
   subst e
   rw[oJ (Nat.le_refl _),nK (Nat.le_refl _),nK (Nat.le_refl _),Nat.one_mul,Nat.mul_one]
theorem eJ {r:Nat->Nat}{a:Nat}:∀ {b:Nat},(∀x,x<b->0<r x)->0<uS r a b
 | 0,_=>Nat.one_pos
 | b+1,h=>by
  rw[uS];split
  ·exact Nat.mul_pos (eJ (fun x hx=>h x (by omega))) (h b (by omega))
  ·exact Nat.one_pos
def stN (c:CntV)(a:Nat):Nat:=uS (radN c) (a+1) c.idx.length
def digN (c:CntV)(q a:Nat):Nat:=q / stN c a % radN c a
def nxtE (c:CntV)(d a:Nat):Nat:=if d+1=radN c a then iN c a else d+1
def qO (c:CntV)(q a:Nat):Nat:=q-digN c q a*stN c a+nxtE c (digN c q a) a*stN c a
section
variable {c:CntV}
theorem nJ (h:PosC c.idx c.per){a:Nat}(ha:a<c.idx.length):0<radN c a/\1<=pN c a:=by
 have:=h a ha;unfold radN iN pN;omega
theorem qGG (h:PosC c.idx c.per){a:Nat}(ha:a<c.idx.length)(n:Nat):asN n (iN c a) (pN c a)<radN c a:=qDJ (nJ h ha).2
theorem qGF {n i p:Nat}(h:n<i+p):asN n i p=n:=by
 unfold asN
 split
 ·rfl
 rw[Nat.mod_eq_of_lt (by omega)];omega
theorem qPO {n i p:Nat}(hp:1<=p):asN (n+1) i p=if asN n i p+1=i+p then i else asN n i p+1:=by
 unfold asN;by_cases h1:n<i
 ·rw[if_pos h1]
  by_cases h2:n+1<i
  ·rw[if_pos h2,if_neg (by omega)]
  have e:n+1=i:=by omega
  rw[if_neg h2,e,Nat.sub_self,Nat.zero_mod]
  split
  ·rfl
  rfl
 rw[if_neg h1,if_neg (by omega)];obtain⟨m,hm⟩:=Nm (n-i);rw[show n+1-i=m+1 by omega,<-hm];have h2:=Nat.mod_lt m (show p > 0 by omega);have h3:=Nat.add_mod m 1 p;by_cases h4:m % p+1=p
 ·rw[if_pos (by omega)]
  have:(m+1) % p=0:=by
   rw[h3];rcases Nat.lt_or_ge 1 p with h5|h5
   ·rw[Nat.mod_eq_of_lt h5,h4,Nat.mod_self]
   have e:p=1:=by omega
   subst e;rw[Nat.mod_one]
  omega
 rw[if_neg (by omega)]
 have:(m+1) % p=m % p+1:=by
  rw[h3,Nat.mod_eq_of_lt (show 1<p by omega),Nat.mod_eq_of_lt (by omega)]
 omega
theorem qTE (h:PosC c.idx c.per)(ns:List Nat){b:Nat}(hb:b<=c.idx.length):atTo c ns c.idx.length / uS (radN c) b c.idx.length=atTo c ns b:=by
 obtain⟨m,hm⟩:=Nm (c.idx.length-b)
 induction m generalizing b with
 | zero =>
  have e:b=c.idx.length:=by omega
  rw[e,nK (Nat.le_refl _),Nat.div_one]
 | succ m ih =>
  have h0:b<c.idx.length:=by omega
  rw[sH h0,Nat.mul_comm,<-Nat.div_div_eq_div_mul,ih (b:=b+1) (by omega) (by omega),atTo];have h1:=qGG h h0 (ns.getD b 0);show (atTo c ns b*radN c b+_) / radN c b=_;rw[Nat.mul_comm,Nat.mul_add_div (nJ h h0).1,Nat.div_eq_of_lt h1,Nat.add_zero]
theorem qTG (h:PosC c.idx c.per)(ns:List Nat){a:Nat}(ha:a<c.idx.length):digN c (atTo c ns c.idx.length) a=asN (ns.getD a 0) (iN c a) (pN c a):=by
 unfold digN stN;rw[qTE h ns (b:=a+1) ha,atTo];show (atTo c ns a*radN c a+_) % radN c a=_;rw[Nat.mul_comm,Nat.mul_add_mod,Nat.mod_eq_of_lt (qGG h ha _)]
theorem qLW (ns ms:List Nat){a:Nat}(he:∀b,b≠a->ns.getD b 0=ms.getD b 0):∀b,a<b->(atTo c ms b:Int)=atTo c ns b+((asN (ms.getD a 0) (iN c a) (pN c a):Int)-(asN (ns.getD a 0) (iN c a) (pN c a):Int))*uS (radN c) (a+1) b:=by
 have h0:∀b,b<=a->atTo c ms b=atTo c ns b:=by
  intro b
  induction b with
  | zero=>intro _;rfl
  | succ b ih=>intro hb;rw[atTo,atTo,ih (by omega),he b (by omega)]
 intro b
 induction b with
 | zero=>intro hb;omega
 | succ b ih =>
  intro hb;rcases Nat.lt_or_ge a b with h1|h1
  ·rw[atTo,atTo,he b (by omega),oJ (by omega)]
   have:=ih h1;rw[show iN c b+pN c b=radN c b from rfl];simp only[Int.natCast_add,Int.natCast_mul];rw[this];rw[Int.add_mul,Int.mul_assoc];omega
  have e:b=a:=by omega
  subst e;rw[atTo,atTo,h0 b (Nat.le_refl _),nK (Nat.le_refl _)];simp only[Int.natCast_add,Int.natCast_mul];omega
theorem bO {u:List Nat}{a b k:Nat}(hb:b<k):(xO k (u++[a])).getD b 0=(xO k u).getD b 0+if b=a then 1 else 0:=by
 rw[oU hb,oU hb,List.count_append];by_cases h:b=a
 ·subst h;simp
 have:[a].count b=0:=List.count_eq_zero.2 (by simpa using h);rw[this,if_neg h]
theorem qFB (h:PosC c.idx c.per){ns ms:List Nat}{a:Nat}(ha:a<c.idx.length)(he:∀b,b≠a->ns.getD b 0=ms.getD b 0)(h1:ms.getD a 0=ns.getD a 0+1):atTo c ms c.idx.length=qO c (atTo c ns c.idx.length) a:=by
 have e:=qLW (c:=c) ns ms he c.idx.length ha;have hd:=qTG h ns ha;have hp:=nJ h ha;unfold qO;rw[hd];rw[h1,qPO hp.2]at e;have hx:nxtE c (asN (ns.getD a 0) (iN c a) (pN c a)) a=if asN (ns.getD a 0) (iN c a) (pN c a)+1=iN c a+pN c a then iN c a else asN (ns.getD a 0) (iN c a) (pN c a)+1:=rfl
 rw[<-hx]at e
 have h0:asN (ns.getD a 0) (iN c a) (pN c a)*stN c a<=atTo c ns c.idx.length:=by
  rw[<-hd];unfold digN;have:=Nat.mod_le (atTo c ns c.idx.length / stN c a) (radN c a)
  calc _<=atTo c ns c.idx.length / stN c a*stN c a:=Nat.mul_le_mul_right _ this
   _<=_:=Nat.div_mul_le_self _ _
 generalize nxtE c (asN (ns.getD a 0) (iN c a) (pN c a)) a=x at e⊢
 generalize asN (ns.getD a 0) (iN c a) (pN c a)=d at e h0⊢
 have e2:(atTo c ms c.idx.length:Int)=atTo c ns c.idx.length+((x*stN c a:Nat):Int)-((d*stN c a:Nat):Int):=by
  rw[e,Int.sub_mul];simp only[Int.natCast_mul];show _=_+(x:Int)*(uS (radN c) (a+1) c.idx.length:Int)-(d:Int)*(uS (radN c) (a+1) c.idx.length:Int);omega
 omega
def dfaC (c:CntV):DfaV:=⟨c.idx.length,0,c.acc,(List.range c.acc.length).map fun q=>(List.range c.idx.length).map fun a=>(qO c q a:Int)⟩
theorem qAO {q:Nat}(hq:q<c.acc.length):(dfaC c).next.getD q []=(List.range c.idx.length).map fun a=>(qO c q a:Int):=by
 rw[zN (by simpa [dfaC] using hq)];simp[dfaC]
theorem fP {q a:Nat}(hq:q<c.acc.length)(ha:a<c.idx.length):ent (dfaC c).next q a=(qO c q a:Int):=by
 unfold ent;rw[qAO hq,zN (by simpa using ha)];simp
theorem qBP {idx per:List Int}(hp:PosC idx per):∀ {a m:Nat},a<=idx.length->vN idx per a=some m->uS (fun b=>(idx.getD b 0).toNat+(per.getD b 0).toNat) 0 a=m
 | 0,m,_,h=>by rw[vN]at h;exact Oj h
 | a+1,m,ha,h=>by
  rw[vN]at h
  rcases hc:vN idx per a with _|x
  ·rw[hc]at h;cases h
  ·rw[hc]at h
   simp only at h
   split at h
   ·cases h
   ·rw[oJ (by omega),qBP hp (by omega) hc]
    have:=hp a (by omega)
    rw[<-Oj h]
    congr 1
    omega
theorem aU (h:CntOk c):uS (radN c) 0 c.idx.length=c.acc.length:=qBP h.pos (Nat.le_refl _) h.size
theorem qFA (h:CntOk c){q:Nat}(hq:q<c.acc.length):atTo c ((List.range c.idx.length).map (digN c q)) c.idx.length=q:=by
 have key:∀b,b<=c.idx.length->atTo c ((List.range c.idx.length).map (digN c q)) b=q / uS (radN c) b c.idx.length:=by
  intro b
  induction b with
  | zero =>
   intro _;rw[aU h,Nat.div_eq_of_lt hq];rfl
  | succ b ih =>
   intro hb;have hp:=nJ h.pos (a:=b) (by omega);have hg:((List.range c.idx.length).map (digN c q)).getD b 0=digN c q b:=by rw[zN (by simp;omega)];simp
   have h0:digN c q b<radN c b:=Nat.mod_lt _ hp.1;rw[atTo,ih (by omega),hg,qGF h0,sH (show b<c.idx.length by omega),Nat.mul_comm (radN c b),<-Nat.div_div_eq_div_mul];show q / stN c b / radN c b*radN c b+q / stN c b % radN c b=_;have:=Nat.div_add_mod (q / stN c b) (radN c b);rw[Nat.mul_comm]at this;exact this
 rw[key _ (Nat.le_refl _),nK (Nat.le_refl _),Nat.div_one]
theorem qKJ (h:CntOk c){q a:Nat}(hq:q<c.acc.length)(ha:a<c.idx.length):qO c q a<c.acc.length:=by
 obtain⟨ns,h0⟩:=Nm ((List.range c.idx.length).map (digN c q));have hl:ns.length=c.idx.length:=by rw[h0];simp
 have h1:=qFB h.pos (ns:=ns) (ms:=ns.set a (ns.getD a 0+1)) ha (fun b hb=>by rw[List.getD_eq_getElem?_getD,List.getD_eq_getElem?_getD,List.getElem?_set_ne (fun e=>hb e.symm)]) (by rw[List.getD_eq_getElem?_getD,List.getElem?_set_self (by omega)];rfl);rw[h0,qFA h hq,<-h0]at h1;rw[<-h1];exact qDI h.pos _ _ _ (Nat.le_refl _) h.size
theorem pW (h:CntOk c):VD (dfaC c) c.acc.length c.idx.length:=by
 have h0:0<c.acc.length:=by
  rw[<-aU h];exact eJ (fun x hx=>(nJ h.pos hx).1)
 have h2:=qP h.size;refine⟨rfl,h.k1,h.k6,rfl,by omega,by omega,by simp[dfaC],by simp[dfaC],by show (0:Int)<_;omega,fun q hq=>by rw[qAO hq];simp,fun q a hq ha=>by rw[fP hq ha];omega,fun q a hq ha=>by rw[fP hq ha];have:=qKJ h hq ha;omega⟩
theorem qOZ (h:CntOk c):∀(n:Nat) (u:List Nat),u.length=n->tS c.idx.length u->run (dfaC c) 0 u=atTo c (xO c.idx.length u) c.idx.length:=by
 intro n
 induction n with
 | zero =>
  intro u hn _;obtain rfl:=List.eq_nil_of_length_eq_zero hn;rw[iZ]
  have:∀b,b<=c.idx.length->atTo c (List.replicate c.idx.length 0) b=0:=by
   intro b
   induction b with
   | zero=>intro _;rfl
   | succ b ih =>
    intro hb;have hp:=nJ h.pos (a:=b) (by omega);have hg:(List.replicate c.idx.length 0).getD b 0=0:=by rw[zN (by simp;omega)];simp
    rw[atTo,ih (by omega),hg,qGF (show 0<iN c b+pN c b from hp.1),Nat.zero_mul]
  rw[this _ (Nat.le_refl _)];rfl
 | succ n ih =>
  intro u' hn hu
  obtain⟨u,a,rfl⟩:∃u a,u'=u++[a]:=by
   rcases List.eq_nil_or_concat u' with rfl|⟨u,a,e⟩
   ·simp at hn
   exact⟨u,a,by simpa using e⟩
  have h2:u.length=n:=by simpa using hn
  have h0:tS c.idx.length u:=fun b hb=>hu b (List.mem_append_left _ hb);have ha:a<c.idx.length:=hu a (by simp);have e:run (dfaC c) 0 (u++[a])=nx (dfaC c) (run (dfaC c) 0 u) a:=by unfold run;rw[List.foldl_append];rfl
  rw[e,ih u h2 h0];have h3:=qDI h.pos (xO c.idx.length u) _ _ (Nat.le_refl _) h.size
  have e2:nx (dfaC c) (atTo c (xO c.idx.length u) c.idx.length) a=qO c (atTo c (xO c.idx.length u) c.idx.length) a:=by
   unfold nx entN;rw[fP h3 ha,Int.toNat_natCast]
  rw[e2];refine(qFB h.pos ha (fun b hb=>?_) ?_).symm
  ·rcases Nat.lt_or_ge b c.idx.length with h1|h1
   ·rw[bO h1,if_neg hb];rfl
   rw[List.getD_eq_getElem?_getD,List.getD_eq_getElem?_getD,List.getElem?_eq_none (by rw[wU];exact h1),List.getElem?_eq_none (by rw[wU];exact h1)]
  rw[bO ha,if_pos rfl]
def digW (c:CntV)(q:Nat):List Nat:=(List.range c.idx.length).flatMap fun a=>List.replicate (digN c q a) a
theorem qLL (q:Nat):tS c.idx.length (digW c q):=fun x hx=>by
 obtain⟨a,ha,h⟩:=List.mem_flatMap.1 hx
 rw[List.eq_of_mem_replicate h];exact List.mem_range.1 ha
theorem qOW (q:Nat):xO c.idx.length (digW c q)=(List.range c.idx.length).map (digN c q):=by
 refine List.ext_getElem (by simp[xO]) fun b h1 h2=>?_;rw[wU]at h1;simp only[xO,List.getElem_map,List.getElem_range]
 have key:∀n,n<=c.idx.length->((List.range n).flatMap fun a=>List.replicate (digN c q a) a).count b=if b<n then digN c q b else 0:=by
  intro n
  induction n with
  | zero=>intro _;simp
  | succ n ih =>
   intro hn;rw[List.range_succ,List.flatMap_append,List.count_append,ih (by omega)];simp only[List.flatMap_cons,List.flatMap_nil,List.append_nil,List.count_replicate];by_cases e:n=b
   ·subst e;simp
   have e2:¬b=n:=fun h=>e h.symm;rcases Nat.lt_or_ge b n with h3|h3
   ·simp[h3,show b<n+1 by omega,e]
   simp[show ¬b<n by omega,show ¬b<n+1 by omega,e]
 unfold digW;rw[key _ (Nat.le_refl _),if_pos h1]
theorem qHU (h:CntOk c){q:Nat}(hq:q<c.acc.length):∃u,tS c.idx.length u/\run (dfaC c) 0 u=q :=
 ⟨digW c q,qLL q,by rw[qOZ h _ _ rfl (qLL q),qOW,qFA h hq]⟩
end
open Go.RowKit
theorem qQF (n:Nat)(h:n<=4096):∀w:World,(Instr.makeSlice 22 (.int .i64 (n:Int)) (.int .i64 (n:Int))).run Tryz.prog w=.ok (.slice (some ⟨w.heap.size,0,none⟩) n n) (w.alloc (.cells (madeCells #[.int .i64 0] n) 3)) :=
 fun w=>run_make_row' 22 3 (.int .i64 0) 8 Tryz.underlying22 (by kernel_rfl) rfl .i64 .i64 n (by omega) (by omega) w
theorem qAH (n:Nat):(madeCells #[.int .i64 0] n).toList=nats (List.replicate n 0):=by
 have:=pE (z:=.int .i64 0) rfl n;rw[Nat.mul_one]at this;rw[yN];exact this
end Go.Proofs.YtobakifdllameaaGreat
namespace Go.Proofs.YtobakifdllameaaGreat
def kH (d:DfaV)(p:List Nat)(q x:Nat):List Nat:=(p.getD q 0::(List.range x).map fun a=>p.getD (nx d q a) 0)++List.replicate (6-x) 0
theorem mQ {d:DfaV}{p:List Nat}{q x:Nat}(h:x<=6):(kH d p q x).length=7:=by simp[kH];omega
theorem qIZ {d:DfaV}{p:List Nat}{q x:Nat}(h:x<6):(kH d p q x).set (1+x) (p.getD (nx d q x) 0)=kH d p q (x+1):=by
 unfold kH;rw[List.set_append_right _ _ (by simp;omega),List.range_succ,List.map_append,show 6-x=(6-(x+1))+1 by omega,List.replicate_succ];simp[Nat.add_comm]
theorem qMY {d:DfaV}{p:List Nat}{q x N:Nat}(h:∀c∈p,c<N)(hN:0<N):∀y∈kH d p q x,y<N:=by
 intro y hy;rcases List.mem_append.1 hy with hy|hy
 ·rcases List.mem_cons.1 hy with rfl|hy
  ·exact sV h hN
  obtain⟨a,_,rfl⟩:=List.mem_map.1 hy;exact sV h hN
 rw[List.mem_replicate]at hy;omega
theorem qJA {d:DfaV}{p:List Nat}{q q' k:Nat}:kH d p q k=kH d p q' k↔p.getD q 0=p.getD q' 0/\∀a,a<k->p.getD (nx d q a) 0=p.getD (nx d q' a) 0:=by
 unfold kH;constructor
 ·intro h
  have h:=List.append_cancel_right h;rw[List.cons.injEq,List.map_inj_left]at h;exact⟨h.1,fun a ha=>h.2 a (List.mem_range.2 ha)⟩
 rintro ⟨h1,h2⟩;rw[h1,List.map_congr_left (fun a ha=>h2 a (List.mem_range.1 ha))]
def sigL (d:DfaV)(k:Nat)(p:List Nat):List (List Nat):=(List.range p.length).map fun q=>kH d p q k
theorem kR (d:DfaV)(k:Nat)(p:List Nat):(sigL d k p).length=p.length:=by simp[sigL]
theorem aK {d:DfaV}{k:Nat}{p:List Nat}{q:Nat}(h:q<p.length):(sigL d k p)[q]'(by rw[kR];exact h)=kH d p q k:=by simp[sigL]
theorem qIX {d:DfaV}{n k:Nat}(hd:VD d n k){p:List Nat}(hp:p.length=n)(hn:Norm p):numb (sigL d k p)=tH d p k:=by
 have h0:∀c∈p,c<n:=by have:=pV hn;rwa [hp]at this
 have hl:=kR d k p;refine jS (mS _) (lS hn k) ⟨by rw[yW,hl,xM],fun i j hi hj=>?_⟩;rw[yW,hl]at hi hj;rw[nN (by omega) (by omega),aK hi,aK hj,qJA,rE hd hp h0 (by omega) (by omega) k (Nat.le_refl _)]
theorem bD {α:Type}[DecidableEq α]{l:List α}{k:Nat}(hk:k<l.length):(numb l).getD k 0=if l[k]∈yQ (l.take k) then (yQ (l.take k)).idxOf l[k] else (yQ (l.take k)).length:=by
 rw[zN (by rw[yW];exact hk),pP hk,<-qCB hk,List.take_succ_eq_append_getElem hk,sD];by_cases h:l[k]∈yQ (l.take k)
 ·rw[tD h,if_pos h]
 rw[vO h,if_neg h,List.idxOf_append,if_neg h];simp
theorem jB {α:Type}[DecidableEq α]{l:List α}{k:Nat}(hk:k<l.length):yQ (l.take (k+1))=wP (yQ (l.take k)) l[k]:=by
 rw[List.take_succ_eq_append_getElem hk,sD]
theorem qGB {α:Type}[DecidableEq α](l:List α):cls (numb l)=(yQ l).length:=by
 unfold cls numb;rw[dJ _ _ (fun x hx y _ h=>qCV (xX.2 hx) h),List.length_map]
def uI (d:DfaV)(q:Nat):List Nat:=(List.range q).map fun i=>if d.final.getD i false=d.final.getD 0 false then 0 else 1
def fstC (d:DfaV)(q:Nat):Nat:=if (uI d q).all (· == 0) then 1 else 2
def fstF (d:DfaV)(n q:Nat):List Nat:=uI d q++List.replicate (n-q) 0
theorem kY {d:DfaV}{n q:Nat}(h:q<=n):(fstF d n q).length=n:=by simp[fstF,uI];omega
theorem qLB {d:DfaV}{n q:Nat}(h:q<n)(e:d.final.getD q false=d.final.getD 0 false):fstF d n (q+1)=fstF d n q/\fstC d (q+1)=fstC d q:=by
 have h1:uI d (q+1)=uI d q++[0]:=by
  simp only[uI,List.range_succ,List.map_append,List.map_cons,List.map_nil,if_pos e]
 constructor
 ·unfold fstF
  rw[h1,show n-q=(n-(q+1))+1 by omega,List.replicate_succ,List.append_assoc];rfl
 unfold fstC;rw[h1,List.all_append];simp
theorem qLC {d:DfaV}{n q:Nat}(h:q<n)(e:d.final.getD q false≠d.final.getD 0 false):fstF d n (q+1)=(fstF d n q).set q 1/\fstC d (q+1)=2:=by
 have h1:uI d (q+1)=uI d q++[1]:=by
  simp only[uI,List.range_succ,List.map_append,List.map_cons,List.map_nil,if_neg e]
 have hl:(uI d q).length=q:=by simp[uI]
 constructor
 ·unfold fstF
  rw[h1,List.set_append_right _ _ (by omega),hl,Nat.sub_self,show n-q=(n-(q+1))+1 by omega,List.replicate_succ,List.set_cons_zero,List.append_assoc];rfl
 unfold fstC;rw[h1,List.all_append];simp
theorem qLA {d:DfaV}{n k:Nat}(hd:VD d n k):uI d n=nM d/\fstC d n=cls (nM d):=by
 have hl:(uI d n).length=n:=by simp[uI]
 have hg:∀i,i<n->(uI d n).getD i 0=if d.final.getD i false=d.final.getD 0 false then 0 else 1:=fun i hi=>by
  rw[zN (by omega)];simp[uI]
 have h8:∀i j,i<n->j<n->((uI d n).getD i 0=(uI d n).getD j 0↔(nM d).getD i 0=(nM d).getD j 0):=fun i j hi hj=>by
  rw[hg i hi,hg j hj,oK hd hi hj];cases d.final.getD i false<;>cases d.final.getD j false<;>cases d.final.getD 0 false<;>simp
 have H4:=pO d;have h9:=hd.n1
 have h6:Norm (uI d n):=by
  unfold Norm;have h0:(uI d n).getD 0 0=0:=by rw[hg 0 (by omega),if_pos rfl]
  refine List.ext_getElem (yW _) fun i h1 h2=>?_;have hi:i<n:=by omega
  rw[pP h2]
  have key:∀m,0<m->m<=n->yQ ((uI d n).take m)=if (∃j,j<m/\(uI d n).getD j 0=1) then [0,1] else [0]:=by
   intro m hm H7
   induction m with
   | zero=>omega
   | succ m ih =>
    have H0:m<(uI d n).length:=(by omega);rw[jB H0,<-zN (d:=0) H0];have h7:(uI d n).getD m 0=0\/(uI d n).getD m 0=1:=by rw[hg m (by omega)];split<;>simp
    by_cases hm0:m=0
    ·subst hm0
     rw[h0]
     have:¬∃j,j<0+1/\(uI d n).getD j 0=1:=by
      rintro ⟨j,hj,e⟩;have:j=0:=by omega
      subst this;omega
     rw[if_neg this];rfl
    rw[ih (by omega) (by omega)];by_cases hex:∃j,j<m/\(uI d n).getD j 0=1
    ·have h5:∃j,j<m+1/\(uI d n).getD j 0=1:=hex.imp fun j h=>⟨by omega,h.2⟩
     rw[if_pos hex,if_pos h5];rcases h7 with e|e<;>rw[e]<;>rfl
    rw[if_neg hex];rcases h7 with e|e
    ·have h5:¬∃j,j<m+1/\(uI d n).getD j 0=1:=by
      rintro ⟨j,hj,e2⟩;rcases Nat.lt_succ_iff_lt_or_eq.1 hj with hj|rfl
      ·exact hex ⟨j,hj,e2⟩
      ·omega
     rw[if_neg h5,e];rfl
    rw[if_pos ⟨m,by omega,e⟩,e];rfl
  have hk:=key n (by omega) (Nat.le_refl _);rw[show (uI d n).take n=uI d n by rw[List.take_of_length_le (by omega)]]at hk;rw[hk];have h7:(uI d n).getD i 0=0\/(uI d n).getD i 0=1:=by rw[hg i hi];split<;>simp
  rw[zN h2]at h7;rcases h7 with e|e
  ·rw[e];split<;>rfl
  rw[e,if_pos ⟨i,hi,by rw[zN h2,e]⟩];rfl
 have H1:uI d n=nM d:=jS h6 (iS d) ⟨by rw[hl,H4,hd.hn],fun i j hi hj=>h8 i j (by omega) (by omega)⟩;refine⟨H1,?_⟩;rw[<-H1];unfold fstC;by_cases ha:(uI d n).all (· == 0)=true
 ·rw[if_pos ha]
  have:uI d n=List.replicate n 0:=by
   refine List.eq_replicate_iff.2 ⟨hl,fun x hx=>?_⟩;simpa using List.all_eq_true.1 ha x hx
  rw[this]
  have h1:(yQ (List.replicate n 0)) ⊆ [0]:=fun x hx=>by
   have:=xX.1 hx;rw[List.mem_replicate]at this;simp[this.2]
  have h2:=(sX (List.replicate n 0)).length_le_of_subset h1;have h3:=jE (p:=List.replicate n 0) (by simp;omega);unfold cls at h3⊢;simp at h2;omega
 rw[if_neg ha]
 have h1:yQ (uI d n) ⊆ [0,1]:=fun x hx=>by
  obtain⟨i,_,rfl⟩:=List.mem_map.1 (xX.1 hx)
  split<;>simp
 have h2:=(sX (uI d n)).length_le_of_subset h1
 have h9:∃x∈uI d n,x≠0:=by
  apply Classical.byContradiction;intro H5
  exact ha (List.all_eq_true.2 fun x hx=>by
   have:x=0:=Classical.byContradiction fun h=>H5 ⟨x,hx,h⟩
   simp[this])
 obtain⟨x,hx,H3⟩:=h9
 have H2:x=1:=by
  obtain⟨i,_,rfl⟩:=List.mem_map.1 hx
  split at H3
  ·omega
  rename_i h;rw[if_neg h]
 have H6:0∈uI d n:=by
  rw[uI,List.mem_map];exact⟨0,List.mem_range.2 (by omega),if_pos rfl⟩
 have h3:[0,1] ⊆ yQ (uI d n):=fun y hy=>by
  simp only[List.mem_cons,List.not_mem_nil,or_false]at hy;rcases hy with rfl|rfl
  ·exact xX.2 H6
  exact xX.2 (H2 ▸ hx)
 have h4:=(show [0,1].Nodup by decide).length_le_of_subset h3;unfold cls;simp at h2 h4;omega
theorem qLR {d:DfaV}{n k:Nat}(hd:VD d n k)(m:Nat):numb (sigL d k (xI d k m))=xI d k (m+1):=qIX hd (by rw[xH,hd.hn]) (tN d k m)
theorem qHW {d:DfaV}{n k:Nat}(hd:VD d n k){m:Nat}(hm:m<=n)(h:cls (xI d k (m+1))=cls (xI d k m)):xI d k (m+1)=yK d k:=by
 have e:tH d (xI d k m) k=xI d k m:=Classical.byContradiction fun hne=>by
  have:=nH hd (by rw[xH,hd.hn]) (tN d k m) hne;rw[xI]at h;omega
 rw[pX (by rw[hd.hn];exact hm) e,xI,e]
theorem qHX {d:DfaV}{n k:Nat}(hd:VD d n k){m:Nat}(h:cls (xI d k (m+1))≠cls (xI d k m)):cls (xI d k m)<cls (xI d k (m+1)):=by
 have e:tH d (xI d k m) k≠xI d k m:=fun e=>h (by rw[xI,e]);exact nH hd (by rw[xH,hd.hn]) (tN d k m) e
theorem qPD {d:DfaV}{n k:Nat}(hd:VD d n k)(m:Nat):cls (xI d k m)<=n:=by
 have:=cls_le (xI d k m)
 rwa [xH,hd.hn]at this
section
variable {d:DfaV} {n k:Nat}
structure SeqI (d:DfaV)(n k:Nat)(p:List Nat):Prop where
 len:p.length=n
 norm:Norm p
 fin:∀i j,i<n->j<n->p.getD i 0=p.getD j 0->d.final.getD i false=d.final.getD j false
 co:∀i j,i<n->j<n->(yK d k).getD i 0=(yK d k).getD j 0->p.getD i 0=p.getD j 0
theorem rJ (hd:VD d n k):(yK d k).length=n:=by rw[vD,hd.hn]
theorem qAR (hd:VD d n k){i j:Nat}(hi:i<n)(hj:j<n)(h:(yK d k).getD i 0=(yK d k).getD j 0):∀a,a<k->(yK d k).getD (nx d i a) 0=(yK d k).getD (nx d j a) 0:=by
 have h0:∀c∈yK d k,c<n:=by have:=pV (uG d k);rwa [rJ hd]at this
 have h1:=rE hd (rJ hd) h0 hi hj k (Nat.le_refl _);rw[lE hd]at h1;exact(h1.1 h).2
theorem dL (hd:VD d n k){i j:Nat}(hi:i<n)(hj:j<n)(h:(yK d k).getD i 0=(yK d k).getD j 0):d.final.getD i false=d.final.getD j false:=jF hd _ hi hj h
theorem SeqI.start (hd:VD d n k):SeqI d n k (nM d) :=
 ⟨by rw[pO,hd.hn],iS d,fun i j hi hj h=>(oK hd hi hj).1 h,fun i j hi hj h=>(oK hd hi hj).2 (dL hd hi hj h)⟩
def tY (d:DfaV)(p:List Nat)(a:Nat):List Nat:=fE p (rL d p a)
theorem qY (hd:VD d n k){p:List Nat}(hp:p.length=n)(hN:Norm p){a i j:Nat}(hi:i<n)(hj:j<n):(tY d p a).getD i 0=(tY d p a).getD j 0↔p.getD i 0=p.getD j 0/\p.getD (nx d i a) 0=p.getD (nx d j a) 0:=by
 have h1:∀c∈p,c<n:=by have:=pV hN;rwa [hp]at this
 have h0:=hd.n1;rw[tY,qDH (by rw[xS]) (fun c hc=>?_) (by omega) (by omega),oT (by omega),oT (by omega)];rw[hp];simp only[rL,List.mem_map,List.mem_range]at hc;obtain⟨q,hq,rfl⟩:=hc;exact sV h1 (by omega)
theorem rW (d:DfaV)(p:List Nat)(a:Nat):(tY d p a).length=p.length:=by rw[tY,gV (xS d p a)]
theorem SeqI.step (hd:VD d n k){p:List Nat}(h:SeqI d n k p){a:Nat}(ha:a<k):SeqI d n k (tY d p a) :=
 ⟨by rw[rW,h.len],mS _,fun i j hi hj e=>h.fin i j hi hj ((qY hd h.len h.norm hi hj).1 e).1,fun i j hi hj e=>(qY hd h.len h.norm hi hj).2 ⟨h.co i j hi hj e,h.co _ _ (pB hd hi ha) (pB hd hj ha) (qAR hd hi hj e a ha)⟩⟩
theorem eC (hd:VD d n k){p:List Nat}(hp:p.length=n)(hN:Norm p)(a:Nat):cls p<=cls (tY d p a)/\(cls p=cls (tY d p a)->tY d p a=p):=by
 obtain⟨h1,h2⟩:=qAP (p:=p) (q:=tY d p a) (rW d p a) (fun i j hi hj e=>((qY hd hp hN (by omega) (by omega)).1 e).1);refine⟨h1,fun e=>jS (mS _) hN ⟨rW d p a,fun i j hi hj=>?_⟩⟩;rw[rW]at hi hj;exact⟨fun e1=>((qY hd hp hN (by omega) (by omega)).1 e1).1,fun e1=>h2 e i j hi hj e1⟩
def kT (d:DfaV)(p:List Nat):Nat->List Nat
 | 0=>p
 | a+1=>tY d (kT d p a) a
theorem SeqI.to (hd:VD d n k){p:List Nat}(h:SeqI d n k p):∀a,a<=k->SeqI d n k (kT d p a)
 | 0,_=>h
 | a+1,ha=>(SeqI.to hd h a (by omega)).step hd (by omega)
theorem eB (hd:VD d n k){p:List Nat}(h:SeqI d n k p):∀a,a<=k->cls p<=cls (kT d p a)
 | 0,_=>Nat.le_refl _
 | a+1,ha=>Nat.le_trans (eB hd h a (by omega)) (eC hd (h.to hd a (by omega)).len (h.to hd a (by omega)).norm a).1
theorem dY (hd:VD d n k){p:List Nat}(h:SeqI d n k p):∀a,a<=k->cls (kT d p a)=cls p->kT d p a=p/\∀b,b<a->tY d p b=p
 | 0,_,_=>⟨rfl,fun b hb=>by omega⟩
 | a+1,ha,e=>by
  have hI:=h.to hd a (by omega)
  have h1:=eB hd h a (by omega)
  have h2:=eC hd hI.len hI.norm a
  have e2:cls (kT d p (a+1))=cls (tY d (kT d p a) a):=rfl
  obtain⟨h3,h4⟩:=dY hd h a (by omega) (by omega)
  have h5:=h2.2 (by omega)
  rw[h3]at h5
  refine⟨by show tY d (kT d p a) a=p;rw[h3,h5],fun b hb=>?_⟩
  rcases Nat.lt_succ_iff_lt_or_eq.1 hb with hb|rfl
  ·exact h4 b hb
  ·exact h5
theorem SeqI.stable (hd:VD d n k){p:List Nat}(h:SeqI d n k p)(hs:∀a,a<k->tY d p a=p):p=yK d k:=by
 have h0:∀i j,i<n->j<n->p.getD i 0=p.getD j 0->∀a,a<k->p.getD (nx d i a) 0=p.getD (nx d j a) 0:=fun i j hi hj e a ha=>by
  have:=qY hd h.len h.norm (a:=a) hi hj;rw[hs a ha]at this;exact(this.1 e).2
 have key:∀m i j,i<n->j<n->p.getD i 0=p.getD j 0->(xI d k m).getD i 0=(xI d k m).getD j 0:=by
  intro m
  induction m with
  | zero=>exact fun i j hi hj e=>(oK hd hi hj).2 (h.fin i j hi hj e)
  | succ m ih =>
   intro i j hi hj e;exact(rE hd (by rw[xH,hd.hn]) (by rw[<-hd.hn];exact qAQ d k m) hi hj k (Nat.le_refl _)).2 ⟨ih i j hi hj e,fun a ha=>ih _ _ (pB hd hi ha) (pB hd hj ha) (h0 i j hi hj e a ha)⟩
 refine jS h.norm (uG d k) ⟨by rw[h.len,rJ hd],fun i j hi hj=>?_⟩;rw[h.len]at hi hj;exact⟨fun e=>key _ i j hi hj e,fun e=>h.co i j hi hj e⟩
theorem qNZ (hd:VD d n k)(hr:∀q,q<n->∃w,tS k w/\run d (st0 d) w=q):minN d k=cls (yK d k):=by
 have hq:=lT hd;obtain⟨hA,h6⟩:=wJ hq;have hl:=rJ hd;have hN:=uG d k;refine Nat.le_antisymm h6 ?_
 have h7:∀(w:List Nat) (q:Nat),q∈yJ (uL d (yK d k)) k->tS k w->run (uL d (yK d k)) q w∈yJ (uL d (yK d k)) k:=by
  intro w
  induction w with
  | nil=>exact fun q hq _=>hq
  | cons a w ih =>
   intro q h5 hw;obtain⟨j,hj,e⟩:=List.getElem_of_mem h5;have h1:=hA.cl j a (by omega) hj (hw a (by simp));rw[zN hj,e]at h1;exact ih _ h1 (fun b hb=>hw b (List.mem_cons_of_mem _ hb))
 have h0:st0 (uL d (yK d k))∈yJ (uL d (yK d k)) k:=by
  rw[<-hA.hd.2,zN hA.hd.1];exact List.getElem_mem _
 have h4:∀c,c<cls (yK d k)->c∈yJ (uL d (yK d k)) k:=fun c hc=>by
  obtain⟨h1,h2⟩:=pM hN hc;rw[hl]at h2;obtain⟨w,hw,e⟩:=hr _ h2;have h3:=h7 w _ h0 hw;rw[fJ,aS hd hl hN (lE hd) w (mP hd) hw,e,h1]at h3;exact h3
 have:=(List.nodup_range (n:=cls (yK d k))).length_le_of_subset (fun c hc=>h4 c (List.mem_range.1 hc));simpa [minN] using this
theorem SeqI.cls_le (hd:VD d n k){p:List Nat}(h:SeqI d n k p):cls p<=cls (yK d k) :=
 (qAP (p:=p) (q:=yK d k) (by rw[h.len,rJ hd]) (fun i j hi hj e=>h.co i j (by rw[<-h.len];exact hi) (by rw[<-h.len];exact hj) e)).1
theorem minQ (hd:VD d n k):minD (uL d (yK d k)) k=minD d k:=by
 refine qCI (lT hd) hd fun w hw=>?_;rw[fJ,jQ hd (mP hd) hw]
end
end Go.Proofs.YtobakifdllameaaGreat
