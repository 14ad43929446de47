/- Part 6 of the proof. -/
import Derived.Test.YtjfdomfendbhfaaQf5
import Derived.WalkSpells
set_option linter.unusedVariables false
set_option linter.unusedSimpArgs false
set_option maxRecDepth 100000
set_option maxHeartbeats 16000000
namespace Go.Proofs.Ytjfdomfendbhfaa
open Go.RowKit
theorem RowT.shape {B:Nat}{e:TypeId}{w:World}{v:Value}{xs:List Value}(h:RowT B e w v xs):∃ a cap,v=.slice a xs.length cap:=by
 rcases h with ⟨rfl,rfl⟩|⟨b,off,cap,cur,m,rfl,_⟩
 ·exact⟨none,0,rfl⟩
 ·exact⟨_,_,rfl⟩
theorem Mat.of_rows {w:World}{base e n:Nat}{v:Value}{hs:List Value}{t:List (List Int)}{B:Nat}(h:w.ownsRow base e 1 v n hs)(hr:xY B 3 ints w hs t)(hB:B<=w.heap.size):Mat w.heap.size w v t:=by
 have hl:hs.length=n:=by have:=h.1;omega
 have h3:=hr.1;rcases h.2 with ⟨rfl,rfl⟩|⟨g,cap,cur,rfl,hb,hg,hnc,hcm,hcs,htake⟩
 ·have:hs=[]:=List.eq_nil_of_length_eq_zero hl
  subst this;exact .inl ⟨_,_,rfl,List.eq_nil_of_length_eq_zero (by simpa using h3.symm)⟩
 ·have h0:∀ x,∃ a c,x<t.length->hs.getD x (.int .i64 0)=.slice a (t.getD x []).length c:=by
   intro x;by_cases hx:x<t.length
   ·have h1:=hr.2 x (by omega) hx
    obtain⟨a,c,e⟩:=h1.shape;refine⟨a,c,fun _=>?_⟩;rw[zG (by omega),e,yE,zG hx]
   ·exact⟨none,0,fun h=>absurd h hx⟩
  obtain⟨A,hA⟩:=Classical.axiomOfChoice h0;obtain⟨C,hC⟩:=Classical.axiomOfChoice hA;refine .inr ⟨g,0,cap,A,C,?_,by omega,hcm,zI hg,zI hg,fun x hx=>?_,fun x hx=>?_⟩
  ·rw[show n=t.length by omega]
  ·rw[Nat.zero_add,h.cellAt x (by omega),List.getElem?_eq_getElem (by omega),<- hC x hx,zG (show x<hs.length by omega)]
  ·have h1:=hr.2 x (by omega) hx
   have h2:=hC x hx;rw[zG (show x<hs.length by omega)]at h2;rw[<- h2,zG hx];exact h1.row.mono hB
theorem RowT.keptF {B:Nat}{e:TypeId}{w w':World}{v:Value}{xs:List Value}{F:Nat->Prop}(h:RowT B e w v xs)(hg:GrownBut w w' F)(hr:∀ k,F k->B<=k\/yF w e k):RowT B e w' v xs:=by
 rcases h with h|⟨b,off,cap,cur,m,h1,h2,h3,h4,h5,h6⟩
 ·exact .inl h
 ·refine .inr ⟨b,off,cap,cur,m,h1,h2,h3,h4,hg.heap h5 (fun hf=>?_),h6⟩
  rcases hr b hf with hk|⟨cur',e',m',hk,hne⟩
  ·omega
  ·rw[h5]at hk;simp at hk;exact hne hk.2.1.symm
theorem xY.keptF {α:Type}{B:Nat}{e:TypeId}{f:α->List Value}{w w':World}{svs:List Value}{ps:List α}{F:Nat->Prop}(h:xY B e f w svs ps)(hg:GrownBut w w' F)(hr:∀ k,F k->B<=k\/yF w e k):xY B e f w' svs ps :=
 ⟨h.1,fun i h1 h2=>(h.2 i h1 h2).keptF hg hr⟩
theorem xI {w:World}{p e:Nat}{x0 x1 x2 x3:Value}(h:w.heap[p]?=some (.cells #[x0,x1,x2,x3] e (0,0)))(y0 y1 y2 y3:Value):
  ((((w.setCell ⟨p,0,none⟩ y0).setCell ⟨p,1,none⟩ y1).setCell ⟨p,2,none⟩ y2).setCell ⟨p,3,none⟩ y3).heap[p]?=some (.cells #[y0,y1,y2,y3] e (0,0))/\w.grownBy ((((w.setCell ⟨p,0,none⟩ y0).setCell ⟨p,1,none⟩ y1).setCell ⟨p,2,none⟩ y2).setCell ⟨p,3,none⟩ y3) (some p):=by
 have s0:=heap_setCell_same w p 0 _ _ y0 h;have s1:=heap_setCell_same _ p 1 _ _ y1 s0;have s2:=heap_setCell_same _ p 2 _ _ y2 s1;have s3:=heap_setCell_same _ p 3 _ _ y3 s2;refine⟨by rw[s3];simp,?_⟩;exact zD (zD (zD (zC w ⟨p,0,none⟩ y0) (zC (w.setCell ⟨p,0,none⟩ y0) ⟨p,1,none⟩ y1)) (zC ((w.setCell ⟨p,0,none⟩ y0).setCell ⟨p,1,none⟩ y1) ⟨p,2,none⟩ y2)) (zC (((w.setCell ⟨p,0,none⟩ y0).setCell ⟨p,1,none⟩ y1).setCell ⟨p,2,none⟩ y2) ⟨p,3,none⟩ y3)
structure Built (base:Nat)(W:World)(o:Nat)(L S:Int)(fs:List Bool)(t:List (List Int))(hs:List Value)(sf:Option Addr)(cf:Nat)(sn:Option Addr)(cn:Nat):Prop where
 box:W.heap[o]?=some (.cells #[.int .i64 L,.int .i64 S,.slice sf fs.length cf,.slice sn t.length cn] 42 (0,0))
 ownF:W.ownsRow base 4 1 (.slice sf fs.length cf) fs.length (bls fs)
 ownN:W.ownsRow base 34 1 (.slice sn t.length cn) t.length hs
 rows:xY W.heap.size 3 ints W hs t
 len:fs.length=t.length
section
variable {base o:Nat} {W W':World} {L S:Int} {fs:List Bool} {t:List (List Int)} {hs:List Value} {sf sn:Option Addr} {cf cn:Nat}
theorem Built.grow (h:Built base W o L S fs t hs sf cf sn cn)(hg:W.grownBy W' none):Built base W' o L S fs t hs sf cf sn cn where
 box:=zA h.box hg (by simp)
 ownF:=yM h.ownF hg (by simp)
 ownN:=yM h.ownN hg (by simp)
 rows:=(h.rows.kept hg (by simp)).mono hg.size
 len:=h.len
theorem Built.dfa (h:Built base W o L S fs t hs sf cf sn cn):uT W.heap.size W (.agg #[.int .i64 L,.int .i64 S,.slice sf fs.length cf,.slice sn t.length cn]) ⟨L,S,fs,t⟩ :=
 ⟨_,_,rfl,Row.of_owns h.ownF,Mat.of_rows h.ownN h.rows (Nat.le_refl _)⟩
theorem Built.far {r:Nat}{cs:Array Value}{m:Nat×Nat}(h:Built base W o L S fs t hs sf cf sn cn)(hg:W.grownBy W' (some r))(hr:W.heap[r]?=some (.cells cs 42 m))(hne:r≠o):Built base W' o L S fs t hs sf cf sn cn where
 box:=zA h.box hg (fun e=>hne (Oj e))
 ownF:=h.ownF.kept hg (.inr (zS h.ownF hr (by decide)))
 ownN:=h.ownN.kept hg (.inr (zS h.ownN hr (by decide)))
 rows:=(h.rows.kept hg (fun k hk=>.inr (by have:=Oj hk;subst this;exact⟨_,_,_,hr,by decide⟩))).mono hg.size
 len:=h.len
theorem Built.congr {fs':List Bool}{t':List (List Int)}(h:Built base W o L S fs t hs sf cf sn cn)(e1:fs'=fs)(e2:t'=t):Built base W o L S fs' t' hs sf cf sn cn:=by rw[e1,e2];exact h
def rN (base:Nat)(n:Nat)(hs:List Value)(sn:Option Addr)(cn:Nat):RowS:=⟨base,34,.slice sn n cn,n,hs,1⟩
def rF (base:Nat)(fs:List Bool)(sf:Option Addr)(cf:Nat):RowS:=⟨base,4,.slice sf fs.length cf,fs.length,bls fs,1⟩
theorem Built.apart (h:Built base W o L S fs t hs sf cf sn cn):∀ k,(Value.slice sn t.length cn).ownBlock=some k->(Value.slice sf fs.length cf).ownBlock≠some k:=by
 intro k hk e;rcases h.ownF.2 with ⟨hv,_⟩|⟨g,cap,cur,hv,_,hg,_⟩
 ·rw[hv]at e;simp[Value.ownBlock]at e
 ·rw[hv]at e
  have:g=k:=by simpa [Value.ownBlock] using e
  subst this;exact zS h.ownN hg (by decide) hk
def FB (sf:Option Addr)(sn:Option Addr)(k:Nat):Prop:=(Value.slice sn 0 0).ownBlock=some k\/(Value.slice sf 0 0).ownBlock=some k
theorem zV (s:Option Addr)(n c:Nat):(Value.slice s n c).ownBlock=(Value.slice s 0 0).ownBlock:=by cases s<;>rfl
theorem Built.many (h:Built base W o L S fs t hs sf cf sn cn):Many W (FB sf sn) W [rN base t.length hs sn cn,rF base fs sf cf] [] []:=by
 have:=Many.two (w:=W) (r:=rN base t.length hs sn cn) (s:=rF base fs sf cf) h.ownN h.ownF h.apart
 have e:(fun k=>(rN base t.length hs sn cn).v.ownBlock=some k\/(rF base fs sf cf).v.ownBlock=some k)=FB sf sn:=by
  funext k;simp only[rN,rF,FB,zV sn t.length,zV sf fs.length]
 rwa [e]at this
theorem Built.other (h:Built base W o L S fs t hs sf cf sn cn):∀ k,FB sf sn k->yF W 3 k:=by
 intro k hk;rcases hk with hk|hk
 ·rw[<- zV sn t.length cn]at hk;exact yU h.ownN (by decide) k hk
 ·rw[<- zV sf fs.length cf]at hk;exact yU h.ownF (by decide) k hk
theorem Built.notbox (h:Built base W o L S fs t hs sf cf sn cn):¬ FB sf sn o:=by
 rintro (hk|hk)
 ·rw[<- zV sn t.length cn]at hk;exact zS h.ownN h.box (by decide) hk
 ·rw[<- zV sf fs.length cf]at hk;exact zS h.ownF h.box (by decide) hk
theorem Built.ge (h:Built base W o L S fs t hs sf cf sn cn):∀ k,FB sf sn k->base<=k:=by
 rintro k (hk|hk)
 ·rw[<- zV sn t.length cn]at hk;exact(h.ownN.lt k hk).1
 ·rw[<- zV sf fs.length cf]at hk;exact(h.ownF.lt k hk).1
theorem Built.push {m:Nat}{b:Bool}{row:List Int}{rv:Value}{sf' sn':Option Addr}{cf' cn':Nat}{ls:List (Nat×Obj)}{ps:List (Nat×TypeId×List Value)}(h:Built base W o L S fs t hs sf cf sn cn)(hm:t.length=m)(hM:Many W (FB sf sn) W' [⟨base,34,.slice sn' (m+1) cn',m+1,hs++[rv],1⟩,⟨base,4,.slice sf' (m+1) cf',m+1,bls fs++[.bool b],1⟩] ls ps)(hrow:RowT W.heap.size 3 W rv (ints row)){W2:World}(hW2:W2=(W'.setCell ⟨o,3,none⟩ (.slice sn' (m+1) cn')).setCell ⟨o,2,none⟩ (.slice sf' (m+1) cf')):
  Built base W2 o L S (fs++[b]) (t++[row]) (hs++[rv]) sf' cf' sn' cn'/\∀ w0:World,w0.grownBy W (some o)->w0.heap.size<=base->w0.grownBy W2 (some o):=by
 have h2:fs.length=m:=h.len.trans hm;have hN:=hM.own 0 _ rfl;have hF:=hM.own 1 _ rfl;simp only[]at hN hF;have h0:=hM.but.heap h.box h.notbox;have h1:=(h.rows.snoc hrow).keptF hM.but (fun k hk=>.inr (h.other k hk));have s1:=heap_setCell_same W' o 3 _ _ (.slice sn' (m+1) cn') h0;have s2:=heap_setCell_same _ o 2 _ _ (.slice sf' (m+1) cf') s1;have g1:W'.grownBy W2 (some o):=by rw[hW2];exact zD (zC W' ⟨o,3,none⟩ _) (zC (W'.setCell ⟨o,3,none⟩ (.slice sn' (m+1) cn')) ⟨o,2,none⟩ _)
 have h3:yF W' 3 o:=⟨_,_,_,h0,by decide⟩;refine⟨⟨?_,?_,?_,?_,by simp[h.len]⟩,fun w0 hw0 hb=>?_⟩
 ·rw[hW2,s2]
  simp[h2,hm]
 ·have:=hF.kept g1 (.inr (zS hF h0 (by decide)))
  rw[List.length_append,h2];simpa [bls] using this
 ·have:=hN.kept g1 (.inr (zS hN h0 (by decide)))
  rw[List.length_append,hm];exact this
 ·exact(h1.kept g1 (fun k hk=>.inr (by have:=Oj hk;subst this;exact h3))).mono (Nat.le_trans hM.but.size g1.size)
 ·exact zD (hM.but.grown hw0 (fun k hk=>.inr (Nat.le_trans hb (h.ge k hk)))) g1
def sI (w w':World)(v:Value)(m:DfaV):Prop:=∃ (o:Nat) (hs:List Value) (sf:Option Addr) (cf:Nat) (sn:Option Addr) (cn:Nat),
 v=.agg #[.int .i64 m.letters,.int .i64 m.start,.slice sf m.final.length cf,.slice sn m.next.length cn]/\w.heap.size<=o/\Built o w' o m.letters m.start m.final m.next hs sf cf sn cn
theorem sI.dfa {w w':World}{v:Value}{m:DfaV}(h:sI w w' v m):uT w'.heap.size w' v m:=by
 obtain⟨o,hs,sf,cf,sn,cn,rfl,_,hb⟩:=h;exact hb.dfa
theorem sI.grow {w w' w'':World}{v:Value}{m:DfaV}(h:sI w w' v m)(hg:w'.grownBy w'' none):sI w w'' v m:=by
 obtain⟨o,hs,sf,cf,sn,cn,h1,h2,hb⟩:=h;exact⟨o,hs,sf,cf,sn,cn,h1,h2,hb.grow hg⟩
theorem sI.old {w0 w w':World}{v:Value}{m:DfaV}(h:sI w w' v m)(hg:w0.heap.size<=w.heap.size):sI w0 w' v m:=by
 obtain⟨o,hs,sf,cf,sn,cn,h1,h2,hb⟩:=h;exact⟨o,hs,sf,cf,sn,cn,h1,Nat.le_trans hg h2,hb⟩
theorem sI.far {w w' w'':World}{v:Value}{m:DfaV}{r:Nat}{cs:Array Value}{mm:Nat×Nat}(h:sI w w' v m)(hg:w'.grownBy w'' (some r))(hr:w'.heap[r]?=some (.cells cs 42 mm))(hlt:r<w.heap.size):sI w w'' v m:=by
 obtain⟨o,hs,sf,cf,sn,cn,h1,h2,hb⟩:=h;exact⟨o,hs,sf,cf,sn,cn,h1,h2,hb.far hg hr (by omega)⟩
end
def RowX (X:Nat->Prop)(e:TypeId)(w:World)(v:Value)(xs:List Value):Prop:=RowT w.heap.size e w v xs/\∀ k,v.ownBlock=some k->X k
def vR (X:Nat->Prop)(w w':World):Prop:=∀ k,X k->w'.heap[k]?=w.heap[k]?
theorem vR.trans {X:Nat->Prop}{a b c:World}(h:vR X a b)(h':vR X b c):vR X a c:=fun k hk=>(h' k hk).trans (h k hk)
theorem vR.refl (X:Nat->Prop)(w:World):vR X w w:=fun _ _=>rfl
theorem vR.cell {X:Nat->Prop}{w w':World}(h:vR X w w'){b i:Nat}(hb:X b){u:Value}(hc:w.cell? ⟨b,i,none⟩=some u):w'.cell? ⟨b,i,none⟩=some u:=(World.cell?_of_block (h b hb)).trans hc
theorem RowX.kept {X:Nat->Prop}{e:TypeId}{w w':World}{v:Value}{xs:List Value}(h:RowX X e w v xs)(hk:vR X w w')(hs:w.heap.size<=w'.heap.size):RowX X e w' v xs:=by
 refine⟨?_,h.2⟩;rcases h.1 with h1|⟨b,off,cap,cur,m,h1,h2,h3,h4,h5,h6⟩
 ·exact .inl h1
 ·exact .inr ⟨b,off,cap,cur,m,h1,by omega,h3,h4,(hk b (h.2 b (by rw[h1];rfl))).trans h5,h6⟩
theorem RowX.mono {X X':Nat->Prop}{e:TypeId}{w:World}{v:Value}{xs:List Value}(h:RowX X e w v xs)(hX:∀ k,X k->X' k):RowX X' e w v xs:=⟨h.1,fun k hk=>hX k (h.2 k hk)⟩
theorem RowX.row {X:Nat->Prop}{e:TypeId}{w:World}{v:Value}{xs:List Value}(h:RowX X e w v xs):Row w.heap.size w v xs:=h.1.row
theorem RowX.of_owns {X:Nat->Prop}{w:World}{base e n:Nat}{v:Value}{xs:List Value}(h:w.ownsRow base e 1 v n xs)(hX:∀ k,v.ownBlock=some k->X k):RowX X e w v xs:=⟨RowT.of_owns h,hX⟩
def uF {α:Type}(X:Nat->Prop)(e:TypeId)(f:α->List Value)(w:World)(hs:List Value)(ts:List α):Prop :=
 hs.length=ts.length/\∀ i (h:i<hs.length) (h':i<ts.length),RowX X e w hs[i] (f ts[i])
section
variable {α:Type} {X X':Nat->Prop} {e:TypeId} {f:α->List Value} {w w':World} {hs:List Value} {ts:List α}
theorem uF.nil:uF X e f w [] []:=⟨rfl,fun i h=>by simp at h⟩
theorem uF.kept (h:uF X e f w hs ts)(hk:vR X w w')(hs':w.heap.size<=w'.heap.size):uF X e f w' hs ts:=⟨h.1,fun i h1 h2=>(h.2 i h1 h2).kept hk hs'⟩
theorem uF.mono (h:uF X e f w hs ts)(hX:∀ k,X k->X' k):uF X' e f w hs ts:=⟨h.1,fun i h1 h2=>(h.2 i h1 h2).mono hX⟩
theorem uF.snoc {v:Value}{t:α}(h:uF X e f w hs ts)(hv:RowX X e w v (f t)):uF X e f w (hs++[v]) (ts++[t]):=by
 refine⟨by simp[h.1],fun i h1 h2=>?_⟩;by_cases hi:i<hs.length
 ·rw[List.getElem_append_left hi]
  simp only[List.getElem_append_left (show i<ts.length by rw[<- h.1];exact hi)];exact h.2 i hi _
 ·have:i=hs.length:=by simp at h1;omega
  subst this;rw[List.getElem_append_right (Nat.le_refl _)];simp only[List.getElem_append_right (show ts.length<=hs.length by rw[h.1];exact Nat.le_refl _)];simpa [h.1] using hv
end
structure EMem (X:Nat->Prop)(W:World)(rs:List RowS):Prop where
 own:∀ r∈rs,W.ownsRow r.base r.e r.sz r.v r.n r.xs
 apart:rs.Pairwise (fun r s=>∀ k,r.v.ownBlock=some k->s.v.ownBlock≠some k)
 offX:∀ r∈rs,∀ k,r.v.ownBlock=some k->¬ X k
 lt:∀ k,X k->k<W.heap.size
def qBS (rs:List RowS)(k:Nat):Prop:=∃ r∈rs,r.v.ownBlock=some k
section
variable {X:Nat->Prop} {W W':World} {rs rs':List RowS}
theorem EMem.many (h:EMem X W rs)(F:Nat->Prop)(hF:∀ k,qBS rs k->F k):Many W F W rs [] []:=Many.start h.own (fun r hr k hk=>hF k ⟨r,hr,hk⟩) h.apart
theorem EMem.grow (h:EMem X W rs)(hg:W.grownBy W' none):EMem X W' rs:=⟨fun r hr=>zQ (h.own r hr) hg,h.apart,h.offX,fun k hk=>Nat.lt_of_lt_of_le (h.lt k hk) hg.size⟩
theorem vR.of_grown {row:Option Nat}(hlt:∀ k,X k->k<W.heap.size)(hg:W.grownBy W' row)(hr:∀ k,row=some k->¬ X k):vR X W W':=fun k hk=>hg.block k (hlt k hk) (fun e=>hr k e.symm hk)
theorem EMem.keep (h:EMem X W rs)(hg:W.grownBy W' none):vR X W W':=vR.of_grown h.lt hg (by simp)
theorem EMem.after {F:Nat->Prop}{ls:List (Nat×Obj)}(h:EMem X W rs)(hM:Many W F W' rs' ls [])(hF:∀ k,F k->¬ X k):EMem X W' rs' where
 own:=fun r hr=>by
  obtain⟨i,hi,e⟩:=List.getElem_of_mem hr
  exact hM.own i r (by rw[List.getElem?_eq_getElem hi,e])
 apart:=by
  rw[List.pairwise_iff_getElem];intro i j hi hj h0;exact hM.apart i j _ _ (by omega) (List.getElem?_eq_getElem hi) (List.getElem?_eq_getElem hj)
 offX:=fun r hr k hk hx=>by
  obtain⟨i,hi,e⟩:=List.getElem_of_mem hr;rcases hM.mine i r (by rw[List.getElem?_eq_getElem hi,e]) k hk with hf|hf
  ·exact hF k hf hx
  ·have:=h.lt k hx;omega
 lt:=fun k hk=>Nat.lt_of_lt_of_le (h.lt k hk) hM.but.size
theorem EMem.keepMany {F:Nat->Prop}{ls:List (Nat×Obj)}(h:EMem X W rs)(hM:Many W F W' rs' ls [])(hF:∀ k,F k->¬ X k):vR X W W':=fun k hk=>hM.but.block k (h.lt k hk) (fun hf=>hF k hf hk)
theorem EMem.far (h:EMem X W rs){o:Nat}(hg:W.grownBy W' (some o))(hr:∀ r∈rs,r.v.ownBlock≠some o):EMem X W' rs where
 own:=fun r hr'=>(h.own r hr').kept hg (.inr (hr r hr'))
 apart:=h.apart
 offX:=h.offX
 lt:=fun k hk=>Nat.lt_of_lt_of_le (h.lt k hk) hg.size
theorem EMem.retire {r:RowS}(h:EMem X W (rs++[r])):EMem (fun k=>X k\/r.v.ownBlock=some k) W rs where
 own:=fun s hs=>h.own s (List.mem_append_left _ hs)
 apart:=(List.pairwise_append.1 h.apart).1
 offX:=fun s hs k hk hx=>by
  rcases hx with hx|hx
  ·exact h.offX s (List.mem_append_left _ hs) k hk hx
  ·exact(List.pairwise_append.1 h.apart).2.2 s hs r (by simp) k hk hx
 lt:=fun k hx=>by
  rcases hx with hx|hx
  ·exact h.lt k hx
  ·exact((h.own r (by simp)).lt k hx).2
theorem EMem.fresh (h:EMem X W rs)(hg:W.grownBy W' none){Y:Nat->Prop}(hY:∀ k,Y k->W.heap.size<=k/\k<W'.heap.size):EMem (fun k=>X k\/Y k) W' rs where
 own:=fun r hr=>zQ (h.own r hr) hg
 apart:=h.apart
 offX:=fun r hr k hk hx=>by
  rcases hx with hx|hx
  ·exact h.offX r hr k hk hx
  ·have:=((h.own r hr).lt k hk).2
   have:=(hY k hx).1
   omega
 lt:=fun k hx=>by
  rcases hx with hx|hx
  ·exact Nat.lt_of_lt_of_le (h.lt k hx) hg.size
  ·exact(hY k hx).2
theorem EMem.add (h:EMem X W rs)(hg:W.grownBy W' none){r:RowS}(ho:W'.ownsRow r.base r.e r.sz r.v r.n r.xs)(hn:∀ k,r.v.ownBlock=some k->W.heap.size<=k):EMem X W' (rs++[r]) where
 own:=fun s hs=>by
  rcases List.mem_append.1 hs with hs|hs
  ·exact zQ (h.own s hs) hg
  ·rw[List.mem_singleton]at hs;subst hs;exact ho
 apart:=by
  rw[List.pairwise_append];refine⟨h.apart,by simp,fun s hs t ht k hk e=>?_⟩;rw[List.mem_singleton]at ht;subst ht;have:=((h.own s hs).lt k hk).2;have:=hn k e;omega
 offX:=fun s hs k hk hx=>by
  rcases List.mem_append.1 hs with hs|hs
  ·exact h.offX s hs k hk hx
  ·rw[List.mem_singleton]at hs;subst hs
   have:=h.lt k hx;have:=hn k hk;omega
 lt:=fun k hk=>Nat.lt_of_lt_of_le (h.lt k hk) hg.size
theorem EMem.nil (w:World):EMem (fun _=>False) w []:=⟨fun r hr=>by simp at hr,List.Pairwise.nil,fun r hr=>by simp at hr,fun k hk=>hk.elim⟩
end
theorem uF.rowsT {α:Type}{X:Nat->Prop}{e:TypeId}{f:α->List Value}{w:World}{hs:List Value}{ts:List α}(h:uF X e f w hs ts):xY w.heap.size e f w hs ts:=⟨h.1,fun i h3 h4=>(h.2 i h3 h4).1⟩
theorem EMem.appAt {X:Nat->Prop}{W W':World}{rs:List RowS}(h:EMem X W rs){j:Nat}{r:RowS}(hr:rs[j]?=some r){v':Value}{n':Nat}{us:List Value}(ho:W'.ownsRow r.base r.e r.sz v' n' (r.xs++us))(hg:W.grownBy W' r.v.ownBlock)(hm:qP W W' r.v v'):EMem X W' (rs.set j ⟨r.base,r.e,v',n',r.xs++us,r.sz⟩) :=
 h.after ((h.many (qBS rs) (fun _ h=>h)).append hr ho hg hm) (fun k hk=>by obtain⟨r,hr,hk⟩:=hk;exact h.offX r hr k hk)
theorem EMem.dropLast {X:Nat->Prop}{W:World}{rs:List RowS}{r:RowS}(h:EMem X W (rs++[r])):EMem X W rs:=⟨fun s hs=>h.own s (List.mem_append_left _ hs),(List.pairwise_append.1 h.apart).1,fun s hs=>h.offX s (List.mem_append_left _ hs),h.lt⟩
theorem Arr.rowT' {w:World}{g cap:Nat}{e:TypeId}{xs:List Value}(h:Arr w g e xs)(hc:xs.length<=cap)(hm:cap<=maxLen):RowT w.heap.size e w (.slice (some ⟨g,0,none⟩) xs.length cap) xs:=by
 have h1:=h.lt;obtain⟨cur,rest,hg,h0⟩:=h;refine .inr ⟨g,0,cap,cur,(0,0),rfl,h1,hc,hm,hg,fun i hi=>?_⟩;rw[Nat.zero_add,<- Array.getElem?_toList,h0,List.getElem?_append_left hi,List.getElem?_eq_getElem hi]
end Go.Proofs.Ytjfdomfendbhfaa
namespace Go.Proofs.Ytjfdomfendbhfaa
open Go.RowKit Go.Maps
def zl (l:List Nat):List Int:=l.map fun(x:Nat)=>(x:Int)
theorem qAV {l : List Nat}{x : Nat}: ((x : Nat) : Int) ∈ zl l ↔ x ∈ l := by
  simp only [zl, List.mem_map]
  exact ⟨fun ⟨y, hy, e⟩ => by have : y = x := by omega
                              exact this ▸ hy, fun h => ⟨x, h, rfl⟩⟩
theorem zl_idx {l:List Nat}{x:Nat}(h:x∈l):(zl l).idxOf ((x:Nat):Int)=l.idxOf x:=idxOf_map_inj (fun(x:Nat)=>(x:Int)) l x h (fun y _ e=>by omega)
theorem qII (l:List Nat):(zl l).length=l.length:=by simp[zl]
theorem zl_snoc (l:List Nat)(x:Nat):zl (l++[x])=zl l++[(x:Int)]:=by simp[zl]
def NF (o:Nat)(sa:Option Addr)(mv:Option Nat)(k:Nat):Prop:=k=o\/(Value.slice sa 0 0).ownBlock=some k\/mv=some k
structure NumSt (base:Nat)(W:World)(o:Nat)(sa:Option Addr)(sc:Nat)(mv:Option Nat)(l:List Nat):Prop where
 box:W.heap[o]?=some (.cells #[.slice sa l.length sc,.map mv] 181 (0,0))
 own:W.ownsRow base 3 1 (.slice sa l.length sc) l.length (nats l)
 map:(mv=none/\l=[])\/∃ mb,mv=some mb/\base<=mb/\mb≠o/\(Value.slice sa 0 0).ownBlock≠some mb/\mb<W.heap.size/\rT W mb l.length (zl l)
 lo:base<=o
theorem NumSt.ge {base:Nat}{W:World}{o:Nat}{sa:Option Addr}{sc:Nat}{mv:Option Nat}{l:List Nat}(h:NumSt base W o sa sc mv l):∀ k,NF o sa mv k->base<=k/\k<W.heap.size:=by
 rintro k (rfl|hk|hk)
 ·exact⟨h.lo,zI h.box⟩
 ·rw[<- zV sa l.length sc]at hk;exact h.own.lt k hk
 ·rcases h.map with ⟨e,_⟩|⟨mb,e,h1,_,_,h2,_⟩
  ·rw[e]at hk;cases hk
  ·rw[e]at hk;have:=Oj hk;subst this;exact⟨h1,h2⟩
theorem NumSt.kept {base:Nat}{W W':World}{o:Nat}{sa:Option Addr}{sc:Nat}{mv:Option Nat}{l:List Nat}{row:Option Nat}(h:NumSt base W o sa sc mv l)(hg:W.grownBy W' row)(hr:∀ k,row=some k->¬ NF o sa mv k):NumSt base W' o sa sc mv l where
 box:=zA h.box hg (fun e=>hr o e (.inl rfl))
 own:=h.own.kept hg (by
  rcases hv:(Value.slice sa l.length sc).ownBlock with _|k
  ·exact .inl rfl
  ·exact .inr fun e=>hr k e.symm (.inr (.inl (by rw[zV]at hv;exact hv))))
 map:=by
  rcases h.map with h|⟨mb,e,h1,h2,h3,h4,h5⟩
  ·exact .inl h
  ·exact .inr ⟨mb,e,h1,h2,h3,Nat.lt_of_lt_of_le h4 hg.size,h5.kept hg (fun e2=>hr mb e2 (.inr (.inr e)))⟩
 lo:=h.lo
def qHV (base:Nat)(W:World)(o:Nat)(sa:Option Addr)(mv:Option Nat)(l:List Nat)(x:Nat)(e:Ending)(W':World):Prop :=
 ∃ sa' sc' mv',e=.returned (.int .i64 (((xP l x).idxOf x:Nat):Int))/\NumSt base W' o sa' sc' mv' (xP l x)/\GrownBut W W' (NF o sa mv)/\∀ k,NF o sa' mv' k->NF o sa mv k\/W.heap.size<=k
theorem addNew_idx_new {l:List Nat}{x:Nat}(h:x ∉ l):(xP l x).idxOf x=l.length:=by
 rw[wO h,List.idxOf_append,if_neg h];simp
theorem vP {w:World}{p e:Nat}{x0 x1:Value}(h:w.heap[p]?=some (.cells #[x0,x1] e (0,0))):w.cell? ⟨p,0,none⟩=some x0/\w.cell? ⟨p,1,none⟩=some x1:=by
 have c0:=zJ h 0 (by simp);have c1:=zJ h 1 (by simp);exact⟨by simpa using c0,by simpa using c1⟩
theorem qBW {base:Nat}{W w2 w3:World}{o mb:Nat}{sa sa':Option Addr}{sc sc':Nat}{mv:Option Nat}{l:List Nat}{x:Nat}(h0:base<=o)(hx:x ∉ l)(hb2:w2.heap[o]?=some (.cells #[.slice sa l.length sc,.map (some mb)] 181 (0,0)))(hmb:mb≠o)(hmb0:base<=mb)(hsm:(Value.slice sa 0 0).ownBlock≠some mb)(hmp:rT w2 mb (l.length+1) (zl l++[(x:Int)]))(hso:(Value.slice sa 0 0).ownBlock≠some o)(hown:w3.ownsRow base 3 1 (.slice sa' (l.length+1) sc') (l.length+1) (nats l++[.int .i64 (x:Int)]))(hg:w2.grownBy w3 (Value.slice sa l.length sc).ownBlock)(hmv:qP w2 w3 (.slice sa l.length sc) (.slice sa' (l.length+1) sc'))(hW:GrownBut W w2 (NF o sa mv))(hnew:mv=some mb\/W.heap.size<=mb):
  qHV base W o sa mv l x (.returned (.int .i64 ((l.length:Nat):Int))) (w3.setCell ⟨o,0,none⟩ (.slice sa' (l.length+1) sc')):=by
 have h4:=zA hb2 hg (fun e=>hso (by rw[zV]at e;exact e));have hs:=heap_setCell_same w3 o 0 _ _ (.slice sa' (l.length+1) sc') h4;have h2:=zC w3 ⟨o,0,none⟩ (.slice sa' (l.length+1) sc');have h5:=hmp.lt;have hz:=hg.size;have h6:=h2.size;have h1:(xP l x).length=l.length+1:=by rw[wO hx];simp
 have h3:(Value.slice sa' 0 0).ownBlock≠some mb:=by
  intro e;rw[<- zV sa' (l.length+1) sc']at e;rcases hmv with h|⟨_,h⟩
  ·rw[h,zV]at e;exact hsm e
  ·have:=h mb e;omega
 refine⟨sa',sc',some mb,by rw[addNew_idx_new hx],⟨?_,?_,?_,h0⟩,?_,fun k hk=>?_⟩
 ·rw[h1,hs];simp
 ·rw[h1,wO hx,vQ]
  exact hown.kept h2 (.inr (zS hown h4 (by decide)))
 ·refine .inr ⟨mb,rfl,hmb0,hmb,h3,by omega,?_⟩
  rw[h1,wO hx,zl_snoc];refine(hmp.kept hg (fun e=>hsm (by rw[zV]at e;exact e))).kept h2 (fun e=>hmb (Oj e).symm)
 ·refine(hW.step hg fun k hk=>?_).step h2 fun k hk=>?_
  ·rw[zV]at hk;exact .inl (.inr (.inl hk))
  ·exact .inl (.inl (Oj hk).symm)
 ·rcases hk with rfl|hk|hk
  ·exact .inl (.inl rfl)
  ·rw[<- zV sa' (l.length+1) sc']at hk
   rcases hmv with h|⟨_,h⟩
   ·rw[h,zV]at hk;exact .inl (.inr (.inl hk))
   ·exact .inr (Nat.le_trans hW.size (h k hk))
  ·have:=Oj hk;subst this
   rcases hnew with h|h
   ·exact .inl (.inr (.inr h))
   ·exact .inr h
theorem qBX (base:Nat)(W:World)(o:Nat)(sa:Option Addr)(sc:Nat)(mv:Option Nat)(l:List Nat)(x:Nat)(h:NumSt base W o sa sc mv l)(hb:base<=W.heap.size)(hl:l.length<=1073741824)(hx:x<4611686018427387904):
  Calls Try.prog 130 #[.pointer (some ⟨o,0,none⟩),.int .i64 (x:Int)] W (qHV base W o sa mv l x):=by
 have d3:=@run_makeMap Try.prog;have h8:Mid (x:Int):=⟨by omega,by omega⟩;have c8:∀ W,(binOp .eql 171 (.map none) (.map none)).run Try.prog W=.ok (.bool true) W:=fun W=>run_eql_map_nil W _ _ _ none sM;have c7:∀ W mb,(binOp .eql 171 (.map (some mb)) (.map none)).run Try.prog W=.ok (.bool false) W:=fun W mb=>run_eql_map_nil W _ _ _ (some mb) sM;obtain⟨c0,c1⟩:=vP h.box;have f0:=zE h.box 0;have f1:=zE h.box 1
 have a7:(Value.slice sa 0 0).ownBlock≠some o:=by
  intro e;rw[<- zV sa l.length sc]at e;exact zS h.own h.box (by decide) e
 have H:=Kh h;have H3:=Kh a7;have h3:=Kh h8;clear a7 h8;rcases h.map with ⟨rfl,rfl⟩|⟨mb,rfl,hmb0,hmb,hsm,hml,hmp⟩
 ·have h9:(Instr.lookup 171 (.map none) (.int .i64 (x:Int)) true).run Try.prog W=.ok (.tuple #[.int .i64 0,.bool false]) W:=Maps.look_nil true qAG sM (gM W) (qDP h3.out)
  obtain⟨w1,h7⟩:∃ w1,w1=W.setCell ⟨o,1,none⟩ (.map (some W.heap.size)):=⟨_,rfl⟩;have H6:=zC W ⟨o,1,none⟩ (.map (some W.heap.size))
  have a8:w1.heap[o]?=some (.cells #[.slice sa ([]:List Nat).length sc,.map (some W.heap.size)] 181 (0,0)):=by
   rw[h7,heap_setCell_same W o 1 _ _ _ h.box];simp
  have a6:w1.heap.size=W.heap.size:=by rw[h7];simp[World.setCell]
  rw[<- h7]at H6;obtain⟨ws,H7⟩:∃ ws,ws=w1.alloc (.map #[] 0):=⟨_,rfl⟩;have H0:=Ga w1 (.map #[] 0) none;have H4:=Kh (rT.made w1);rw[<- H7]at H0 H4;rw[a6]at H4;have d4:=zI h.box;have a5:=Kh (zA a8 H0 (by simp));have b7:=Kh H7;have b8:=Kh h7;have c2:Hid (ws.ownsRow base 3 1 (.slice sa ([]:List Nat).length sc) ([]:List Nat).length (nats [])):=Kh (zQ (h.own.kept H6 (.inr (by rw[zV];exact H3.out))) H0);have c3:Hid (GrownBut W ws (NF o sa none)):=Kh (((GrownBut.refl W _).step H6 (fun k hk=>.inl (.inl (Oj hk).symm))).step H0 (by simp));clear h a8 h7 H6 H7 H0 a6
  have h6:Hid ((Value.slice sa 0 0).ownBlock≠some W.heap.size):=Kh (fun e=>by
   rw[<- zV sa ([]:List Nat).length sc]at e
   have:=(H.out.own.lt _ e).2;omega)
  have d2:W.heap.size≠o:=by omega
  obtain⟨M,hM⟩:∃ M,M=W.heap.size:=⟨_,rfl⟩;have c6:=Kh hM;rw[<- hM]at H4 h6 a5;have a9:M≠o:=by omega
  have b5:base<=M:=by omega
  have b6:W.heap.size<=M:=by omega
  clear hM;go_enter Try.func130,Try.ntmps130;go_upto_region 5 with fail;rw[<- b8.out,<- b7.out,<- c6.out];clear c0 c1 f0 f1 h9;obtain⟨c0,c1⟩:=vP a5.out;have c9:=H4.out.lt;go_wp2_with (first|(at_mapUpdate;refine jX rfl _ _ _ rfl M 0 [] x rfl rfl rfl H4.out (by unfold maxLen;omega) h3.out (by simp) (by simp) ?_;intro w2 h0 h2;(have H9:=Kh h0);(have a4:=Kh h2);(have h4:=zA a5.out h2 (by simp;exact a9));(have H5:=Kh h4);(obtain⟨d0,d1⟩:=vP h4);(have e0:=zE h4 0);(have H8:=Kh (c2.out.kept h2 (.inr (by rw[zV];exact h6.out))));(have b4:=h2.size);clear h0 h4 h2)|(at_builtin;refine qDH rfl _ _ _ rfl yP base (.slice sa ([]:List Nat).length sc) ([]:List Nat).length (nats []) rfl H8.out (.int .i64 (x:Int)) rfl rfl ?a1 ?a2 ?a3 ?_;(case a1=>(unfold maxLen;simp));(case a2=>simp);(case a3=>omega);intro sa3 sc3 w3 h1 H1 b3 h5;(have H2:=zA H5.out H1 (by rw[zV];exact H3.out));(obtain⟨b0,b1⟩:=vP H2);(have e3:=zE H2 0))|fail);go_ret;exact qBW (l:=[]) H.out.lo (by simp) H5.out a9 b5 h6.out H9.out H3.out h1 H1 h5 (c3.out.step a4.out (fun k hk=>.inr (by have:=Oj hk;omega))) (.inr b6)
 ·clear h
  by_cases hin:x∈l
  ·have h9:=hmp.lookup h3.out
   rw[if_pos (qAV.2 hin),decide_eq_true (qAV.2 hin),zl_idx hin]at h9;have a0:=Kh hin;clear hin hmp;go_enter Try.func130,Try.ntmps130;go_wp2;go_ret;have e:=uE a0.out;exact⟨sa,sc,some mb,yC (by rw[e]),by rw[e];exact H.out,GrownBut.refl _ _,fun k hk=>.inl hk⟩
  ·have h9:=hmp.lookup h3.out
   rw[if_neg (fun hh=>hin (qAV.1 hh)),decide_eq_false (fun hh=>hin (qAV.1 hh))]at h9;have a0:=Kh hin;have c5:=Kh hmp;have c4:Hid ((x:Int) ∉ zl l):=Kh (fun hh=>hin (qAV.1 hh));have b2:=qII l;have h6:=Kh hsm;clear hin hmp hsm;have b9:=Kh H.out.own;go_enter Try.func130,Try.ntmps130;go_wp2_with (first|(at_mapUpdate;refine jX rfl _ _ _ rfl mb l.length (zl l) x rfl rfl ?q1 c5.out (by unfold maxLen;omega) h3.out c4.out (by omega) ?_;(case q1=>(rw[b2];rfl));intro w2 h0 h2;(have H9:=Kh h0);(have a4:=Kh h2);(have h4:=zA H.out.box h2 (by simp;exact hmb));(have H5:=Kh h4);(obtain⟨d0,d1⟩:=vP h4);(have e0:=zE h4 0);(have H8:=Kh (b9.out.kept h2 (.inr (by rw[zV];exact h6.out))));(have b4:=h2.size);clear h0 h4 h2)|(at_builtin;refine qDH rfl _ _ _ rfl yP base (.slice sa l.length sc) l.length (nats l) rfl H8.out (.int .i64 (x:Int)) rfl rfl ?a1 ?a2 ?a3 ?_;(case a1=>(unfold maxLen;omega));(case a2=>omega);(case a3=>omega);intro sa3 sc3 w3 h1 H1 b3 h5;(have H2:=zA H5.out H1 (by rw[zV];exact H3.out));(obtain⟨b0,b1⟩:=vP H2);(have e3:=zE H2 0))|fail);go_ret;exact qBW H.out.lo a0.out H5.out hmb hmb0 h6.out H9.out H3.out h1 H1 h5 ((GrownBut.refl W _).step a4.out (fun k hk=>.inl (.inr (.inr hk)))) (.inl rfl)
end Go.Proofs.Ytjfdomfendbhfaa
namespace Go.Proofs.Ytjfdomfendbhfaa
open Go.RowKit Go.Maps
theorem rT.obj {w:World}{b n:Nat}{l:List Int}(h:rT w b n l):∃ es clock,w.heap[b]?=some (.map es clock):=by
 obtain⟨D,⟨es,clock,hb,_⟩,_⟩:=h;exact⟨es,clock,hb⟩
theorem NumSt.off {base:Nat}{W:World}{o:Nat}{sa:Option Addr}{sc:Nat}{mv:Option Nat}{l:List Nat}(h:NumSt base W o sa sc mv l){k e:Nat}{c:Array Value}{m:Nat×Nat}(hk:W.heap[k]?=some (.cells c e m))(h1:e≠3)(h2:e≠181):¬ NF o sa mv k:=by
 rintro (rfl|hn|hn)
 ·rw[h.box]at hk
  simp only[Option.some.injEq,Obj.cells.injEq]at hk;exact h2 hk.2.1.symm
 ·rw[<- zV sa l.length sc]at hn
  exact zS h.own hk (fun e=>h1 e.symm) hn
 ·rcases h.map with ⟨e,_⟩|⟨mb,e,_,_,_,_,hm⟩
  ·rw[e]at hn;cases hn
  ·rw[e]at hn
   have:=Oj hn;subst this;obtain⟨es,cl,hm⟩:=hm.obj;rw[hm]at hk;simp at hk
theorem NumSt.offOwn {base:Nat}{W:World}{o:Nat}{sa:Option Addr}{sc:Nat}{mv:Option Nat}{l:List Nat}(h:NumSt base W o sa sc mv l){b e n sz:Nat}{v:Value}{xs:List Value}(hown:W.ownsRow b e sz v n xs)(h1:e≠3)(h2:e≠181):∀ k,v.ownBlock=some k->¬ NF o sa mv k:=fun k hk=>by
 rcases hown.2 with ⟨rfl,_⟩|⟨g,cap,cur,rfl,_,hg,_⟩
 ·simp[Value.ownBlock]at hk
 ·have:g=k:=by simpa [Value.ownBlock] using hk
  subst this
  exact h.off hg h1 h2
theorem uF.keptT {α:Type}{X:Nat->Prop}{e:TypeId}{f:α->List Value}{w w':World}{hs:List Value}{ts:List α}{row:Option Nat}(h:uF X e f w hs ts)(hg:w.grownBy w' row)(hr:∀ k,row=some k->yF w e k):uF X e f w' hs ts :=
 ⟨h.1,fun i h1 h2=>⟨((h.2 i h1 h2).1.kept hg (fun k hk=>.inr (hr k hk))).mono hg.size,(h.2 i h1 h2).2⟩⟩
theorem vR.but {X F:Nat->Prop}{w w':World}(hlt:∀ k,X k->k<w.heap.size)(hg:GrownBut w w' F)(hF:∀ k,F k->¬ X k):vR X w w':=fun k hk=>hg.block k (hlt k hk) (fun hf=>hF k hf hk)
theorem eC {w w':World}{base e n sz:Nat}{v:Value}{xs:List Value}{F:Nat->Prop}(h:w.ownsRow base e sz v n xs)(hg:GrownBut w w' F)(hF:∀ k,v.ownBlock=some k->¬ F k):w'.ownsRow base e sz v n xs:=by
 refine⟨h.1,?_⟩;rcases id h.2 with h2|⟨g,cap,cur,hv,hb,hgc,h3⟩
 ·exact .inl h2
 ·exact .inr ⟨g,cap,cur,hv,hb,hg.heap hgc (hF g (by rw[hv];rfl)),h3⟩
structure ExSt (B:Nat)(W0 W:World)(oN o2:Nat)(X Y:Nat->Prop)(k:Nat)(l:List Nat)(fs:List Bool)(t:List (List Int))(hs:List Value)(sa:Option Addr)(sc:Nat)(mv:Option Nat)(sf:Option Addr)(cf:Nat)(sn:Option Addr)(cn:Nat):Prop where
 num:NumSt B W oN sa sc mv l
 sep:∀ j,NF oN sa mv j->¬ Y j
 XY:∀ j,X j->Y j
 lt:∀ j,Y j->j<W.heap.size
 box:W.heap[o2]?=some (.cells #[.int .i64 (k:Int),.int .i64 0,.slice sf fs.length cf,.slice sn t.length cn] 42 (0,0))
 ownF:W.ownsRow o2 4 1 (.slice sf fs.length cf) fs.length (bls fs)
 ownN:W.ownsRow o2 34 1 (.slice sn t.length cn) t.length hs
 rows:uF X 3 ints W hs t
 lo:W0.heap.size<=o2
 loB:W0.heap.size<=B/\B<=W.heap.size
 grown:W0.grownBy W none
section
variable {B:Nat} {W0 W W':World} {oN o2 k:Nat} {X Y:Nat->Prop} {l:List Nat} {fs:List Bool} {t:List (List Int)} {hs:List Value} {sa:Option Addr} {sc:Nat} {mv:Option Nat} {sf:Option Addr} {cf:Nat} {sn:Option Addr} {cn:Nat}
theorem ExSt.grow (h:ExSt B W0 W oN o2 X Y k l fs t hs sa sc mv sf cf sn cn)(hg:W.grownBy W' none):ExSt B W0 W' oN o2 X Y k l fs t hs sa sc mv sf cf sn cn where
 num:=h.num.kept hg (by simp)
 sep:=h.sep
 XY:=h.XY
 lt:=fun j hj=>Nat.lt_of_lt_of_le (h.lt j hj) hg.size
 box:=zA h.box hg (by simp)
 ownF:=zQ h.ownF hg
 ownN:=zQ h.ownN hg
 rows:=h.rows.keptT hg (by simp)
 lo:=h.lo
 loB:=⟨h.loB.1,Nat.le_trans h.loB.2 hg.size⟩
 grown:=zB h.grown hg (by simp)
theorem ExSt.fresh (h:ExSt B W0 W oN o2 X Y k l fs t hs sa sc mv sf cf sn cn)(hg:W.grownBy W' none){g:Nat}(h1:W.heap.size<=g)(h2:g<W'.heap.size):ExSt B W0 W' oN o2 X (fun j=>Y j\/j=g) k l fs t hs sa sc mv sf cf sn cn where
 num:=h.num.kept hg (by simp)
 sep:=fun j hj hy=>by
  rcases hy with hy|hy
  ·exact h.sep j hj hy
  ·have:=(h.num.ge j hj).2;omega
 XY:=fun j hj=>.inl (h.XY j hj)
 lt:=fun j hj=>by
  rcases hj with hj|hj
  ·exact Nat.lt_of_lt_of_le (h.lt j hj) hg.size
  ·omega
 box:=zA h.box hg (by simp)
 ownF:=zQ h.ownF hg
 ownN:=zQ h.ownN hg
 rows:=h.rows.keptT hg (by simp)
 lo:=h.lo
 loB:=⟨h.loB.1,Nat.le_trans h.loB.2 hg.size⟩
 grown:=zB h.grown hg (by simp)
theorem ExSt.num_step (h:ExSt B W0 W oN o2 X Y k l fs t hs sa sc mv sf cf sn cn){l':List Nat}{sa':Option Addr}{sc':Nat}{mv':Option Nat}(hn:NumSt B W' oN sa' sc' mv' l')(hg:GrownBut W W' (NF oN sa mv))(hm:∀ k,NF oN sa' mv' k->NF oN sa mv k\/W.heap.size<=k):ExSt B W0 W' oN o2 X Y k l' fs t hs sa' sc' mv' sf cf sn cn where
 num:=hn
 sep:=fun j hj hy=>by
  rcases hm j hj with h1|h1
  ·exact h.sep j h1 hy
  ·have:=h.lt j hy;omega
 XY:=h.XY
 lt:=fun j hj=>Nat.lt_of_lt_of_le (h.lt j hj) hg.size
 box:=hg.heap h.box (h.num.off h.box (by decide) (by decide))
 ownF:=eC h.ownF hg (h.num.offOwn h.ownF (by decide) (by decide))
 ownN:=eC h.ownN hg (h.num.offOwn h.ownN (by decide) (by decide))
 rows:=h.rows.kept (vR.but (fun k hk=>h.lt k (h.XY k hk)) hg (fun k hf hx=>h.sep k hf (h.XY k hx))) hg.size
 lo:=h.lo
 loB:=⟨h.loB.1,Nat.le_trans h.loB.2 hg.size⟩
 grown:=hg.grown h.grown (fun k hk=>.inr (Nat.le_trans h.loB.1 (h.num.ge k hk).1))
theorem ExSt.put (h:ExSt B W0 W oN o2 X Y k l fs t hs sa sc mv sf cf sn cn){g:Nat}{c:Array Value}{m:Nat×Nat}(hg:W.grownBy W' (some g))(hc:W.heap[g]?=some (.cells c 3 m))(hY:Y g)(hX:¬ X g)(h0:W0.heap.size<=g):ExSt B W0 W' oN o2 X Y k l fs t hs sa sc mv sf cf sn cn where
 num:=h.num.kept hg (fun j e hf=>by have:=Oj e;subst this;exact h.sep _ hf hY)
 sep:=h.sep
 XY:=h.XY
 lt:=fun j hj=>Nat.lt_of_lt_of_le (h.lt j hj) hg.size
 box:=zA h.box hg (fun e=>by
  have:=Oj e
  subst this
  rw[h.box]at hc
  simp only[Option.some.injEq,Obj.cells.injEq]at hc
  exact absurd hc.2.1 (by decide))
 ownF:=h.ownF.kept hg (.inr (zS h.ownF hc (by decide)))
 ownN:=h.ownN.kept hg (.inr (zS h.ownN hc (by decide)))
 rows:=h.rows.kept (fun j hj=>hg.block j (h.lt j (h.XY j hj)) (fun e=>by have:=Oj e;subst this;exact hX hj)) hg.size
 lo:=h.lo
 loB:=⟨h.loB.1,Nat.le_trans h.loB.2 hg.size⟩
 grown:=zB h.grown hg (fun j e=>by have:=Oj e;omega)
theorem ExSt.pushN (h:ExSt B W0 W oN o2 X Y k l fs t hs sa sc mv sf cf sn cn){m:Nat}(hm:t.length=m){rv:Value}{row:List Int}{sn':Option Addr}{cn':Nat}(ho:W'.ownsRow o2 34 1 (.slice sn' (m+1) cn') (m+1) (hs++[rv]))(hg:W.grownBy W' (Value.slice sn m cn).ownBlock)(hrow:RowX (fun j=>X j\/Y j) 3 W rv (ints row)){W2:World}(hW2:W2=W'.setCell ⟨o2,3,none⟩ (.slice sn' (m+1) cn')):
  ExSt B W0 W2 oN o2 Y Y k l fs (t++[row]) (hs++[rv]) sa sc mv sf cf sn' cn':=by
 subst hm;have hb:=zA h.box hg (zS h.ownN h.box (by decide));have h1:=heap_setCell_same W' o2 3 _ _ (.slice sn' (t.length+1) cn') hb;have g2:=zC W' ⟨o2,3,none⟩ (.slice sn' (t.length+1) cn');rw[<- hW2]at h1 g2;have h0:=h.num.offOwn h.ownN (by decide) (by decide);have h2:=h.num.kept hg (fun j e=>h0 j e)
 have h3:=h.ownF.kept hg (by
  rcases hv:(Value.slice sf fs.length cf).ownBlock with _|j
  ·exact .inl rfl
  ·refine .inr fun e=>?_
   obtain⟨cu,e',mm,hh,h7⟩:=yU (e':=34) h.ownF (by decide) j hv
   exact zS h.ownN hh (fun e2=>h7 e2.symm) e.symm)
 have h5:uF Y 3 ints W (hs++[rv]) (t++[row]):=(h.rows.mono h.XY).snoc (hrow.mono (fun j hj=>hj.elim (h.XY j) id));have h4:=h5.keptT hg (fun j e=>yU h.ownN (by decide) j e);have h6:yF W' 3 o2:=⟨_,_,_,hb,by decide⟩;have hz:=hg.size;have h8:=g2.size
 exact⟨h2.kept g2 (fun j e hf=>by have:=Oj e;subst this;exact h2.off hb (by decide) (by decide) hf),h.sep,fun _ hj=>hj,fun j hj=>by have:=h.lt j hj;omega,by rw[h1];simp,h3.kept g2 (.inr (zS h3 hb (by decide))),by
  rw[List.length_append]
  exact ho.kept g2 (.inr (zS ho hb (by decide))),h4.keptT g2 (fun j e=>by have:=Oj e;subst this;exact h6),h.lo,⟨h.loB.1,by have:=h.loB.2;omega⟩,zB (zB h.grown hg (fun j e=>Nat.le_trans h.lo (h.ownN.lt j e).1)) g2 (fun j e=>by have e:o2=j:=Oj e;have:=h.lo;omega)⟩
theorem ExSt.pushF (h:ExSt B W0 W oN o2 X Y k l fs t hs sa sc mv sf cf sn cn){m:Nat}(hm:fs.length=m){b:Bool}{sf':Option Addr}{cf':Nat}(ho:W'.ownsRow o2 4 1 (.slice sf' (m+1) cf') (m+1) (bls fs++[.bool b]))(hg:W.grownBy W' (Value.slice sf m cf).ownBlock){W2:World}(hW2:W2=W'.setCell ⟨o2,2,none⟩ (.slice sf' (m+1) cf')):
  ExSt B W0 W2 oN o2 X Y k l (fs++[b]) t hs sa sc mv sf' cf' sn cn:=by
 subst hm;have hb:=zA h.box hg (zS h.ownF h.box (by decide));have h1:=heap_setCell_same W' o2 2 _ _ (.slice sf' (fs.length+1) cf') hb;have g2:=zC W' ⟨o2,2,none⟩ (.slice sf' (fs.length+1) cf');rw[<- hW2]at h1 g2;have h0:=h.num.offOwn h.ownF (by decide) (by decide);have h2:=h.num.kept hg (fun j e=>h0 j e)
 have h3:=h.ownN.kept hg (by
  rcases hv:(Value.slice sn t.length cn).ownBlock with _|j
  ·exact .inl rfl
  ·refine .inr fun e=>?_
   obtain⟨cu,e',mm,hh,h6⟩:=yU (e':=4) h.ownN (by decide) j hv
   exact zS h.ownF hh (fun e2=>h6 e2.symm) e.symm)
 have h4:=h.rows.keptT hg (fun j e=>yU h.ownF (by decide) j e);have h5:yF W' 3 o2:=⟨_,_,_,hb,by decide⟩;have hz:=hg.size;have h8:=g2.size;have h7:bls (fs++[b])=bls fs++[.bool b]:=by simp[bls]
 exact⟨h2.kept g2 (fun j e hf=>by have:=Oj e;subst this;exact h2.off hb (by decide) (by decide) hf),h.sep,h.XY,fun j hj=>by have:=h.lt j hj;omega,by rw[h1];simp,by
  rw[List.length_append,h7]
  exact ho.kept g2 (.inr (zS ho hb (by decide))),h3.kept g2 (.inr (zS h3 hb (by decide))),h4.keptT g2 (fun j e=>by have:=Oj e;subst this;exact h5),h.lo,⟨h.loB.1,by have:=h.loB.2;omega⟩,zB (zB h.grown hg (fun j e=>Nat.le_trans h.lo (h.ownF.lt j e).1)) g2 (fun j e=>by have e:o2=j:=Oj e;have:=h.lo;omega)⟩
end
end Go.Proofs.Ytjfdomfendbhfaa
namespace Go.Proofs.Ytjfdomfendbhfaa
def nW (d:DfaV)(k q x:Nat):List Nat:=(List.range x).map (fun a=>(zX d k).idxOf (nx d q a))++List.replicate (k - x) 0
theorem nV {d:DfaV}{k q x:Nat}(h:x<=k):(nW d k q x).length=k:=by simp[nW];omega
theorem exRow_set {d:DfaV}{k q x:Nat}(h:x<k):(nW d k q x).set x ((zX d k).idxOf (nx d q x))=nW d k q (x+1):=by
 unfold nW;rw[List.set_append_right _ _ (by simp),List.range_succ,List.map_append,show k - x=(k - (x+1))+1 by omega,List.replicate_succ];simp
theorem exRow_zero (d:DfaV)(k q:Nat):nW d k q 0=List.replicate k 0:=by simp[nW]
theorem exRow_full {d:DfaV}{n k q:Nat}(hd:VD d n k)(hA:∀ a,a<k->nx d q a∈zX d k)(hq:q<n):zl (nW d k q k)=xQ (zX d k) (d.next.getD q []):=by
 have hr:=hd.row q hq;refine List.ext_getElem (by rw[qII,nV (Nat.le_refl k),xQ,List.length_map,hr]) fun a h1 h2=>?_;have ha:a<k:=by simpa [zl,nW] using h1
 have e2:(xQ (zX d k) (d.next.getD q []))[a]=rI (zX d k) ((d.next.getD q [])[a]'(by rw[hr];exact ha)).toNat:=by simp[xQ]
 rw[e2]
 have e3:((d.next.getD q [])[a]'(by rw[hr];exact ha)).toNat=nx d q a:=by
  show _=(ent d.next q a).toNat;unfold ent;rw[zG (show a<(d.next.getD q []).length by rw[hr];exact ha)]
 rw[e3,rI,if_pos (hA a ha)];simp[zl,nW]
structure ExL (d:DfaV)(n k i:Nat)(l:List Nat):Prop where
 acc:AccI d n k i l
 go:rM d k (n - i) i l=zX d k
theorem ExL.start {d:DfaV}{n k:Nat}(hd:VD d n k):ExL d n k 0 [st0 d]:=⟨AccI.start hd,by rw[zX,hd.hn];rfl⟩
theorem ExL.le {d:DfaV}{n k i:Nat}{l:List Nat}(h:ExL d n k i l):l.length<=n:=mU h.acc.nd h.acc.lt
theorem ExL.next {d:DfaV}{n k i:Nat}{l:List Nat}(hd:VD d n k)(h:ExL d n k i l)(hi:i<l.length):ExL d n k (i+1) (wV d l i k):=by
 refine⟨h.acc.row hd hi,?_⟩;have:=h.le;have e:n - i=(n - (i+1))+1:=by omega
 have g:=h.go;rw[e,rM,if_pos hi]at g;exact g
theorem ExL.done {d:DfaV}{n k i:Nat}{l:List Nat}(h:ExL d n k i l)(hi:¬ i<l.length):l=zX d k:=by
 have g:=h.go;rw[dV hi]at g;exact g
theorem gH (d:DfaV)(k:Nat):∀ f i l,l <+: rM d k f i l
 | 0,_,l=>List.prefix_refl l
 | f+1,i,l=>by
  rw[rM]
  split
  ·exact(uS d l i k).trans (gH d k f (i+1) _)
  ·exact List.prefix_refl l
theorem kM (d:DfaV)(l:List Nat)(i:Nat):∀ {a b},a<=b->wV d l i a <+: wV d l i b
 | a,0,h=>by rw[show a=0 by omega];exact List.prefix_refl _
 | a,b+1,h=>by
  by_cases e:a=b+1
  ·rw[e];exact List.prefix_refl _
  ·exact(kM d l i (by omega)).trans (oT _ _)
theorem ExL.pre {d:DfaV}{n k i:Nat}{l:List Nat}(hd:VD d n k)(h:ExL d n k i l)(hi:i<l.length){x:Nat}(hx:x<=k):wV d l i x <+: zX d k:=by
 have h2:=(h.next hd hi).go;exact(kM d l i hx).trans (h2 ▸ gH d k _ _ _)
theorem ExL.idx {d:DfaV}{n k i:Nat}{l:List Nat}(hd:VD d n k)(h:ExL d n k i l)(hi:i<l.length){x:Nat}(hx:x<k):(wV d l i (x+1)).idxOf (nx d (l.getD i 0) x)=(zX d k).idxOf (nx d (l.getD i 0) x) :=
 (iZ (h.pre hd hi (show x+1<=k by omega)) (tJ.2 (.inr ⟨x,by omega,rfl⟩))).symm
theorem ExL.done_mem {d:DfaV}{n k i:Nat}{l:List Nat}(hd:VD d n k)(h:ExL d n k i l)(hi:i<l.length){a:Nat}(ha:a<k):nx d (l.getD i 0) a∈zX d k :=
 (h.pre hd hi (show a+1<=k by omega)).subset (tJ.2 (.inr ⟨a,by omega,rfl⟩))
theorem ExL.rowLen {d:DfaV}{n k i:Nat}{l:List Nat}(hd:VD d n k)(h:ExL d n k i l)(hi:i<l.length){x:Nat}(hx:x<=k):(wV d l i x).length<=n:=by
 have h1:=(kM d l i hx).length_le;have h2:=(h.next hd hi).le;omega
theorem nG {l m:List Nat}(h:l <+: m){i:Nat}(hi:i<=l.length):m.take i=l.take i:=by
 obtain⟨r,rfl⟩:=h;rw[List.take_append_of_le_length hi]
end Go.Proofs.Ytjfdomfendbhfaa
namespace Go.Proofs.Ytjfdomfendbhfaa
open Go.RowKit
theorem qBD {P:Program}{ops:Array Oper}{o:Oper}{a:Act}{w:World}{K:Act->World->Prop}{Q:Exit->Act->World->Prop}{R:Prop}(hgd:o.guard=none)(s x:Operand)(t:TypeId)(ho:o.op=.call { callee:=.builtin .append,args:=#[s,x],argTypes:=#[t,t] }){e:TypeId}{z:Value}{bytes:Nat}(E:ElemOk P t e z bytes)(base:Nat)(v:Value)(n:Nat)(xs:List Value)(hs:a.eval s=v)(hown:w.ownsRow base e 1 v n xs)(u:Value)(blk:Nat)(m:Nat×Nat)(hx:a.eval x=.slice (some ⟨blk,0,none⟩) 1 1)(hblk:w.heap[blk]?=some (.cells #[u] e m))(h1:u.oneCell'=true)(h63:n+1<=maxLen)(hbytes:(n+1) * bytes<=140737488355328)(hbase:base<=w.heap.size)(h:∀ sa sc w',w'.ownsRow base e 1 (.slice sa (n+1) sc) (n+1) (xs++[u])->w.grownBy w' v.ownBlock->K (a.put o.dst (.slice sa (n+1) sc)) w'):
  if Region.wanted o (yielded ops a.tmps)=true then Oper.wp P o a w K Q else R:=by
 have hw:Region.wanted o (yielded ops a.tmps)=true:=by simp[Region.wanted,hgd]
 rw[if_pos hw];obtain⟨i,hi,hz,h0,h3⟩:=info_parts E.hi;refine wp_append_own w s x t ho base e i z 1 bytes E.ht hi hz h0 h3 E.hz (by decide) v n xs hs hown ⟨blk,0,none⟩ 1 1 [u] hx rfl ?_ ?_ h63 hbytes hbase ?_
 ·intro j u' hj
  match j,hj with
  | 0,hj=>simp at hj;subst hj;simpa [Addr.add] using zJ hblk 0 (by simp)
 ·intro u' hu;simp at hu;subst hu;exact h1
 ·intro v' w' h1 h2 _
  obtain⟨sa,sc,rfl⟩:=rU h1;exact h sa sc w' h1 h2
end Go.Proofs.Ytjfdomfendbhfaa
