/- Part 4 of the proof. -/
import Derived.Test.YtjfdomfendbhfaaQg3
import Derived.WalkSpells
import Derived.Deep.RegionLaw
set_option linter.unusedVariables false
set_option linter.unusedSimpArgs false
set_option maxRecDepth 100000
set_option maxHeartbeats 16000000
namespace Go.Proofs.Ytjfdomfendbhfaa
open Go.RowKit
theorem RowT.shape {B:Nat}{e:TypeId}{w:World}{v:Value}{xs:List Value}(h:RowT B e w v xs):∃ a cap,v=.slice a xs.length cap:=by
 rcases h with ⟨rfl,rfl⟩|⟨b,off,cap,cur,m,rfl,_⟩
 ·exact⟨none,0,rfl⟩
 ·exact⟨_,_,rfl⟩
theorem Mat.of_rows {w:World}{base e n:Nat}{v:Value}{hs:List Value}{t:List (List Int)}{B:Nat}(h:w.ownsRow base e 1 v n hs)(hr:wH B 3 ints w hs t)(hB:B<=w.heap.size):Mat w.heap.size w v t:=by
 have hl:hs.length=n:=by have:=h.1;omega
 have h3:=hr.1;rcases h.2 with ⟨rfl,rfl⟩|⟨g,cap,cur,rfl,hb,hg,hnc,hcm,hcs,htake⟩
 ·have:hs=[]:=List.eq_nil_of_length_eq_zero hl
  subst this;exact .inl ⟨_,_,rfl,List.eq_nil_of_length_eq_zero (by simpa using h3.symm)⟩
 ·have h0:∀ x,∃ a c,x<t.length->hs.getD x (.int .i64 0)=.slice a (t.getD x []).length c:=by
   intro x;by_cases hx:x<t.length
   ·have h1:=hr.2 x (by omega) hx
    obtain⟨a,c,e⟩:=h1.shape;refine⟨a,c,fun _=>?_⟩;rw[zG (by omega),e,yE,zG hx]
   ·exact⟨none,0,fun h=>absurd h hx⟩
  obtain⟨A,hA⟩:=Classical.axiomOfChoice h0;obtain⟨C,hC⟩:=Classical.axiomOfChoice hA;refine .inr ⟨g,0,cap,A,C,?_,by omega,hcm,zK hg,zK hg,fun x hx=>?_,fun x hx=>?_⟩
  ·rw[show n=t.length by omega]
  ·rw[Nat.zero_add,h.cellAt x (by omega),List.getElem?_eq_getElem (by omega),<- hC x hx,zG (show x<hs.length by omega)]
  ·have h1:=hr.2 x (by omega) hx
   have h2:=hC x hx;rw[zG (show x<hs.length by omega)]at h2;rw[<- h2,zG hx];exact h1.row.mono hB
theorem RowT.keptF {B:Nat}{e:TypeId}{w w':World}{v:Value}{xs:List Value}{F:Nat->Prop}(h:RowT B e w v xs)(hg:GrownBut w w' F)(hr:∀ k,F k->B<=k\/yH w e k):RowT B e w' v xs:=by
 rcases h with h|⟨b,off,cap,cur,m,h1,h2,h3,h4,h5,h6⟩
 ·exact .inl h
 ·refine .inr ⟨b,off,cap,cur,m,h1,h2,h3,h4,hg.heap h5 (fun hf=>?_),h6⟩
  rcases hr b hf with hk|⟨cur',e',m',hk,hne⟩
  ·omega
  ·rw[h5]at hk;simp at hk;exact hne hk.2.1.symm
theorem wH.keptF {α:Type}{B:Nat}{e:TypeId}{f:α->List Value}{w w':World}{svs:List Value}{ps:List α}{F:Nat->Prop}(h:wH B e f w svs ps)(hg:GrownBut w w' F)(hr:∀ k,F k->B<=k\/yH w e k):wH B e f w' svs ps :=
 ⟨h.1,fun i h1 h2=>(h.2 i h1 h2).keptF hg hr⟩
theorem uF {w:World}{p e:Nat}{x0 x1 x2 x3:Value}(h:w.heap[p]?=some (.cells #[x0,x1,x2,x3] e (0,0)))(y0 y1 y2 y3:Value):((((w.setCell ⟨p,0,none⟩ y0).setCell ⟨p,1,none⟩ y1).setCell ⟨p,2,none⟩ y2).setCell ⟨p,3,none⟩ y3).heap[p]?=some (.cells #[y0,y1,y2,y3] e (0,0))/\w.grownBy ((((w.setCell ⟨p,0,none⟩ y0).setCell ⟨p,1,none⟩ y1).setCell ⟨p,2,none⟩ y2).setCell ⟨p,3,none⟩ y3) (some p):=by
 have s0:=heap_setCell_same w p 0 _ _ y0 h;have s1:=heap_setCell_same _ p 1 _ _ y1 s0;have s2:=heap_setCell_same _ p 2 _ _ y2 s1;have s3:=heap_setCell_same _ p 3 _ _ y3 s2;refine⟨by rw[s3];simp,?_⟩;exact zD (zD (zD (zC w ⟨p,0,none⟩ y0) (zC (w.setCell ⟨p,0,none⟩ y0) ⟨p,1,none⟩ y1)) (zC ((w.setCell ⟨p,0,none⟩ y0).setCell ⟨p,1,none⟩ y1) ⟨p,2,none⟩ y2)) (zC (((w.setCell ⟨p,0,none⟩ y0).setCell ⟨p,1,none⟩ y1).setCell ⟨p,2,none⟩ y2) ⟨p,3,none⟩ y3)
structure Built (base:Nat)(W:World)(o:Nat)(L S:Int)(fs:List Bool)(t:List (List Int))(hs:List Value)(sf:Option Addr)(cf:Nat)(sn:Option Addr)(cn:Nat):Prop where
 box:W.heap[o]?=some (.cells #[.int .i64 L,.int .i64 S,.slice sf fs.length cf,.slice sn t.length cn] 42 (0,0))
 ownF:W.ownsRow base 4 1 (.slice sf fs.length cf) fs.length (bls fs)
 ownN:W.ownsRow base 34 1 (.slice sn t.length cn) t.length hs
 rows:wH W.heap.size 3 ints W hs t
 len:fs.length=t.length
section
variable {base o:Nat} {W W':World} {L S:Int} {fs:List Bool} {t:List (List Int)} {hs:List Value} {sf sn:Option Addr} {cf cn:Nat}
theorem Built.grow (h:Built base W o L S fs t hs sf cf sn cn)(hg:W.grownBy W' none):Built base W' o L S fs t hs sf cf sn cn where
 box:=zB h.box hg (by simp)
 ownF:=yR h.ownF hg (by simp)
 ownN:=yR h.ownN hg (by simp)
 rows:=(h.rows.kept hg (by simp)).mono hg.size
 len:=h.len
theorem Built.dfa (h:Built base W o L S fs t hs sf cf sn cn):uW W.heap.size W (.agg #[.int .i64 L,.int .i64 S,.slice sf fs.length cf,.slice sn t.length cn]) ⟨L,S,fs,t⟩ :=
 ⟨_,_,rfl,Row.of_owns h.ownF,Mat.of_rows h.ownN h.rows (Nat.le_refl _)⟩
theorem Built.far {r:Nat}{cs:Array Value}{m:Nat×Nat}(h:Built base W o L S fs t hs sf cf sn cn)(hg:W.grownBy W' (some r))(hr:W.heap[r]?=some (.cells cs 42 m))(hne:r≠o):Built base W' o L S fs t hs sf cf sn cn where
 box:=zB h.box hg (fun e=>hne (Oj e))
 ownF:=h.ownF.kept hg (.inr (zQ h.ownF hr (by decide)))
 ownN:=h.ownN.kept hg (.inr (zQ h.ownN hr (by decide)))
 rows:=(h.rows.kept hg (fun k hk=>.inr (by have:=Oj hk;subst this;exact⟨_,_,_,hr,by decide⟩))).mono hg.size
 len:=h.len
theorem Built.congr {fs':List Bool}{t':List (List Int)}(h:Built base W o L S fs t hs sf cf sn cn)(e1:fs'=fs)(e2:t'=t):Built base W o L S fs' t' hs sf cf sn cn:=by rw[e1,e2];exact h
def rN (base:Nat)(n:Nat)(hs:List Value)(sn:Option Addr)(cn:Nat):RowS:=⟨base,34,.slice sn n cn,n,hs,1⟩
def rF (base:Nat)(fs:List Bool)(sf:Option Addr)(cf:Nat):RowS:=⟨base,4,.slice sf fs.length cf,fs.length,bls fs,1⟩
theorem Built.apart (h:Built base W o L S fs t hs sf cf sn cn):∀ k,(Value.slice sn t.length cn).ownBlock=some k->(Value.slice sf fs.length cf).ownBlock≠some k:=by
 intro k hk e;rcases h.ownF.2 with ⟨hv,_⟩|⟨g,cap,cur,hv,_,hg,_⟩
 ·rw[hv]at e;simp[Value.ownBlock]at e
 ·rw[hv]at e
  have:g=k:=by simpa [Value.ownBlock] using e
  subst this;exact zQ h.ownN hg (by decide) hk
def FB (sf:Option Addr)(sn:Option Addr)(k:Nat):Prop:=(Value.slice sn 0 0).ownBlock=some k\/(Value.slice sf 0 0).ownBlock=some k
theorem zU (s:Option Addr)(n c:Nat):(Value.slice s n c).ownBlock=(Value.slice s 0 0).ownBlock:=by cases s<;>rfl
theorem Built.many (h:Built base W o L S fs t hs sf cf sn cn):Many W (FB sf sn) W [rN base t.length hs sn cn,rF base fs sf cf] [] []:=by
 have:=Many.two (w:=W) (r:=rN base t.length hs sn cn) (s:=rF base fs sf cf) h.ownN h.ownF h.apart
 have e:(fun k=>(rN base t.length hs sn cn).v.ownBlock=some k\/(rF base fs sf cf).v.ownBlock=some k)=FB sf sn:=by
  funext k;simp only[rN,rF,FB,zU sn t.length,zU sf fs.length]
 rwa [e]at this
theorem Built.other (h:Built base W o L S fs t hs sf cf sn cn):∀ k,FB sf sn k->yH W 3 k:=by
 intro k hk;rcases hk with hk|hk
 ·rw[<- zU sn t.length cn]at hk;exact zS h.ownN (by decide) k hk
 ·rw[<- zU sf fs.length cf]at hk;exact zS h.ownF (by decide) k hk
theorem Built.notbox (h:Built base W o L S fs t hs sf cf sn cn):¬ FB sf sn o:=by
 rintro (hk|hk)
 ·rw[<- zU sn t.length cn]at hk;exact zQ h.ownN h.box (by decide) hk
 ·rw[<- zU sf fs.length cf]at hk;exact zQ h.ownF h.box (by decide) hk
theorem Built.ge (h:Built base W o L S fs t hs sf cf sn cn):∀ k,FB sf sn k->base<=k:=by
 rintro k (hk|hk)
 ·rw[<- zU sn t.length cn]at hk;exact(h.ownN.lt k hk).1
 ·rw[<- zU sf fs.length cf]at hk;exact(h.ownF.lt k hk).1
theorem Built.push {m:Nat}{b:Bool}{row:List Int}{rv:Value}{sf' sn':Option Addr}{cf' cn':Nat}{ls:List (Nat×Obj)}{ps:List (Nat×TypeId×List Value)}(h:Built base W o L S fs t hs sf cf sn cn)(hm:t.length=m)(hM:Many W (FB sf sn) W' [⟨base,34,.slice sn' (m+1) cn',m+1,hs++[rv],1⟩,⟨base,4,.slice sf' (m+1) cf',m+1,bls fs++[.bool b],1⟩] ls ps)(hrow:RowT W.heap.size 3 W rv (ints row)){W2:World}(hW2:W2=(W'.setCell ⟨o,3,none⟩ (.slice sn' (m+1) cn')).setCell ⟨o,2,none⟩ (.slice sf' (m+1) cf')):Built base W2 o L S (fs++[b]) (t++[row]) (hs++[rv]) sf' cf' sn' cn'/\∀ w0:World,w0.grownBy W (some o)->w0.heap.size<=base->w0.grownBy W2 (some o):=by
 have h2:fs.length=m:=h.len.trans hm;have hN:=hM.own 0 _ rfl;have hF:=hM.own 1 _ rfl;simp only[]at hN hF;have h0:=hM.but.heap h.box h.notbox;have h1:=(h.rows.snoc hrow).keptF hM.but (fun k hk=>.inr (h.other k hk));have s1:=heap_setCell_same W' o 3 _ _ (.slice sn' (m+1) cn') h0;have s2:=heap_setCell_same _ o 2 _ _ (.slice sf' (m+1) cf') s1;have g1:W'.grownBy W2 (some o):=by rw[hW2];exact zD (zC W' ⟨o,3,none⟩ _) (zC (W'.setCell ⟨o,3,none⟩ (.slice sn' (m+1) cn')) ⟨o,2,none⟩ _)
 have h3:yH W' 3 o:=⟨_,_,_,h0,by decide⟩;refine⟨⟨?_,?_,?_,?_,by simp[h.len]⟩,fun w0 hw0 hb=>?_⟩
 ·rw[hW2,s2]
  simp[h2,hm]
 ·have:=hF.kept g1 (.inr (zQ hF h0 (by decide)))
  rw[List.length_append,h2];simpa [bls] using this
 ·have:=hN.kept g1 (.inr (zQ hN h0 (by decide)))
  rw[List.length_append,hm];exact this
 ·exact(h1.kept g1 (fun k hk=>.inr (by have:=Oj hk;subst this;exact h3))).mono (Nat.le_trans hM.but.size g1.size)
 ·exact zD (hM.but.grown hw0 (fun k hk=>.inr (Nat.le_trans hb (h.ge k hk)))) g1
def pT (w w':World)(v:Value)(m:DfaV):Prop:=∃ (o:Nat) (hs:List Value) (sf:Option Addr) (cf:Nat) (sn:Option Addr) (cn:Nat),
 v=.agg #[.int .i64 m.letters,.int .i64 m.start,.slice sf m.final.length cf,.slice sn m.next.length cn]/\w.heap.size<=o/\Built o w' o m.letters m.start m.final m.next hs sf cf sn cn
theorem pT.grow {w w' w'':World}{v:Value}{m:DfaV}(h:pT w w' v m)(hg:w'.grownBy w'' none):pT w w'' v m:=by
 obtain⟨o,hs,sf,cf,sn,cn,h1,h2,hb⟩:=h;exact⟨o,hs,sf,cf,sn,cn,h1,h2,hb.grow hg⟩
theorem pT.far {w w' w'':World}{v:Value}{m:DfaV}{r:Nat}{cs:Array Value}{mm:Nat×Nat}(h:pT w w' v m)(hg:w'.grownBy w'' (some r))(hr:w'.heap[r]?=some (.cells cs 42 mm))(hlt:r<w.heap.size):pT w w'' v m:=by
 obtain⟨o,hs,sf,cf,sn,cn,h1,h2,hb⟩:=h;exact⟨o,hs,sf,cf,sn,cn,h1,h2,hb.far hg hr (by omega)⟩
end
def RowX (X:Nat->Prop)(e:TypeId)(w:World)(v:Value)(xs:List Value):Prop:=RowT w.heap.size e w v xs/\∀ k,v.ownBlock=some k->X k
def vZ (X:Nat->Prop)(w w':World):Prop:=∀ k,X k->w'.heap[k]?=w.heap[k]?
theorem vZ.trans {X:Nat->Prop}{a b c:World}(h:vZ X a b)(h':vZ X b c):vZ X a c:=fun k hk=>(h' k hk).trans (h k hk)
theorem vZ.refl (X:Nat->Prop)(w:World):vZ X w w:=fun _ _=>rfl
theorem RowX.kept {X:Nat->Prop}{e:TypeId}{w w':World}{v:Value}{xs:List Value}(h:RowX X e w v xs)(hk:vZ X w w')(hs:w.heap.size<=w'.heap.size):RowX X e w' v xs:=by
 refine⟨?_,h.2⟩;rcases h.1 with h1|⟨b,off,cap,cur,m,h1,h2,h3,h4,h5,h6⟩
 ·exact .inl h1
 ·exact .inr ⟨b,off,cap,cur,m,h1,by omega,h3,h4,(hk b (h.2 b (by rw[h1];rfl))).trans h5,h6⟩
theorem RowX.mono {X X':Nat->Prop}{e:TypeId}{w:World}{v:Value}{xs:List Value}(h:RowX X e w v xs)(hX:∀ k,X k->X' k):RowX X' e w v xs:=⟨h.1,fun k hk=>hX k (h.2 k hk)⟩
theorem RowX.row {X:Nat->Prop}{e:TypeId}{w:World}{v:Value}{xs:List Value}(h:RowX X e w v xs):Row w.heap.size w v xs:=h.1.row
theorem RowX.of_owns {X:Nat->Prop}{w:World}{base e n:Nat}{v:Value}{xs:List Value}(h:w.ownsRow base e 1 v n xs)(hX:∀ k,v.ownBlock=some k->X k):RowX X e w v xs:=⟨RowT.of_owns h,hX⟩
def uE {α:Type}(X:Nat->Prop)(e:TypeId)(f:α->List Value)(w:World)(hs:List Value)(ts:List α):Prop :=
 hs.length=ts.length/\∀ i (h:i<hs.length) (h':i<ts.length),RowX X e w hs[i] (f ts[i])
section
variable {α:Type} {X X':Nat->Prop} {e:TypeId} {f:α->List Value} {w w':World} {hs:List Value} {ts:List α}
theorem uE.nil:uE X e f w [] []:=⟨rfl,fun i h=>by simp at h⟩
theorem uE.kept (h:uE X e f w hs ts)(hk:vZ X w w')(hs':w.heap.size<=w'.heap.size):uE X e f w' hs ts:=⟨h.1,fun i h1 h2=>(h.2 i h1 h2).kept hk hs'⟩
theorem uE.mono (h:uE X e f w hs ts)(hX:∀ k,X k->X' k):uE X' e f w hs ts:=⟨h.1,fun i h1 h2=>(h.2 i h1 h2).mono hX⟩
theorem uE.snoc {v:Value}{t:α}(h:uE X e f w hs ts)(hv:RowX X e w v (f t)):uE X e f w (hs++[v]) (ts++[t]):=by
 refine⟨by simp[h.1],fun i h1 h2=>?_⟩;by_cases hi:i<hs.length
 ·rw[List.getElem_append_left hi]
  simp only[List.getElem_append_left (show i<ts.length by rw[<- h.1];exact hi)];exact h.2 i hi _
 ·have:i=hs.length:=by simp at h1;omega
  subst this;rw[List.getElem_append_right (Nat.le_refl _)];simp only[List.getElem_append_right (show ts.length<=hs.length by rw[h.1];exact Nat.le_refl _)];simpa [h.1] using hv
end
structure EMem (X:Nat->Prop)(W:World)(rs:List RowS):Prop where
 own:∀ r∈rs,W.ownsRow r.base r.e r.sz r.v r.n r.xs
 apart:rs.Pairwise (fun r s=>∀ k,r.v.ownBlock=some k->s.v.ownBlock≠some k)
 offX:∀ r∈rs,∀ k,r.v.ownBlock=some k->¬ X k
 lt:∀ k,X k->k<W.heap.size
def qHM (rs:List RowS)(k:Nat):Prop:=∃ r∈rs,r.v.ownBlock=some k
section
variable {X:Nat->Prop} {W W':World} {rs rs':List RowS}
theorem EMem.many (h:EMem X W rs)(F:Nat->Prop)(hF:∀ k,qHM rs k->F k):Many W F W rs [] []:=Many.start h.own (fun r hr k hk=>hF k ⟨r,hr,hk⟩) h.apart
theorem EMem.grow (h:EMem X W rs)(hg:W.grownBy W' none):EMem X W' rs:=⟨fun r hr=>zP (h.own r hr) hg,h.apart,h.offX,fun k hk=>Nat.lt_of_lt_of_le (h.lt k hk) hg.size⟩
theorem vZ.of_grown {row:Option Nat}(hlt:∀ k,X k->k<W.heap.size)(hg:W.grownBy W' row)(hr:∀ k,row=some k->¬ X k):vZ X W W':=fun k hk=>hg.block k (hlt k hk) (fun e=>hr k e.symm hk)
theorem EMem.keep (h:EMem X W rs)(hg:W.grownBy W' none):vZ X W W':=vZ.of_grown h.lt hg (by simp)
theorem EMem.after {F:Nat->Prop}{ls:List (Nat×Obj)}(h:EMem X W rs)(hM:Many W F W' rs' ls [])(hF:∀ k,F k->¬ X k):EMem X W' rs' where
 own:=fun r hr=>by
  obtain⟨i,hi,e⟩:=List.getElem_of_mem hr
  exact hM.own i r (by rw[List.getElem?_eq_getElem hi,e])
 apart:=by
  rw[List.pairwise_iff_getElem];intro i j hi hj h0;exact hM.apart i j _ _ (by omega) (List.getElem?_eq_getElem hi) (List.getElem?_eq_getElem hj)
 offX:=fun r hr k hk hx=>by
  obtain⟨i,hi,e⟩:=List.getElem_of_mem hr;rcases hM.mine i r (by rw[List.getElem?_eq_getElem hi,e]) k hk with hf|hf
  ·exact hF k hf hx
  ·have:=h.lt k hx;omega
 lt:=fun k hk=>Nat.lt_of_lt_of_le (h.lt k hk) hM.but.size
theorem EMem.far (h:EMem X W rs){o:Nat}(hg:W.grownBy W' (some o))(hr:∀ r∈rs,r.v.ownBlock≠some o):EMem X W' rs where
 own:=fun r hr'=>(h.own r hr').kept hg (.inr (hr r hr'))
 apart:=h.apart
 offX:=h.offX
 lt:=fun k hk=>Nat.lt_of_lt_of_le (h.lt k hk) hg.size
theorem EMem.retire {r:RowS}(h:EMem X W (rs++[r])):EMem (fun k=>X k\/r.v.ownBlock=some k) W rs where
 own:=fun s hs=>h.own s (List.mem_append_left _ hs)
 apart:=(List.pairwise_append.1 h.apart).1
 offX:=fun s hs k hk hx=>by
  rcases hx with hx|hx
  ·exact h.offX s (List.mem_append_left _ hs) k hk hx
  ·exact(List.pairwise_append.1 h.apart).2.2 s hs r (by simp) k hk hx
 lt:=fun k hx=>by
  rcases hx with hx|hx
  ·exact h.lt k hx
  ·exact((h.own r (by simp)).lt k hx).2
theorem EMem.fresh (h:EMem X W rs)(hg:W.grownBy W' none){Y:Nat->Prop}(hY:∀ k,Y k->W.heap.size<=k/\k<W'.heap.size):EMem (fun k=>X k\/Y k) W' rs where
 own:=fun r hr=>zP (h.own r hr) hg
 apart:=h.apart
 offX:=fun r hr k hk hx=>by
  rcases hx with hx|hx
  ·exact h.offX r hr k hk hx
  ·have:=((h.own r hr).lt k hk).2
   have:=(hY k hx).1
   omega
 lt:=fun k hx=>by
  rcases hx with hx|hx
  ·exact Nat.lt_of_lt_of_le (h.lt k hx) hg.size
  ·exact(hY k hx).2
theorem EMem.add (h:EMem X W rs)(hg:W.grownBy W' none){r:RowS}(ho:W'.ownsRow r.base r.e r.sz r.v r.n r.xs)(hn:∀ k,r.v.ownBlock=some k->W.heap.size<=k):EMem X W' (rs++[r]) where
 own:=fun s hs=>by
  rcases List.mem_append.1 hs with hs|hs
  ·exact zP (h.own s hs) hg
  ·rw[List.mem_singleton]at hs;subst hs;exact ho
 apart:=by
  rw[List.pairwise_append];refine⟨h.apart,by simp,fun s hs t ht k hk e=>?_⟩;rw[List.mem_singleton]at ht;subst ht;have:=((h.own s hs).lt k hk).2;have:=hn k e;omega
 offX:=fun s hs k hk hx=>by
  rcases List.mem_append.1 hs with hs|hs
  ·exact h.offX s hs k hk hx
  ·rw[List.mem_singleton]at hs;subst hs
   have:=h.lt k hx;have:=hn k hk;omega
 lt:=fun k hk=>Nat.lt_of_lt_of_le (h.lt k hk) hg.size
end
theorem uE.rowsT {α:Type}{X:Nat->Prop}{e:TypeId}{f:α->List Value}{w:World}{hs:List Value}{ts:List α}(h:uE X e f w hs ts):wH w.heap.size e f w hs ts:=⟨h.1,fun i h3 h4=>(h.2 i h3 h4).1⟩
theorem EMem.appAt {X:Nat->Prop}{W W':World}{rs:List RowS}(h:EMem X W rs){j:Nat}{r:RowS}(hr:rs[j]?=some r){v':Value}{n':Nat}{us:List Value}(ho:W'.ownsRow r.base r.e r.sz v' n' (r.xs++us))(hg:W.grownBy W' r.v.ownBlock)(hm:qH W W' r.v v'):EMem X W' (rs.set j ⟨r.base,r.e,v',n',r.xs++us,r.sz⟩) :=
 h.after ((h.many (qHM rs) (fun _ h=>h)).append hr ho hg hm) (fun k hk=>by obtain⟨r,hr,hk⟩:=hk;exact h.offX r hr k hk)
theorem Arr.rowT' {w:World}{g cap:Nat}{e:TypeId}{xs:List Value}(h:Arr w g e xs)(hc:xs.length<=cap)(hm:cap<=maxLen):RowT w.heap.size e w (.slice (some ⟨g,0,none⟩) xs.length cap) xs:=by
 have h1:=h.lt;obtain⟨cur,rest,hg,h0⟩:=h;refine .inr ⟨g,0,cap,cur,(0,0),rfl,h1,hc,hm,hg,fun i hi=>?_⟩;rw[Nat.zero_add,<- Array.getElem?_toList,h0,List.getElem?_append_left hi,List.getElem?_eq_getElem hi]
open Go.Maps
def zl (l:List Nat):List Int:=l.map fun(x:Nat)=>(x:Int)
theorem aY {l : List Nat}{x : Nat}: ((x : Nat) : Int) ∈ zl l ↔ x ∈ l := by
  simp only [zl, List.mem_map]
  exact ⟨fun ⟨y, hy, e⟩ => by have : y = x := by omega
                              exact this ▸ hy, fun h => ⟨x, h, rfl⟩⟩
theorem zl_idx {l:List Nat}{x:Nat}(h:x∈l):(zl l).idxOf ((x:Nat):Int)=l.idxOf x:=idxOf_map_inj (fun(x:Nat)=>(x:Int)) l x h (fun y _ e=>by omega)
theorem qHJ (l:List Nat):(zl l).length=l.length:=by simp[zl]
theorem zl_snoc (l:List Nat)(x:Nat):zl (l++[x])=zl l++[(x:Int)]:=by simp[zl]
def NF (o:Nat)(sa:Option Addr)(mv:Option Nat)(k:Nat):Prop:=k=o\/(Value.slice sa 0 0).ownBlock=some k\/mv=some k
structure NumSt (base:Nat)(W:World)(o:Nat)(sa:Option Addr)(sc:Nat)(mv:Option Nat)(l:List Nat):Prop where
 box:W.heap[o]?=some (.cells #[.slice sa l.length sc,.map mv] 181 (0,0))
 own:W.ownsRow base 3 1 (.slice sa l.length sc) l.length (nats l)
 map:(mv=none/\l=[])\/∃ mb,mv=some mb/\base<=mb/\mb≠o/\(Value.slice sa 0 0).ownBlock≠some mb/\mb<W.heap.size/\rM W mb l.length (zl l)
 lo:base<=o
theorem NumSt.ge {base:Nat}{W:World}{o:Nat}{sa:Option Addr}{sc:Nat}{mv:Option Nat}{l:List Nat}(h:NumSt base W o sa sc mv l):∀ k,NF o sa mv k->base<=k/\k<W.heap.size:=by
 rintro k (rfl|hk|hk)
 ·exact⟨h.lo,zK h.box⟩
 ·rw[<- zU sa l.length sc]at hk;exact h.own.lt k hk
 ·rcases h.map with ⟨e,_⟩|⟨mb,e,h1,_,_,h2,_⟩
  ·rw[e]at hk;cases hk
  ·rw[e]at hk;have:=Oj hk;subst this;exact⟨h1,h2⟩
theorem NumSt.kept {base:Nat}{W W':World}{o:Nat}{sa:Option Addr}{sc:Nat}{mv:Option Nat}{l:List Nat}{row:Option Nat}(h:NumSt base W o sa sc mv l)(hg:W.grownBy W' row)(hr:∀ k,row=some k->¬ NF o sa mv k):NumSt base W' o sa sc mv l where
 box:=zB h.box hg (fun e=>hr o e (.inl rfl))
 own:=h.own.kept hg (by
  rcases hv:(Value.slice sa l.length sc).ownBlock with _|k
  ·exact .inl rfl
  ·exact .inr fun e=>hr k e.symm (.inr (.inl (by rw[zU]at hv;exact hv))))
 map:=by
  rcases h.map with h|⟨mb,e,h1,h2,h3,h4,h5⟩
  ·exact .inl h
  ·exact .inr ⟨mb,e,h1,h2,h3,Nat.lt_of_lt_of_le h4 hg.size,h5.kept hg (fun e2=>hr mb e2 (.inr (.inr e)))⟩
 lo:=h.lo
def qGW (base:Nat)(W:World)(o:Nat)(sa:Option Addr)(mv:Option Nat)(l:List Nat)(x:Nat)(e:Ending)(W':World):Prop :=
 ∃ sa' sc' mv',e=.returned (.int .i64 (((xP l x).idxOf x:Nat):Int))/\NumSt base W' o sa' sc' mv' (xP l x)/\GrownBut W W' (NF o sa mv)/\∀ k,NF o sa' mv' k->NF o sa mv k\/W.heap.size<=k
theorem addNew_idx_new {l:List Nat}{x:Nat}(h:x ∉ l):(xP l x).idxOf x=l.length:=by
 rw[wV h,List.idxOf_append,if_neg h];simp
theorem vL {w:World}{p e:Nat}{x0 x1:Value}(h:w.heap[p]?=some (.cells #[x0,x1] e (0,0))):w.cell? ⟨p,0,none⟩=some x0/\w.cell? ⟨p,1,none⟩=some x1:=by
 have c0:=zH h 0 (by simp);have c1:=zH h 1 (by simp);exact⟨by simpa using c0,by simpa using c1⟩
theorem qBA {base:Nat}{W w2 w3:World}{o mb:Nat}{sa sa':Option Addr}{sc sc':Nat}{mv:Option Nat}{l:List Nat}{x:Nat}(h0:base<=o)(hx:x ∉ l)(hb2:w2.heap[o]?=some (.cells #[.slice sa l.length sc,.map (some mb)] 181 (0,0)))(hmb:mb≠o)(hmb0:base<=mb)(hsm:(Value.slice sa 0 0).ownBlock≠some mb)(hmp:rM w2 mb (l.length+1) (zl l++[(x:Int)]))(hso:(Value.slice sa 0 0).ownBlock≠some o)(hown:w3.ownsRow base 3 1 (.slice sa' (l.length+1) sc') (l.length+1) (nats l++[.int .i64 (x:Int)]))(hg:w2.grownBy w3 (Value.slice sa l.length sc).ownBlock)(hmv:qH w2 w3 (.slice sa l.length sc) (.slice sa' (l.length+1) sc'))(hW:GrownBut W w2 (NF o sa mv))(hnew:mv=some mb\/W.heap.size<=mb):qGW base W o sa mv l x (.returned (.int .i64 ((l.length:Nat):Int))) (w3.setCell ⟨o,0,none⟩ (.slice sa' (l.length+1) sc')):=by
 have h4:=zB hb2 hg (fun e=>hso (by rw[zU]at e;exact e));have hs:=heap_setCell_same w3 o 0 _ _ (.slice sa' (l.length+1) sc') h4;have h2:=zC w3 ⟨o,0,none⟩ (.slice sa' (l.length+1) sc');have h5:=hmp.lt;have hz:=hg.size;have h6:=h2.size;have h1:(xP l x).length=l.length+1:=by rw[wV hx];simp
 have h3:(Value.slice sa' 0 0).ownBlock≠some mb:=by
  intro e;rw[<- zU sa' (l.length+1) sc']at e;rcases hmv with h|⟨_,h⟩
  ·rw[h,zU]at e;exact hsm e
  ·have:=h mb e;omega
 refine⟨sa',sc',some mb,by rw[addNew_idx_new hx],⟨?_,?_,?_,h0⟩,?_,fun k hk=>?_⟩
 ·rw[h1,hs];simp
 ·rw[h1,wV hx,vM]
  exact hown.kept h2 (.inr (zQ hown h4 (by decide)))
 ·refine .inr ⟨mb,rfl,hmb0,hmb,h3,by omega,?_⟩
  rw[h1,wV hx,zl_snoc];refine(hmp.kept hg (fun e=>hsm (by rw[zU]at e;exact e))).kept h2 (fun e=>hmb (Oj e).symm)
 ·refine(hW.step hg fun k hk=>?_).step h2 fun k hk=>?_
  ·rw[zU]at hk;exact .inl (.inr (.inl hk))
  ·exact .inl (.inl (Oj hk).symm)
 ·rcases hk with rfl|hk|hk
  ·exact .inl (.inl rfl)
  ·rw[<- zU sa' (l.length+1) sc']at hk
   rcases hmv with h|⟨_,h⟩
   ·rw[h,zU]at hk;exact .inl (.inr (.inl hk))
   ·exact .inr (Nat.le_trans hW.size (h k hk))
  ·have:=Oj hk;subst this
   rcases hnew with h|h
   ·exact .inl (.inr (.inr h))
   ·exact .inr h
theorem qBB (base:Nat)(W:World)(o:Nat)(sa:Option Addr)(sc:Nat)(mv:Option Nat)(l:List Nat)(x:Nat)(h:NumSt base W o sa sc mv l)(hb:base<=W.heap.size)(hl:l.length<=1073741824)(hx:x<4611686018427387904):Calls Try.prog 130 #[.pointer (some ⟨o,0,none⟩),.int .i64 (x:Int)] W (qGW base W o sa mv l x):=by
 have d3:=@run_makeMap Try.prog;have h8:Mid (x:Int):=⟨by omega,by omega⟩;have c8:∀ W,(binOp .eql 171 (.map none) (.map none)).run Try.prog W=.ok (.bool true) W:=fun W=>run_eql_map_nil W _ _ _ none sL;have c7:∀ W mb,(binOp .eql 171 (.map (some mb)) (.map none)).run Try.prog W=.ok (.bool false) W:=fun W mb=>run_eql_map_nil W _ _ _ (some mb) sL;obtain⟨c0,c1⟩:=vL h.box;have f0:=zE h.box 0;have f1:=zE h.box 1
 have a7:(Value.slice sa 0 0).ownBlock≠some o:=by
  intro e;rw[<- zU sa l.length sc]at e;exact zQ h.own h.box (by decide) e
 have H:=Kh h;have H3:=Kh a7;have h3:=Kh h8;clear a7 h8;rcases h.map with ⟨rfl,rfl⟩|⟨mb,rfl,hmb0,hmb,hsm,hml,hmp⟩
 ·have h9:(Instr.lookup 171 (.map none) (.int .i64 (x:Int)) true).run Try.prog W=.ok (.tuple #[.int .i64 0,.bool false]) W:=Maps.look_nil true aJ sL (iW W) (qCP h3.out)
  obtain⟨w1,h7⟩:∃ w1,w1=W.setCell ⟨o,1,none⟩ (.map (some W.heap.size)):=⟨_,rfl⟩;have H6:=zC W ⟨o,1,none⟩ (.map (some W.heap.size))
  have a8:w1.heap[o]?=some (.cells #[.slice sa ([]:List Nat).length sc,.map (some W.heap.size)] 181 (0,0)):=by
   rw[h7,heap_setCell_same W o 1 _ _ _ h.box];simp
  have a6:w1.heap.size=W.heap.size:=by rw[h7];simp[World.setCell]
  rw[<- h7]at H6;obtain⟨ws,H7⟩:∃ ws,ws=w1.alloc (.map #[] 0):=⟨_,rfl⟩;have H0:=Ga w1 (.map #[] 0) none;have H4:=Kh (rM.made w1);rw[<- H7]at H0 H4;rw[a6]at H4;have d4:=zK h.box;have a5:=Kh (zB a8 H0 (by simp));have b7:=Kh H7;have b8:=Kh h7;have c2:Hid (ws.ownsRow base 3 1 (.slice sa ([]:List Nat).length sc) ([]:List Nat).length (nats [])):=Kh (zP (h.own.kept H6 (.inr (by rw[zU];exact H3.out))) H0);have c3:Hid (GrownBut W ws (NF o sa none)):=Kh (((GrownBut.refl W _).step H6 (fun k hk=>.inl (.inl (Oj hk).symm))).step H0 (by simp));clear h a8 h7 H6 H7 H0 a6
  have h6:Hid ((Value.slice sa 0 0).ownBlock≠some W.heap.size):=Kh (fun e=>by
   rw[<- zU sa ([]:List Nat).length sc]at e
   have:=(H.out.own.lt _ e).2;omega)
  have d2:W.heap.size≠o:=by omega
  obtain⟨M,hM⟩:∃ M,M=W.heap.size:=⟨_,rfl⟩;have c6:=Kh hM;rw[<- hM]at H4 h6 a5;have a9:M≠o:=by omega
  have b5:base<=M:=by omega
  have b6:W.heap.size<=M:=by omega
  clear hM;go_enter Try.func130,Try.ntmps130;go_upto_region 5 with fail;rw[<- b8.out,<- b7.out,<- c6.out];clear c0 c1 f0 f1 h9;obtain⟨c0,c1⟩:=vL a5.out;have c9:=H4.out.lt;go_wp2_with (first|(at_mapUpdate;refine jM rfl _ _ _ rfl M 0 [] x rfl rfl rfl H4.out (by unfold maxLen;omega) h3.out (by simp) (by simp) ?_;intro w2 h0 h2;(have H9:=Kh h0);(have a4:=Kh h2);(have h4:=zB a5.out h2 (by simp;exact a9));(have H5:=Kh h4);(obtain⟨d0,d1⟩:=vL h4);(have e0:=zE h4 0);(have H8:=Kh (c2.out.kept h2 (.inr (by rw[zU];exact h6.out))));(have b4:=h2.size);clear h0 h4 h2)|(at_builtin;refine qCF rfl _ _ _ rfl yU base (.slice sa ([]:List Nat).length sc) ([]:List Nat).length (nats []) rfl H8.out (.int .i64 (x:Int)) rfl rfl ?a1 ?a2 ?a3 ?_;(case a1=>(unfold maxLen;simp));(case a2=>simp);(case a3=>omega);intro sa3 sc3 w3 h1 H1 b3 h5;(have H2:=zB H5.out H1 (by rw[zU];exact H3.out));(obtain⟨b0,b1⟩:=vL H2);(have e3:=zE H2 0))|fail);go_ret;exact qBA (l:=[]) H.out.lo (by simp) H5.out a9 b5 h6.out H9.out H3.out h1 H1 h5 (c3.out.step a4.out (fun k hk=>.inr (by have:=Oj hk;omega))) (.inr b6)
 ·clear h
  by_cases hin:x∈l
  ·have h9:=hmp.lookup h3.out
   rw[if_pos (aY.2 hin),decide_eq_true (aY.2 hin),zl_idx hin]at h9;have a0:=Kh hin;clear hin hmp;go_enter Try.func130,Try.ntmps130;go_wp2;go_ret;have e:=uR a0.out;exact⟨sa,sc,some mb,yA (by rw[e]),by rw[e];exact H.out,GrownBut.refl _ _,fun k hk=>.inl hk⟩
  ·have h9:=hmp.lookup h3.out
   rw[if_neg (fun hh=>hin (aY.1 hh)),decide_eq_false (fun hh=>hin (aY.1 hh))]at h9;have a0:=Kh hin;have c5:=Kh hmp;have c4:Hid ((x:Int) ∉ zl l):=Kh (fun hh=>hin (aY.1 hh));have b2:=qHJ l;have h6:=Kh hsm;clear hin hmp hsm;have b9:=Kh H.out.own;go_enter Try.func130,Try.ntmps130;go_wp2_with (first|(at_mapUpdate;refine jM rfl _ _ _ rfl mb l.length (zl l) x rfl rfl ?q1 c5.out (by unfold maxLen;omega) h3.out c4.out (by omega) ?_;(case q1=>(rw[b2];rfl));intro w2 h0 h2;(have H9:=Kh h0);(have a4:=Kh h2);(have h4:=zB H.out.box h2 (by simp;exact hmb));(have H5:=Kh h4);(obtain⟨d0,d1⟩:=vL h4);(have e0:=zE h4 0);(have H8:=Kh (b9.out.kept h2 (.inr (by rw[zU];exact h6.out))));(have b4:=h2.size);clear h0 h4 h2)|(at_builtin;refine qCF rfl _ _ _ rfl yU base (.slice sa l.length sc) l.length (nats l) rfl H8.out (.int .i64 (x:Int)) rfl rfl ?a1 ?a2 ?a3 ?_;(case a1=>(unfold maxLen;omega));(case a2=>omega);(case a3=>omega);intro sa3 sc3 w3 h1 H1 b3 h5;(have H2:=zB H5.out H1 (by rw[zU];exact H3.out));(obtain⟨b0,b1⟩:=vL H2);(have e3:=zE H2 0))|fail);go_ret;exact qBA H.out.lo a0.out H5.out hmb hmb0 h6.out H9.out H3.out h1 H1 h5 ((GrownBut.refl W _).step a4.out (fun k hk=>.inl (.inr (.inr hk)))) (.inl rfl)
theorem rM.obj {w:World}{b n:Nat}{l:List Int}(h:rM w b n l):∃ es clock,w.heap[b]?=some (.map es clock):=by
 obtain⟨D,⟨es,clock,hb,_⟩,_⟩:=h;exact⟨es,clock,hb⟩
theorem NumSt.off {base:Nat}{W:World}{o:Nat}{sa:Option Addr}{sc:Nat}{mv:Option Nat}{l:List Nat}(h:NumSt base W o sa sc mv l){k e:Nat}{c:Array Value}{m:Nat×Nat}(hk:W.heap[k]?=some (.cells c e m))(h1:e≠3)(h2:e≠181):¬ NF o sa mv k:=by
 rintro (rfl|hn|hn)
 ·rw[h.box]at hk
  simp only[Option.some.injEq,Obj.cells.injEq]at hk;exact h2 hk.2.1.symm
 ·rw[<- zU sa l.length sc]at hn
  exact zQ h.own hk (fun e=>h1 e.symm) hn
 ·rcases h.map with ⟨e,_⟩|⟨mb,e,_,_,_,_,hm⟩
  ·rw[e]at hn;cases hn
  ·rw[e]at hn
   have:=Oj hn;subst this;obtain⟨es,cl,hm⟩:=hm.obj;rw[hm]at hk;simp at hk
theorem NumSt.offOwn {base:Nat}{W:World}{o:Nat}{sa:Option Addr}{sc:Nat}{mv:Option Nat}{l:List Nat}(h:NumSt base W o sa sc mv l){b e n sz:Nat}{v:Value}{xs:List Value}(hown:W.ownsRow b e sz v n xs)(h1:e≠3)(h2:e≠181):∀ k,v.ownBlock=some k->¬ NF o sa mv k:=fun k hk=>by
 rcases hown.2 with ⟨rfl,_⟩|⟨g,cap,cur,rfl,_,hg,_⟩
 ·simp[Value.ownBlock]at hk
 ·have:g=k:=by simpa [Value.ownBlock] using hk
  subst this
  exact h.off hg h1 h2
theorem uE.keptT {α:Type}{X:Nat->Prop}{e:TypeId}{f:α->List Value}{w w':World}{hs:List Value}{ts:List α}{row:Option Nat}(h:uE X e f w hs ts)(hg:w.grownBy w' row)(hr:∀ k,row=some k->yH w e k):uE X e f w' hs ts :=
 ⟨h.1,fun i h1 h2=>⟨((h.2 i h1 h2).1.kept hg (fun k hk=>.inr (hr k hk))).mono hg.size,(h.2 i h1 h2).2⟩⟩
theorem vZ.but {X F:Nat->Prop}{w w':World}(hlt:∀ k,X k->k<w.heap.size)(hg:GrownBut w w' F)(hF:∀ k,F k->¬ X k):vZ X w w':=fun k hk=>hg.block k (hlt k hk) (fun hf=>hF k hf hk)
theorem oC {w w':World}{base e n sz:Nat}{v:Value}{xs:List Value}{F:Nat->Prop}(h:w.ownsRow base e sz v n xs)(hg:GrownBut w w' F)(hF:∀ k,v.ownBlock=some k->¬ F k):w'.ownsRow base e sz v n xs:=by
 refine⟨h.1,?_⟩;rcases id h.2 with h2|⟨g,cap,cur,hv,hb,hgc,h3⟩
 ·exact .inl h2
 ·exact .inr ⟨g,cap,cur,hv,hb,hg.heap hgc (hF g (by rw[hv];rfl)),h3⟩
structure ExSt (B:Nat)(W0 W:World)(oN o2:Nat)(X Y:Nat->Prop)(k:Nat)(l:List Nat)(fs:List Bool)(t:List (List Int))(hs:List Value)(sa:Option Addr)(sc:Nat)(mv:Option Nat)(sf:Option Addr)(cf:Nat)(sn:Option Addr)(cn:Nat):Prop where
 num:NumSt B W oN sa sc mv l
 sep:∀ j,NF oN sa mv j->¬ Y j
 XY:∀ j,X j->Y j
 lt:∀ j,Y j->j<W.heap.size
 box:W.heap[o2]?=some (.cells #[.int .i64 (k:Int),.int .i64 0,.slice sf fs.length cf,.slice sn t.length cn] 42 (0,0))
 ownF:W.ownsRow o2 4 1 (.slice sf fs.length cf) fs.length (bls fs)
 ownN:W.ownsRow o2 34 1 (.slice sn t.length cn) t.length hs
 rows:uE X 3 ints W hs t
 lo:W0.heap.size<=o2
 loB:W0.heap.size<=B/\B<=W.heap.size
 grown:W0.grownBy W none
section
variable {B:Nat} {W0 W W':World} {oN o2 k:Nat} {X Y:Nat->Prop} {l:List Nat} {fs:List Bool} {t:List (List Int)} {hs:List Value} {sa:Option Addr} {sc:Nat} {mv:Option Nat} {sf:Option Addr} {cf:Nat} {sn:Option Addr} {cn:Nat}
theorem ExSt.grow (h:ExSt B W0 W oN o2 X Y k l fs t hs sa sc mv sf cf sn cn)(hg:W.grownBy W' none):ExSt B W0 W' oN o2 X Y k l fs t hs sa sc mv sf cf sn cn where
 num:=h.num.kept hg (by simp)
 sep:=h.sep
 XY:=h.XY
 lt:=fun j hj=>Nat.lt_of_lt_of_le (h.lt j hj) hg.size
 box:=zB h.box hg (by simp)
 ownF:=zP h.ownF hg
 ownN:=zP h.ownN hg
 rows:=h.rows.keptT hg (by simp)
 lo:=h.lo
 loB:=⟨h.loB.1,Nat.le_trans h.loB.2 hg.size⟩
 grown:=zA h.grown hg (by simp)
theorem ExSt.fresh (h:ExSt B W0 W oN o2 X Y k l fs t hs sa sc mv sf cf sn cn)(hg:W.grownBy W' none){g:Nat}(h1:W.heap.size<=g)(h2:g<W'.heap.size):ExSt B W0 W' oN o2 X (fun j=>Y j\/j=g) k l fs t hs sa sc mv sf cf sn cn where
 num:=h.num.kept hg (by simp)
 sep:=fun j hj hy=>by
  rcases hy with hy|hy
  ·exact h.sep j hj hy
  ·have:=(h.num.ge j hj).2;omega
 XY:=fun j hj=>.inl (h.XY j hj)
 lt:=fun j hj=>by
  rcases hj with hj|hj
  ·exact Nat.lt_of_lt_of_le (h.lt j hj) hg.size
  ·omega
 box:=zB h.box hg (by simp)
 ownF:=zP h.ownF hg
 ownN:=zP h.ownN hg
 rows:=h.rows.keptT hg (by simp)
 lo:=h.lo
 loB:=⟨h.loB.1,Nat.le_trans h.loB.2 hg.size⟩
 grown:=zA h.grown hg (by simp)
theorem ExSt.num_step (h:ExSt B W0 W oN o2 X Y k l fs t hs sa sc mv sf cf sn cn){l':List Nat}{sa':Option Addr}{sc':Nat}{mv':Option Nat}(hn:NumSt B W' oN sa' sc' mv' l')(hg:GrownBut W W' (NF oN sa mv))(hm:∀ k,NF oN sa' mv' k->NF oN sa mv k\/W.heap.size<=k):ExSt B W0 W' oN o2 X Y k l' fs t hs sa' sc' mv' sf cf sn cn where
 num:=hn
 sep:=fun j hj hy=>by
  rcases hm j hj with h1|h1
  ·exact h.sep j h1 hy
  ·have:=h.lt j hy;omega
 XY:=h.XY
 lt:=fun j hj=>Nat.lt_of_lt_of_le (h.lt j hj) hg.size
 box:=hg.heap h.box (h.num.off h.box (by decide) (by decide))
 ownF:=oC h.ownF hg (h.num.offOwn h.ownF (by decide) (by decide))
 ownN:=oC h.ownN hg (h.num.offOwn h.ownN (by decide) (by decide))
 rows:=h.rows.kept (vZ.but (fun k hk=>h.lt k (h.XY k hk)) hg (fun k hf hx=>h.sep k hf (h.XY k hx))) hg.size
 lo:=h.lo
 loB:=⟨h.loB.1,Nat.le_trans h.loB.2 hg.size⟩
 grown:=hg.grown h.grown (fun k hk=>.inr (Nat.le_trans h.loB.1 (h.num.ge k hk).1))
theorem ExSt.put (h:ExSt B W0 W oN o2 X Y k l fs t hs sa sc mv sf cf sn cn){g:Nat}{c:Array Value}{m:Nat×Nat}(hg:W.grownBy W' (some g))(hc:W.heap[g]?=some (.cells c 3 m))(hY:Y g)(hX:¬ X g)(h0:W0.heap.size<=g):ExSt B W0 W' oN o2 X Y k l fs t hs sa sc mv sf cf sn cn where
 num:=h.num.kept hg (fun j e hf=>by have:=Oj e;subst this;exact h.sep _ hf hY)
 sep:=h.sep
 XY:=h.XY
 lt:=fun j hj=>Nat.lt_of_lt_of_le (h.lt j hj) hg.size
 box:=zB h.box hg (fun e=>by
  have:=Oj e
  subst this
  rw[h.box]at hc
  simp only[Option.some.injEq,Obj.cells.injEq]at hc
  exact absurd hc.2.1 (by decide))
 ownF:=h.ownF.kept hg (.inr (zQ h.ownF hc (by decide)))
 ownN:=h.ownN.kept hg (.inr (zQ h.ownN hc (by decide)))
 rows:=h.rows.kept (fun j hj=>hg.block j (h.lt j (h.XY j hj)) (fun e=>by have:=Oj e;subst this;exact hX hj)) hg.size
 lo:=h.lo
 loB:=⟨h.loB.1,Nat.le_trans h.loB.2 hg.size⟩
 grown:=zA h.grown hg (fun j e=>by have:=Oj e;omega)
theorem ExSt.pushN (h:ExSt B W0 W oN o2 X Y k l fs t hs sa sc mv sf cf sn cn){m:Nat}(hm:t.length=m){rv:Value}{row:List Int}{sn':Option Addr}{cn':Nat}(ho:W'.ownsRow o2 34 1 (.slice sn' (m+1) cn') (m+1) (hs++[rv]))(hg:W.grownBy W' (Value.slice sn m cn).ownBlock)(hrow:RowX (fun j=>X j\/Y j) 3 W rv (ints row)){W2:World}(hW2:W2=W'.setCell ⟨o2,3,none⟩ (.slice sn' (m+1) cn')):ExSt B W0 W2 oN o2 Y Y k l fs (t++[row]) (hs++[rv]) sa sc mv sf cf sn' cn':=by
 subst hm;have hb:=zB h.box hg (zQ h.ownN h.box (by decide));have h1:=heap_setCell_same W' o2 3 _ _ (.slice sn' (t.length+1) cn') hb;have g2:=zC W' ⟨o2,3,none⟩ (.slice sn' (t.length+1) cn');rw[<- hW2]at h1 g2;have h0:=h.num.offOwn h.ownN (by decide) (by decide);have h2:=h.num.kept hg (fun j e=>h0 j e)
 have h3:=h.ownF.kept hg (by
  rcases hv:(Value.slice sf fs.length cf).ownBlock with _|j
  ·exact .inl rfl
  ·refine .inr fun e=>?_
   obtain⟨cu,e',mm,hh,h7⟩:=zS (e':=34) h.ownF (by decide) j hv
   exact zQ h.ownN hh (fun e2=>h7 e2.symm) e.symm)
 have h5:uE Y 3 ints W (hs++[rv]) (t++[row]):=(h.rows.mono h.XY).snoc (hrow.mono (fun j hj=>hj.elim (h.XY j) id));have h4:=h5.keptT hg (fun j e=>zS h.ownN (by decide) j e);have h6:yH W' 3 o2:=⟨_,_,_,hb,by decide⟩;have hz:=hg.size;have h8:=g2.size
 exact⟨h2.kept g2 (fun j e hf=>by have:=Oj e;subst this;exact h2.off hb (by decide) (by decide) hf),h.sep,fun _ hj=>hj,fun j hj=>by have:=h.lt j hj;omega,by rw[h1];simp,h3.kept g2 (.inr (zQ h3 hb (by decide))),by
  rw[List.length_append]
  exact ho.kept g2 (.inr (zQ ho hb (by decide))),h4.keptT g2 (fun j e=>by have:=Oj e;subst this;exact h6),h.lo,⟨h.loB.1,by have:=h.loB.2;omega⟩,zA (zA h.grown hg (fun j e=>Nat.le_trans h.lo (h.ownN.lt j e).1)) g2 (fun j e=>by have e:o2=j:=Oj e;have:=h.lo;omega)⟩
theorem ExSt.pushF (h:ExSt B W0 W oN o2 X Y k l fs t hs sa sc mv sf cf sn cn){m:Nat}(hm:fs.length=m){b:Bool}{sf':Option Addr}{cf':Nat}(ho:W'.ownsRow o2 4 1 (.slice sf' (m+1) cf') (m+1) (bls fs++[.bool b]))(hg:W.grownBy W' (Value.slice sf m cf).ownBlock){W2:World}(hW2:W2=W'.setCell ⟨o2,2,none⟩ (.slice sf' (m+1) cf')):ExSt B W0 W2 oN o2 X Y k l (fs++[b]) t hs sa sc mv sf' cf' sn cn:=by
 subst hm;have hb:=zB h.box hg (zQ h.ownF h.box (by decide));have h1:=heap_setCell_same W' o2 2 _ _ (.slice sf' (fs.length+1) cf') hb;have g2:=zC W' ⟨o2,2,none⟩ (.slice sf' (fs.length+1) cf');rw[<- hW2]at h1 g2;have h0:=h.num.offOwn h.ownF (by decide) (by decide);have h2:=h.num.kept hg (fun j e=>h0 j e)
 have h3:=h.ownN.kept hg (by
  rcases hv:(Value.slice sn t.length cn).ownBlock with _|j
  ·exact .inl rfl
  ·refine .inr fun e=>?_
   obtain⟨cu,e',mm,hh,h6⟩:=zS (e':=4) h.ownN (by decide) j hv
   exact zQ h.ownF hh (fun e2=>h6 e2.symm) e.symm)
 have h4:=h.rows.keptT hg (fun j e=>zS h.ownF (by decide) j e);have h5:yH W' 3 o2:=⟨_,_,_,hb,by decide⟩;have hz:=hg.size;have h8:=g2.size;have h7:bls (fs++[b])=bls fs++[.bool b]:=by simp[bls]
 exact⟨h2.kept g2 (fun j e hf=>by have:=Oj e;subst this;exact h2.off hb (by decide) (by decide) hf),h.sep,h.XY,fun j hj=>by have:=h.lt j hj;omega,by rw[h1];simp,by
  rw[List.length_append,h7]
  exact ho.kept g2 (.inr (zQ ho hb (by decide))),h3.kept g2 (.inr (zQ h3 hb (by decide))),h4.keptT g2 (fun j e=>by have:=Oj e;subst this;exact h5),h.lo,⟨h.loB.1,by have:=h.loB.2;omega⟩,zA (zA h.grown hg (fun j e=>Nat.le_trans h.lo (h.ownF.lt j e).1)) g2 (fun j e=>by have e:o2=j:=Oj e;have:=h.lo;omega)⟩
end
end Go.Proofs.Ytjfdomfendbhfaa
namespace Go.Proofs.Ytjfdomfendbhfaa
def nV (d:DfaV)(k q x:Nat):List Nat:=(List.range x).map (fun a=>(zV d k).idxOf (nx d q a))++List.replicate (k - x) 0
theorem nU {d:DfaV}{k q x:Nat}(h:x<=k):(nV d k q x).length=k:=by simp[nV];omega
theorem exRow_set {d:DfaV}{k q x:Nat}(h:x<k):(nV d k q x).set x ((zV d k).idxOf (nx d q x))=nV d k q (x+1):=by
 unfold nV;rw[List.set_append_right _ _ (by simp),List.range_succ,List.map_append,show k - x=(k - (x+1))+1 by omega,List.replicate_succ];simp
theorem exRow_zero (d:DfaV)(k q:Nat):nV d k q 0=List.replicate k 0:=by simp[nV]
theorem exRow_full {d:DfaV}{n k q:Nat}(hd:VD d n k)(hA:∀ a,a<k->nx d q a∈zV d k)(hq:q<n):zl (nV d k q k)=xS (zV d k) (d.next.getD q []):=by
 have hr:=hd.row q hq;refine List.ext_getElem (by rw[qHJ,nU (Nat.le_refl k),xS,List.length_map,hr]) fun a h1 h2=>?_;have ha:a<k:=by simpa [zl,nV] using h1
 have e2:(xS (zV d k) (d.next.getD q []))[a]=rD (zV d k) ((d.next.getD q [])[a]'(by rw[hr];exact ha)).toNat:=by simp[xS]
 rw[e2]
 have e3:((d.next.getD q [])[a]'(by rw[hr];exact ha)).toNat=nx d q a:=by
  show _=(ent d.next q a).toNat;unfold ent;rw[zG (show a<(d.next.getD q []).length by rw[hr];exact ha)]
 rw[e3,rD,if_pos (hA a ha)];simp[zl,nV]
structure ExL (d:DfaV)(n k i:Nat)(l:List Nat):Prop where
 acc:AccI d n k i l
 go:rI d k (n - i) i l=zV d k
theorem ExL.start {d:DfaV}{n k:Nat}(hd:VD d n k):ExL d n k 0 [st0 d]:=⟨AccI.start hd,by rw[zV,hd.hn];rfl⟩
theorem ExL.le {d:DfaV}{n k i:Nat}{l:List Nat}(h:ExL d n k i l):l.length<=n:=mG h.acc.nd h.acc.lt
theorem ExL.next {d:DfaV}{n k i:Nat}{l:List Nat}(hd:VD d n k)(h:ExL d n k i l)(hi:i<l.length):ExL d n k (i+1) (wO d l i k):=by
 refine⟨h.acc.row hd hi,?_⟩;have:=h.le;have e:n - i=(n - (i+1))+1:=by omega
 have g:=h.go;rw[e,rI,if_pos hi]at g;exact g
theorem ExL.done {d:DfaV}{n k i:Nat}{l:List Nat}(h:ExL d n k i l)(hi:¬ i<l.length):l=zV d k:=by
 have g:=h.go;rw[eV hi]at g;exact g
theorem iR (d:DfaV)(k:Nat):∀ f i l,l <+: rI d k f i l
 | 0,_,l=>List.prefix_refl l
 | f+1,i,l=>by
  rw[rI]
  split
  ·exact(uS d l i k).trans (iR d k f (i+1) _)
  ·exact List.prefix_refl l
theorem lX (d:DfaV)(l:List Nat)(i:Nat):∀ {a b},a<=b->wO d l i a <+: wO d l i b
 | a,0,h=>by rw[show a=0 by omega];exact List.prefix_refl _
 | a,b+1,h=>by
  by_cases e:a=b+1
  ·rw[e];exact List.prefix_refl _
  ·exact(lX d l i (by omega)).trans (oO _ _)
theorem ExL.pre {d:DfaV}{n k i:Nat}{l:List Nat}(hd:VD d n k)(h:ExL d n k i l)(hi:i<l.length){x:Nat}(hx:x<=k):wO d l i x <+: zV d k:=by
 have h2:=(h.next hd hi).go;exact(lX d l i hx).trans (h2 ▸ iR d k _ _ _)
theorem ExL.idx {d:DfaV}{n k i:Nat}{l:List Nat}(hd:VD d n k)(h:ExL d n k i l)(hi:i<l.length){x:Nat}(hx:x<k):(wO d l i (x+1)).idxOf (nx d (l.getD i 0) x)=(zV d k).idxOf (nx d (l.getD i 0) x) :=
 (iL (h.pre hd hi (show x+1<=k by omega)) (tM.2 (.inr ⟨x,by omega,rfl⟩))).symm
theorem ExL.done_mem {d:DfaV}{n k i:Nat}{l:List Nat}(hd:VD d n k)(h:ExL d n k i l)(hi:i<l.length){a:Nat}(ha:a<k):nx d (l.getD i 0) a∈zV d k :=
 (h.pre hd hi (show a+1<=k by omega)).subset (tM.2 (.inr ⟨a,by omega,rfl⟩))
theorem ExL.rowLen {d:DfaV}{n k i:Nat}{l:List Nat}(hd:VD d n k)(h:ExL d n k i l)(hi:i<l.length){x:Nat}(hx:x<=k):(wO d l i x).length<=n:=by
 have h1:=(lX d l i hx).length_le;have h2:=(h.next hd hi).le;omega
theorem nE {l m:List Nat}(h:l <+: m){i:Nat}(hi:i<=l.length):m.take i=l.take i:=by
 obtain⟨r,rfl⟩:=h;rw[List.take_append_of_le_length hi]
open Go.Maps Go.RowKit
def exT (d:DfaV)(k:Nat)(l:List Nat)(i:Nat):List (List Int):=(l.take i).map fun q=>xS (zV d k) (d.next.getD q [])
def exF (d:DfaV)(l:List Nat)(i:Nat):List Bool:=(l.take i).map fun q=>d.final.getD q false
theorem qCQ {d:DfaV}{k:Nat}{l:List Nat}{i:Nat}(h:i<=l.length):(exT d k l i).length=i:=by simp[exT];omega
theorem qGI {d:DfaV}{l:List Nat}{i:Nat}(h:i<=l.length):(exF d l i).length=i:=by simp[exF];omega
theorem exT_next {d:DfaV}{k:Nat}{l m:List Nat}{i:Nat}(hp:l <+: m)(h:i<l.length):exT d k m (i+1)=exT d k l i++[xS (zV d k) (d.next.getD (l.getD i 0) [])]:=by
 simp only[exT,nE hp (show i+1<=l.length by omega),zR (d:=0) h,List.map_append,List.map_cons,List.map_nil]
theorem exF_next {d:DfaV}{l m:List Nat}{i:Nat}(hp:l <+: m)(h:i<l.length):exF d m (i+1)=exF d l i++[d.final.getD (l.getD i 0) false]:=by
 simp only[exF,nE hp (show i+1<=l.length by omega),zR (d:=0) h,List.map_append,List.map_cons,List.map_nil]
theorem RowX.of_arr {X:Nat->Prop}{w:World}{g n:Nat}{e:TypeId}{xs:List Value}(h:Arr w g e xs)(hn:xs.length=n)(hm:n<=maxLen)(hX:X g):RowX X e w (.slice (some ⟨g,0,none⟩) n n) xs:=by
 obtain⟨cur,rest,hc,ht⟩:=h;subst hn;refine⟨.inr ⟨g,0,xs.length,cur,(0,0),rfl,zK hc,Nat.le_refl _,hm,hc,fun i hi=>?_⟩,fun k hk=>?_⟩
 ·rw[Nat.zero_add,<- Array.getElem?_toList,ht,List.getElem?_append_left hi,List.getElem?_eq_getElem hi]
 ·have:g=k:=by simpa [Value.ownBlock] using hk
  subst this;exact hX
theorem Arr.but {w w':World}{g:Nat}{e:TypeId}{xs:List Value}{F:Nat->Prop}(h:Arr w g e xs)(hg:GrownBut w w' F)(hF:¬ F g):Arr w' g e xs:=by
 obtain⟨cur,rest,hc,ht⟩:=h;exact⟨cur,rest,hg.heap hc hF,ht⟩
theorem wU {w W:World}{o:Obj}(h1:W.os=w.os)(h2:W.tape=w.tape)(h3:W.output=w.output)(h4:W.heap=(w.alloc o).heap):w.grownBy W none :=
 vC (Ga w o none) h1 h2 h3 h4
structure TBox (B:Nat)(W:World)(P:Nat)(d:DfaV)(n k S fb fo fc b off cap:Nat)(RB RO RC:Nat->Nat):Prop where
 box:W.heap[P]?=some (.cells #[.int .i64 (k:Int),.int .i64 (S:Int),.slice (some ⟨fb,fo,none⟩) n fc,.slice (some ⟨b,off,none⟩) n cap] 42 (0,0))
 at_:DAt B W d n k fb fo fc b off cap RB RO RC
theorem TBox.grow {B:Nat}{W W':World}{P:Nat}{d:DfaV}{n k S fb fo fc b off cap:Nat}{RB RO RC:Nat->Nat}(h:TBox B W P d n k S fb fo fc b off cap RB RO RC)(hg:W.grownBy W' none):TBox B W' P d n k S fb fo fc b off cap RB RO RC :=
 ⟨zB h.box hg (by simp),h.at_.kept hg (by simp)⟩
section
variable {B:Nat} {W:World} {P:Nat} {d:DfaV} {n k S fb fo fc b off cap:Nat} {RB RO RC:Nat->Nat}
theorem trim1_any (h:TBox B W P d n k S fb fo fc b off cap RB RO RC){q a:Nat}(hq:q<n)(ha:a<k):
  Calls Try.prog 122 #[.int .i64 (q:Int),.int .i64 (a:Int),.pointer (some ⟨P,0,none⟩)] W fun e w'=>e=.returned (.int .i64 ((nx d q a:Nat):Int))/\W=w':=by
 obtain⟨c0,c1,c2,c3⟩:=zF h.box;have c4:=h.at_.hd q hq;have c5:=h.at_.el q a hq ha;have hc:=h.at_.cap;have hr:=h.at_.rcap q hq;have hd:=h.at_.ok;have hn:=hd.nbig;have hk:=hd.k6;unfold maxLen at hc hr;clear h hd;go_enter Try.func122,Try.ntmps122;go_wp2;go_ret;exact⟨rfl,rfl⟩
theorem trim2_any (h:TBox B W P d n k S fb fo fc b off cap RB RO RC){q:Nat}(hq:q<n):
  Calls Try.prog 123 #[.int .i64 (q:Int),.pointer (some ⟨P,0,none⟩)] W fun e w'=>e=.returned (.bool (d.final.getD q false))/\W=w':=by
 obtain⟨c0,c1,c2,c3⟩:=zF h.box;have c4:=h.at_.fin hq;have hc:=h.at_.fcap;have hd:=h.at_.ok;have hn:=hd.nbig;unfold maxLen at hc;clear h hd;go_enter Try.func123,Try.ntmps123;go_wp2;go_ret;exact⟨rfl,rfl⟩
end
def ExplOk (W:World)(d:DfaV)(k:Nat)(e:Ending)(W':World):Prop :=
 ∃ v sa sc,e=.returned (.tuple #[v,.slice sa (zV d k).length sc,.int .i64 0])/\pT W W' v (xT d k)/\W'.ownsRow W.heap.size 3 1 (.slice sa (zV d k).length sc) (zV d k).length (nats (zV d k))/\W.grownBy W' none
theorem explore_any (B:Nat)(W:World)(P:Nat)(d:DfaV)(n k S fb fo fc b off cap:Nat)(RB RO RC:Nat->Nat)(hS:S=st0 d)(h5:n<=512)(h:TBox B W P d n k S fb fo fc b off cap RB RO RC):Calls Try.prog 121 #[.int .i64 (k:Int),.int .i64 (S:Int),.func (.func 122) #[] #[.pointer (some ⟨P,0,none⟩)],.func (.func 123) #[] #[.pointer (some ⟨P,0,none⟩)]] W (ExplOk W d k):=by
 have hd:=h.at_.ok;have hn:=hd.nbig;have hk:=hd.k6;have q9:=hd.k1;have r4:S<n:=by rw[hS];exact oT hd
 obtain⟨w1,a5⟩:∃ w1,w1=(W.alloc (.cells #[.int .i64 0,.int .i64 0,.slice none 0 0,.slice none 0 0] 42)).alloc (.cells #[.slice none 0 0,.map none] 181):=⟨_,rfl⟩;have l2:W.grownBy w1 none:=by rw[a5];exact wL (Ga W _ none) _
 have H3:w1.heap[W.heap.size]?=some (.cells #[.int .i64 0,.int .i64 0,.slice none 0 0,.slice none 0 0] 42 (0,0)):=by rw[a5];exact pO W _ _
 have i6:w1.heap[W.heap.size+1]?=some (.cells #[.slice none 0 0,.map none] 181 (0,0)):=by rw[a5];exact pM W _ _
 have q3:w1.heap.size=W.heap.size+2:=by rw[a5,zJ,zJ]
 obtain⟨oN,e7⟩:∃ o,o=W.heap.size+1:=⟨_,rfl⟩;obtain⟨o0,e9⟩:∃ o,o=W.heap.size:=⟨_,rfl⟩;rw[<- e9]at H3;rw[<- e7]at i6;have j2:Hid (NumSt W.heap.size w1 oN none 0 none []):=Kh ⟨i6,World.ownsRow_nil _ _ _ _,.inl ⟨rfl,rfl⟩,by omega⟩;have h2:=Kh H3;have p4:=Kh l2;have m2:=Kh a5;have HD:=Kh hd;have HT:=Kh h;have HS:=Kh hS;have p1:=Kh e9;have p2:=Kh e7;have n7:W.heap.size<oN:=by omega
 have n6:oN<w1.heap.size:=by omega
 have o1:W.heap.size<=o0:=by omega
 have n9:o0<oN:=by omega
 clear e7 e9;clear H3 i6 l2 a5 hd h hS;go_enter Try.func121,Try.ntmps121;go_upto_region 2 with fail;rw[<- m2.out,<- p2.out,<- p1.out];go_wp2_with fail;refine(qBB W.heap.size w1 oN none 0 none [] S j2.out (by omega) (by simp) (by omega)).mono ?_;rintro e w2 ⟨sa2,sc2,mv2,rfl,H1,H2,f5⟩;have a6:xP ([]:List Nat) S=[S]:=by simp[xP]
 rw[a6]at H1;have q2:=H2.size;have c2:=Kh H1;have a4:=Kh H2;obtain⟨o2,e8⟩:∃ o,o=w2.heap.size:=⟨_,rfl⟩;clear a6 H1 H2 f5;go_wp2_with fail;obtain⟨w3,d7⟩:∃ w3,w3=w2.alloc (.cells #[.int .i64 (k:Int),.int .i64 0,.slice none 0 0,.slice none 0 0] 42):=⟨_,rfl⟩;have a7:=Ga w2 (.cells #[.int .i64 (k:Int),.int .i64 0,.slice none 0 0,.slice none 0 0] 42) none;have b5:=heap_alloc_new w2 (.cells #[.int .i64 (k:Int),.int .i64 0,.slice none 0 0,.slice none 0 0] 42);rw[<- d7]at a7 b5;rw[<- e8]at b5;have q1:=a7.size;have b0:W.heap.size<=o2:=by omega
 have n8:=zK b5;have m8:=Kh (zA (a4.out.grown p4.out (fun k hk=>.inr (j2.out.ge k hk).1)) a7 (by simp));have h0:Hid (ExSt W.heap.size W w3 oN o2 (fun _=>False) (fun _=>False) k [S] (exF d [S] 0) (exT d k [S] 0) [] sa2 sc2 mv2 none 0 none 0):=Kh ⟨c2.out.kept a7 (by simp),fun _ _ h=>h,fun _ h=>h,fun _ h=>h.elim,b5,World.ownsRow_nil _ _ _ _,World.ownsRow_nil _ _ _ _,uE.nil,b0,⟨Nat.le_refl _,by omega⟩,m8.out⟩
 have p3:=Kh e8;have m1:=Kh d7;have c4:=Kh (zB (a4.out.heap h2.out (fun h=>by
  rcases h with h|h|h
  ·omega
  ·simp[Value.ownBlock]at h
  ·simp at h)) a7 (by simp))
 have H9:o0≠o2:=by omega
 have k5:o0<w3.heap.size:=by omega
 clear a7 b5 d7 e8;rw[<- p3.out,<- m1.out]
 go_loopg [13,14,15,16] n (fun gh i a14 a15 a16 wr=>∃ (q:Nat) (l:List Nat) (hs:List Value) (X:Nat->Prop) (sa:Option Addr) (sc:Nat) (mv:Option Nat) (sf:Option Addr) (cf:Nat) (sn:Option Addr) (cn:Nat),gh+q=n/\i=.int .i64 q/\q<=l.length/\ExL d n k q l/\wr.heap[o0]?=some (.cells #[.int .i64 0,.int .i64 0,.slice none 0 0,.slice none 0 0] 42 (0,0))/\ExSt W.heap.size W wr oN o2 X X k l (exF d l q) (exT d k l q) hs sa sc mv sf cf sn cn)
 case atStart=>exact⟨0,[S],[],fun _=>False,sa2,sc2,mv2,none,0,none,0,rfl,rfl,by simp,by rw[HS.out];exact ExL.start HD.out,c4.out,h0.out⟩
 case round =>
  clear h0 c2 a4 h2 j2 m8 c4 m2 m1;obtain⟨q,l,hs,X,sa,sc,mv,sf,cf,sn,cn,b4,rfl,d9,a8,H3,h3⟩:=hrel;have m7:=Kh b4;have a9:=Kh a8;have h2:=Kh H3;have h0:=Kh h3;have q7:=a8.le;have p9:=h3.grown.size;obtain⟨c0,c1⟩:=vL h3.num.box;clear b4 a8 H3 h3;by_cases hk':q<l.length
  ·have f9:(q:Int)<l.length:=by omega
   obtain⟨lb,lo,lc,el,q8,k9,a6,k8⟩:=(Row.of_owns h0.out.num.own).some_ (by rw[zT];omega);rw[zT]at el k9;simp only[Value.slice.injEq]at el;obtain⟨rfl,_,rfl⟩:=el;have cq:=k8.nat q hk';obtain⟨s,c7⟩:∃ s,s=l.getD q 0:=⟨_,rfl⟩;have c6:s<n:=(by rw[c7,zG hk'];exact a9.out.acc.lt _ (List.getElem_mem hk'));rw[<- c7]at cq;have b8:=Kh c7;clear k8 c7;go_wp2_with (first|(at_make;refine lO rfl _ _ _ rfl yU rfl .i64 .i64 _ _ k rfl rfl rfl rfl ?b1 ?b2 ?_)|fail)
   case b1=>omega
   case b2=>unfold maxLen;omega
   intro w4 h6 i0 f7;obtain⟨g,hg⟩:∃ g,g=wr.heap.size:=⟨_,rfl⟩;rw[<- hg]at h6 ⊢;have n2:Hid (Arr w4 g 3 (nats (nV d k s 0))):=Kh (by rw[exRow_zero,xI];exact h6);have m3:=Kh (h0.out.fresh i0 (g:=g) (by omega) (by omega));have n1:=Kh (zB h2.out i0 (by simp));have l7:¬ X g:=fun hx=>by have:=h0.out.lt g hx;omega
   have o8:=Kh l7;have o6:W.heap.size<=g:=by omega
   have o5:o0<g:=(by have:=zK h2.out;omega);have k2:=fun x (hx:x<=k)=>a9.out.rowLen HD.out hk' hx;have j0:=Kh k2;clear h6 i0 l7 f7 hg k2 h0 h2 c0 c1 cq;go_wp2_with fail
   go_loopg [16,37] k (fun gh a16 i wr=>∃ (x:Nat) (sa:Option Addr) (sc:Nat) (mv:Option Nat),gh+x=k/\i=.int .i64 x/\Arr wr g 3 (nats (nV d k s x))/\wr.heap[o0]?=some (.cells #[.int .i64 0,.int .i64 0,.slice none 0 0,.slice none 0 0] 42 (0,0))/\ExSt W.heap.size W wr oN o2 X (fun j=>X j\/j=g) k (wO d l q x) (exF d l q) (exT d k l q) hs sa sc mv sf cf sn cn)
   case atStart=>exact⟨0,_,_,_,rfl,rfl,n2.out,n1.out,m3.out⟩
   case round =>
    clear n2 m3 n1 k9 a6;obtain⟨x,sa,sc,mv,b4,rfl,h6,H3,h3⟩:=hrel;have c3:=Kh b4;have j6:=Kh h6;have h2:=Kh H3;have h0:=Kh h3;have p8:=h3.grown.size;have q6:=h3.loB.2;clear b4 h6 H3 h3;by_cases hx':x<k
    ·have d6:(x:Int)<k:=by omega
     have d4:=Kh (HT.out.grow h0.out.grown);have k7:=j0.out x (by omega);have f6:=nO HD.out c6 hx';go_wp2_with fail;refine(trim1_any d4.out c6 hx').mono ?_;rintro e w5 ⟨rfl,rfl⟩;obtain⟨y,hy⟩:∃ y,y=nx d s x:=⟨_,rfl⟩;rw[<- hy]at f6 ⊢;have HY:=Kh hy;clear hy;go_wp2_with fail;refine(qBB W.heap.size wr oN sa sc mv (wO d l q x) y h0.out.num (by omega) (by omega) (by omega)).mono ?_;rintro e w5 ⟨sa5,sc5,mv5,rfl,H0,h4,b3⟩;have e5:xP (wO d l q x) y=wO d l q (x+1):=by rw[HY.out,b8.out];rfl
     have e6:(wO d l q (x+1)).idxOf y=(zV d k).idxOf y:=by rw[HY.out,b8.out];exact a9.out.idx HD.out hk' hx'
     rw[e5]at H0;rw[e5,e6];have q0:=h4.size;have b6:=j6.out.but h4 (fun hf=>h0.out.sep g hf (.inr rfl))
     have l5:=h4.heap h2.out (fun hf=>by
      rcases hf with e|e|e
      ·omega
      ·rw[<- zU sa (wO d l q x).length sc]at e
       exact zQ h0.out.num.own h2.out (by decide) e
      ·rcases h0.out.num.map with ⟨e2,_⟩|⟨mb,e2,_,_,_,_,hm⟩
       ·rw[e2]at e;cases e
       ·rw[e2]at e
        have:=Oj e;subst this;obtain⟨es,cl,hm⟩:=hm.obj
        rw[h2.out]at hm;simp at hm)
     have k0:=h0.out.num_step H0 h4 b3;have cg:=b6.nat x (by rw[nU (by omega)];exact hx');have fg:=b6.frozen x;have H8:=b6.nat_set x (by rw[nU (by omega)];exact hx') ((zV d k).idxOf y);have a8:(nV d k s x).set x ((zV d k).idxOf y)=nV d k s (x+1):=by rw[HY.out];exact exRow_set hx'
     rw[a8]at H8;have b9:=Kh H8;have p6:=Kh l5;have p7:=Kh b6;have p0:=Kh k0;have q4:(nats (nV d k s x)).length=k:=by rw[zT,nU (by omega)]
     obtain⟨I,hI⟩:∃ I,I=(zV d k).idxOf y:=⟨_,rfl⟩;rw[<- hI]at b9 ⊢;clear e5 e6 H0 h4 b3 b6 l5 k0 H8 a8 hI;go_wp2_with fail;go_roundg (k - (x+1))
     case measure=>have:=c3.out;omega
     case rel =>
      obtain⟨cur,rest,i3,_⟩:=p7.out;have l0:=zC w5 ⟨g,x,none⟩ (.int .i64 (I:Int));exact⟨x+1,sa5,sc5,mv5,by omega,by go_num,b9.out,zB p6.out l0 (fun e=>by have e:g=o0:=Oj e;omega),p0.out.put l0 i3 (.inr rfl) o8.out o6⟩
    ·have n4:x=k:=by have:=c3.out;omega
     subst n4;have d6:¬ (x:Int)<x:=(by omega);obtain⟨m,hm⟩:∃ m,m=wO d l q x:=⟨_,rfl⟩;have k7:=j0.out x (by omega);have m0:=Kh (a9.out.next HD.out hk')
     have o4:q<m.length:=by
      have:=(uS d l q x).length_le;rw[hm];omega
     have j1:=Kh (uS d l q x);rw[<- hm]at m0 j1 h0 k7;have HM:=Kh hm;clear hm;obtain⟨c0,c1⟩:=vL h0.out.num.box;obtain⟨d0,d1,d2,d3⟩:=zF h0.out.box;have f3:=zE h0.out.box 3;have q5:¬ ((512:Int)<m.length):=by omega
     have H4:Hid (RowX (fun j=>X j\/(X j\/j=g)) 3 wr (.slice (some ⟨g,0,none⟩) x x) (ints (xS (zV d x) (d.next.getD s [])))):=Kh (by
      have e:=exRow_full HD.out (q:=s) (fun a ha=>by rw[b8.out];exact a9.out.done_mem HD.out hk' ha) c6;have h9:=RowX.of_arr (X:=fun j=>X j\/(X j\/j=g)) j6.out (by rw[zT,nU (Nat.le_refl x)]) (by unfold maxLen;omega) (.inr (.inr rfl));rw[show nats (nV d x s x)=ints (zl (nV d x s x)) by simp[nats,ints,zl],e]at h9
      exact h9)
     go_wp2_with (first|(at_builtin;refine qCF rfl _ _ _ rfl uP o2 (.slice sn (exT d x l q).length cn) (exT d x l q).length hs rfl h0.out.ownN (.slice (some ⟨g,0,none⟩) x x) rfl rfl ?a1 ?a2 ?a3 ?_;(case a1=>(unfold maxLen;rw[qCQ d9];omega));(case a2=>(rw[qCQ d9];omega));(case a3=>exact Nat.le_of_lt (zK h0.out.box));intro sn6 cn6 w6 H6 c9 n3 f4;(have i7:=zB h0.out.box c9 (zQ h0.out.ownN h0.out.box (by decide)));(obtain⟨e0,e1,e2,e3⟩:=zF i7);(have fz6:=zE i7 3))|fail);have h8:=Kh (h0.out.pushN rfl H6 c9 H4.out rfl);obtain⟨wo,c5⟩:∃ W7,W7=w6.setCell ⟨o2,3,none⟩ (.slice sn6 ((exT d x l q).length+1) cn6):=⟨_,rfl⟩;rw[<- c5]at h8 ⊢;have o9:=Kh c5
     have j5:Hid (wo.heap[o0]?=some (.cells #[.int .i64 0,.int .i64 0,.slice none 0 0,.slice none 0 0] 42 (0,0))):=Kh (by
      rw[c5]
      exact zB (zB h2.out c9 (zQ h0.out.ownN h2.out (by decide))) (zC w6 ⟨o2,3,none⟩ _) (fun e=>H9 (Oj e).symm))
     have d4:=Kh (HT.out.grow h8.out.grown);obtain⟨d0,d1,d2,d3⟩:=zF h8.out.box;have fz2:=zE h8.out.box 2;have m6:Hid (∀ w',wo.grownBy w' none->w'.ownsRow o2 4 1 (.slice sf (exF d l q).length cf) (exF d l q).length (bls (exF d l q))/\o2<=w'.heap.size):=Kh (fun w' hg=>⟨zP h8.out.ownF hg,Nat.le_of_lt (Nat.lt_of_lt_of_le (zK h8.out.box) hg.size)⟩)
     have p5:Hid (∀ w7 w',wo.grownBy w7 none->w7.grownBy w' (Value.slice sf (exF d l q).length cf).ownBlock->w'.frozen? ⟨o2,2,none⟩=false/\w'.cell? ⟨o2,2,none⟩=some (.slice sf (exF d l q).length cf)):=Kh (fun w7 w' h7 hg=>by
      have hb:=zB (zB h8.out.box h7 (by simp)) hg (zQ h8.out.ownF h8.out.box (by decide))
      exact⟨zE hb 2,(zF hb).2.2.1⟩)
     have j4:=Kh (qGI (d:=d) d9);have k4:=zK h8.out.box;obtain⟨bf,i5⟩:∃ bf,bf=d.final.getD s false:=⟨_,rfl⟩;have n0:=Kh i5;have m9:Hid (∀ w',wo.grownBy w' none->Calls Try.prog 123 #[.int .i64 (s:Int),.pointer (some ⟨P,0,none⟩)] w' fun e w''=>e=.returned (.bool bf)/\w'=w''):=Kh (fun w' hg=>by rw[i5];exact trim2_any (d4.out.grow hg) c6);clear i5;clear c5 n3 f4 H6 c9 i7 e0 e1 e2 e3 fz6
     have H7:Hid (∀ (W1 w':World) (sf':Option Addr) (cf':Nat),w'.ownsRow o2 4 1 (.slice sf' ((exF d l q).length+1) cf') ((exF d l q).length+1) (bls (exF d l q)++[.bool bf])->W1.grownBy w' (Value.slice sf (exF d l q).length cf).ownBlock->wo.grownBy W1 none ->
       (∃ (hs:List Value) (X:Nat->Prop) (sa:Option Addr) (sc:Nat) (mv:Option Nat) (sn:Option Addr) (cn:Nat),ExSt W.heap.size W (w'.setCell ⟨o2,2,none⟩ (.slice sf' ((exF d l q).length+1) cf')) oN o2 X X x m (exF d m (q+1)) (exT d x m (q+1)) hs sa sc mv sf' cf' sn cn) /\
       (w'.setCell ⟨o2,2,none⟩ (.slice sf' ((exF d l q).length+1) cf')).heap[o0]?=some (.cells #[.int .i64 0,.int .i64 0,.slice none 0 0,.slice none 0 0] 42 (0,0))/\w'.frozen? ⟨o2,2,none⟩=false/\w'.cell? ⟨o2,2,none⟩=some (.slice sf (exF d l q).length cf)):=Kh (fun W1 w' sf' cf' ho hg h1=>by
      have b7:=h8.out.grow h1;have l6:=zB b7.box hg (zQ b7.ownF b7.box (by decide));have hp:=b7.pushF (b:=bf) rfl ho hg rfl;have eF:exF d l q++[bf]=exF d m (q+1):=by rw[exF_next j1.out hk',<- b8.out,<- n0.out]
      have eT:exT d x l q++[xS (zV d x) (d.next.getD s [])]=exT d x m (q+1):=by rw[exT_next j1.out hk',<- b8.out]
      rw[eF,eT]at hp
      exact⟨⟨_,_,_,_,_,_,_,hp⟩,zB (zB (zB j5.out h1 (by simp)) hg (zQ b7.ownF (zB j5.out h1 (by simp)) (by decide))) (zC w' ⟨o2,2,none⟩ _) (fun e=>H9 (Oj e).symm),zE l6 2,(zF l6).2.2.1⟩)
     have j3:Hid (∀ W1:World,wo.grownBy W1 none->W1.ownsRow o2 4 1 (.slice sf (exF d l q).length cf) (exF d l q).length (bls (exF d l q))/\o2<=W1.heap.size):=m6;clear m6 p5
     go_region_law (first|(go_simp;go_at_call 123;refine(m9.out _ (by first|exact zO wo none|exact zN wo _ none)).mono ?_;rintro e w' ⟨rfl,rfl⟩)|(refine qAH ?g1 (.tmp 61) (.tmp 65) 39 ?g2 xW o2 (.slice sf (exF d l q).length cf) (exF d l q).length (bls (exF d l q)) ?g3 ?g4 (.bool bf) wo.heap.size (0,0) ?g5 ?g6 ?g7 ?g8 ?g9 ?g10 ?_;(case g1=>rfl);(case g2=>rfl);(case g3=>rfl);(case g4=>(refine(j3.out _ ?_).1;exact wU (o:=.cells #[.bool bf] 4) rfl rfl rfl rfl));(case g5=>rfl);(case g6=>exact heap_alloc_new (wo.drew) _);(case g7=>rfl);(case g8=>(rw[j4.out];unfold maxLen;omega));(case g9=>(rw[j4.out];omega));(case g10=>(refine(j3.out _ ?_).2;exact wU (o:=.cells #[.bool bf] 4) rfl rfl rfl rfl));intro sf8 cf8 w8 H5 l1;have c8:=H7.out _ _ _ _ H5 l1 (wU (o:=.cells #[.bool bf] 4) rfl rfl rfl rfl);have i1:=c8.2.2.1;have i2:=c8.2.2.2;have m5:=Kh c8;clear c8 H5 l1)|fail)
     all_goals
      clear H7 j3 m9 j5 n0 o9 d4 h8 d0 d1 d2 d3 fz2 i1 i2 j4 j0 H4 j6 h2;obtain⟨w9,j9⟩:∃ W9,W9=w8.setCell ⟨o2,2,none⟩ (.slice sf8 ((exF d l q).length+1) cf8):=⟨_,rfl⟩;rw[<- j9]at m5 ⊢;clear j9;go_wp2;go_roundg (n - (q+1))
      case measure=>have:=m7.out;omega
      case rel =>
       obtain⟨⟨n5,X9,sa9,sc9,mv9,sn9,cn9,d8⟩,i9,_,_⟩:=m5.out;exact⟨q+1,m,n5,X9,sa9,sc9,mv9,sf8,cf8,sn9,cn9,by have:=m7.out;omega,by go_num,o4,m0.out,i9,d8⟩
  ·have f9:¬ (q:Int)<l.length:=by omega
   have d5:=Kh (a9.out.done hk');have m4:Hid (q=l.length):=Kh (by omega);obtain⟨d0,d1,d2,d3⟩:=zF h0.out.box;obtain⟨e0,e1,e2,e3⟩:=zF h2.out;have f0:=zE h2.out 0;have f1:=zE h2.out 1;have f2:=zE h2.out 2;have f3:=zE h2.out 3;go_wp2_with fail;obtain⟨c0,c1⟩:=vL h0.out.num.box;have o3:o0≠oN:=by omega
   go_region
   all_goals (try go_frame)
   all_goals go_wp2
   obtain⟨i4,g0⟩:=uF h2.out (.int .i64 (k:Int)) (.int .i64 0) (.slice sf (exF d l q).length cf) (.slice sn (exT d k l q).length cn);obtain⟨wz,j7⟩:∃ wz,wz=(((wr.setCell ⟨o0,0,none⟩ (.int .i64 (k:Int))).setCell ⟨o0,1,none⟩ (.int .i64 0)).setCell ⟨o0,2,none⟩ (.slice sf (exF d l q).length cf)).setCell ⟨o0,3,none⟩ (.slice sn (exT d k l q).length cn):=⟨_,rfl⟩;rw[<- j7]at i4 g0 ⊢;clear j7;have a0:=zA (row:=some o0) g0 (zO wz none) (by simp);have l4:wz.drew.heap[o0]?=some (.cells #[.int .i64 (k:Int),.int .i64 0,.slice sf (exF d l q).length cf,.slice sn (exT d k l q).length cn] 42 (0,0)):=i4;obtain⟨wf,j8⟩:∃ wf,wf=wz.drew:=⟨_,rfl⟩;rw[<- j8]at a0 l4 ⊢;obtain⟨r0,r1,r2,r3⟩:=zF l4;clear j8 i4 g0;refine bodyPost_ret (v:=.tuple #[.agg #[.int .i64 (k:Int),.int .i64 0,.slice sf (exF d l q).length cf,.slice sn (exT d k l q).length cn],.slice sa l.length sc,.int .i64 0]) (by simp[results,Try.results121,go_sem,r0,r1,r2,r3]) rfl ?_
   have eF:exF d l q=(xT d k).final:=by
    rw[exF,m4.out,List.take_length,d5.out];rfl
   have eT:exT d k l q=(xT d k).next:=by
    rw[exT,m4.out,List.take_length,d5.out];rfl
   have h3:=h0.out;have o7:W.grownBy wf none:=zA h3.grown a0 (fun k e=>by have e:o0=k:=Oj e;omega);have e4:yH wr 3 o0:=⟨_,_,_,h2.out,by decide⟩;have f8:(exF d l q).length=(exT d k l q).length:=by rw[qGI (by omega),qCQ (by omega)]
   have i8:=zB h3.box a0 (fun e=>H9 (Oj e));have l9:=h3.ownF.kept a0 (.inr (zQ h3.ownF h2.out (by decide)));have l8:=h3.ownN.kept a0 (.inr (zQ h3.ownN h2.out (by decide)));have k3:=(h3.rows.keptT a0 (fun k e=>by have e:o0=k:=Oj e;subst e;exact e4)).rowsT;have a6:=h3.num.own.kept a0 (.inr (zQ h3.num.own h2.out (by decide)));have l3:(xT d k).letters=k:=HD.out.hk;rw[eF]at f8 i8 l9 ⊢;rw[eT]at f8 i8 l8 k3 ⊢;refine⟨_,sa,sc,by rw[<- d5.out],?_,by rw[<- d5.out];exact a6,o7⟩;exact⟨o2,hs,sf,cf,sn,cn,by rw[l3];rfl,b0,by rw[l3];exact i8,l9,l8,k3,f8⟩
end Go.Proofs.Ytjfdomfendbhfaa
