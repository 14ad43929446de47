/- Part 11 of the proof: DfaAt, BuildD, EMem0. -/
import Derived.Test.YtjfdomfendbhfaaQe10
import Derived.Deep.DeepCutAuto
import Derived.Deep.CutBlock
import Derived.Deep.RegionHeld3
import Derived.BigQuiet
import Derived.Laws.Concat
set_option linter.unusedVariables false
set_option linter.unusedSimpArgs false
namespace Go.Proofs.Ytjfdomfendbhfaa
open Go.RowKit
structure DAt (B:Nat) (w:World) (d:DfaV) (n k fb fo fc b off cap:Nat) (RB RO RC:Nat->Nat):Prop where
 ok:VD d n k
 flt:fb < B
 frow:vH w fb fo (bls d.final)
 fcap:n<=fc/\fc<=maxLen
 blt:b < B
 bltw:b < w.heap.size
 cap:n<=cap/\cap<=maxLen
 hd:∀ q,q < n->w.cell? ⟨b,off+q,none⟩=some (.slice (some ⟨RB q,RO q,none⟩) k (RC q))
 el:∀ q a,q < n->a < k->w.cell? ⟨RB q,RO q+a,none⟩=some (.int .i64 ((nx d q a:Nat):Int))
 rlt:∀ q,q < n->RB q < B/\RB q < w.heap.size
 rcap:∀ q,q < n->k<=RC q/\RC q<=maxLen
theorem DAt.kept {B:Nat} {w w':World} {d:DfaV} {n k fb fo fc b off cap:Nat} {RB RO RC:Nat->Nat} {row:Option Nat} (h:DAt B w d n k fb fo fc b off cap RB RO RC) (hg:w.grownBy w' row) (hr:∀ k,row=some k->B<=k):DAt B w' d n k fb fo fc b off cap RB RO RC where
 ok:=h.ok
 flt:=h.flt
 frow:=h.frow.kept hg (fun e=>by have:=hr _ e;have:=h.flt;omega)
 fcap:=h.fcap
 blt:=h.blt
 bltw:=Nat.lt_of_lt_of_le h.bltw hg.size
 cap:=h.cap
 hd:=fun q hq=>(World.cell?_of_block (hg.block b h.bltw (fun e=>by have:=hr b e.symm;have:=h.blt;omega))).trans (h.hd q hq)
 el:=fun q a hq ha=>(World.cell?_of_block (hg.block (RB q) (h.rlt q hq).2 (fun e=>by have:=hr _ e.symm;have:=(h.rlt q hq).1;omega))).trans (h.el q a hq ha)
 rlt:=fun q hq=>⟨(h.rlt q hq).1,Nat.lt_of_lt_of_le (h.rlt q hq).2 hg.size⟩
 rcap:=h.rcap
theorem DAt.fin {B:Nat} {w:World} {d:DfaV} {n k fb fo fc b off cap:Nat} {RB RO RC:Nat->Nat} (h:DAt B w d n k fb fo fc b off cap RB RO RC) {q:Nat} (hq:q < n):w.cell? ⟨fb,fo+q,none⟩=some (.bool (d.final.getD q false)):=by
 have hl:=h.ok.hn
 have:=vH.map h.frow q (by omega)
 rw[this,zF (by omega)]
def dAgg (k st fb fo fc b off cap n:Nat):Value:=.agg #[.int .i64 (k:Int),.int .i64 (st:Int),.slice (some ⟨fb,fo,none⟩) n fc,.slice (some ⟨b,off,none⟩) n cap]
theorem tE.at {B:Nat} {w:World} {v:Value} {d:DfaV} {n k:Nat} (h:tE B w v d) (hd:VD d n k) :
  ∃ fb fo fc b off cap RB RO RC,v=dAgg k (st0 d) fb fo fc b off cap n/\DAt B w d n k fb fo fc b off cap RB RO RC:=by
 obtain⟨fv,nv,rfl,hf,hn⟩:=h
 obtain⟨fb,fo,fc,rfl,h1,h2,h3,h4⟩:=hf.some_ (by rw[xE,hd.hn];exact hd.n1)
 obtain⟨b,off,cap,A,C,rfl,k1,k2,k3⟩:=hn.some_ (by rw[hd.nl];exact hd.n1)
 have hr:∀ q,∃ rb ro,q < n->A q=some ⟨rb,ro,none⟩/\rb < B/\k<=C q/\C q<=maxLen/\vH w rb ro (ints (d.next.getD q [])):=by
  intro q
  by_cases hq:q < n
  ·have hl:=hd.row q hq
   obtain⟨rb,ro,c,e,h4,h5,h6,h7⟩:=(k3.row q (by rw[hd.nl];exact hq)).some_ (by rw[yO,hl];exact hd.k1)
   simp only[Value.slice.injEq]at e
   rw[yO,hl]at h5
   exact⟨rb,ro,fun _=>⟨e.1,h4,by rw[e.2.2];exact h5,by rw[e.2.2];exact h6,h7⟩⟩
  ·exact⟨0,0,fun h=>absurd h hq⟩
 obtain⟨RB,h8⟩:=Classical.axiomOfChoice hr
 obtain⟨RO,h0⟩:=Classical.axiomOfChoice h8
 rw[xE,hd.hn]at h2
 rw[hd.nl]at k1
 refine⟨fb,fo,fc,b,off,cap,RB,RO,C,?_,hd,h1,h4,⟨h2,h3⟩,k3.lt,k3.ltw,⟨k1,k2⟩,fun q hq=>?_,fun q a hq ha=>?_,fun q hq=>?_,fun q hq=>?_⟩
 ·rw[dAgg,gQ hd,hd.hk,xE,hd.hn,hd.nl]
 ·rw[k3.hd q (by rw[hd.nl];exact hq),(h0 q hq).1,hd.row q hq]
 ·rw[(h0 q hq).2.2.2.2.int a (by rw[hd.row q hq];exact ha),qAX hd hq ha]
  rfl
 ·have:=h0 q hq
  exact⟨this.2.1,this.2.2.2.2.1⟩
 ·have:=h0 q hq
  exact⟨this.2.2.1,this.2.2.2.1⟩
theorem zG {w:World} {p:Nat} {x0 x1 x2 x3:Value} {e:Nat} (h:w.heap[p]?=some (.cells #[x0,x1,x2,x3] e (0,0))) :
  w.cell? ⟨p,0,none⟩=some x0/\w.cell? ⟨p,1,none⟩=some x1/\w.cell? ⟨p,2,none⟩=some x2/\w.cell? ⟨p,3,none⟩=some x3:=by
 have c0:=zK h 0 (by simp)
 have c1:=zK h 1 (by simp)
 have c2:=zK h 2 (by simp)
 have c3:=zK h 3 (by simp)
 simp only[List.getElem_toArray,List.getElem_cons_zero,List.getElem_cons_succ]at c0 c1 c2 c3
 exact⟨c0,c1,c2,c3⟩
theorem RowT.shape {B:Nat} {e:TypeId} {w:World} {v:Value} {xs:List Value} (h:RowT B e w v xs):∃ a cap,v=.slice a xs.length cap:=by
 rcases h with ⟨rfl,rfl⟩|⟨b,off,cap,cur,m,rfl,_⟩
 ·exact⟨none,0,rfl⟩
 ·exact⟨_,_,rfl⟩
theorem Mat.of_rows {w:World} {base e n:Nat} {v:Value} {hs:List Value} {t:List (List Int)} {B:Nat} (h:w.ownsRow base e 1 v n hs) (hr:xS B 3 ints w hs t) (hB:B<=w.heap.size):Mat w.heap.size w v t:=by
 have hl:hs.length=n:=by have:=h.1;omega
 have h3:=hr.1
 rcases h.2 with ⟨rfl,rfl⟩|⟨g,cap,cur,rfl,hb,hg,hnc,hcm,hcs,htake⟩
 ·have:hs=[]:=List.eq_nil_of_length_eq_zero hl
  subst this
  exact .inl ⟨_,_,rfl,List.eq_nil_of_length_eq_zero (by simpa using h3.symm)⟩
 ·have h0:∀ x,∃ a c,x < t.length->hs.getD x (.int .i64 0)=.slice a (t.getD x []).length c:=by
   intro x
   by_cases hx:x < t.length
   ·have h1:=hr.2 x (by omega) hx
    obtain⟨a,c,e⟩:=h1.shape
    refine⟨a,c,fun _=>?_⟩
    rw[zF (by omega),e,yO,zF hx]
   ·exact⟨none,0,fun h=>absurd h hx⟩
  obtain⟨A,hA⟩:=Classical.axiomOfChoice h0
  obtain⟨C,hC⟩:=Classical.axiomOfChoice hA
  refine .inr ⟨g,0,cap,A,C,?_,by omega,hcm,zH hg,zH hg,fun x hx=>?_,fun x hx=>?_⟩
  ·rw[show n=t.length by omega]
  ·rw[Nat.zero_add,h.cellAt x (by omega),List.getElem?_eq_getElem (by omega),<- hC x hx,zF (show x < hs.length by omega)]
  ·have h1:=hr.2 x (by omega) hx
   have h2:=hC x hx
   rw[zF (show x < hs.length by omega)]at h2
   rw[<- h2,zF hx]
   exact h1.row.mono hB
theorem RowT.keptF {B:Nat} {e:TypeId} {w w':World} {v:Value} {xs:List Value} {F:Nat->Prop} (h:RowT B e w v xs) (hg:GrownBut w w' F) (hr:∀ k,F k->B<=k\/zY w e k):RowT B e w' v xs:=by
 rcases h with h|⟨b,off,cap,cur,m,h1,h2,h3,h4,h5,h6⟩
 ·exact .inl h
 ·refine .inr ⟨b,off,cap,cur,m,h1,h2,h3,h4,hg.heap h5 (fun hf=>?_),h6⟩
  rcases hr b hf with hk|⟨cur',e',m',hk,hne⟩
  ·omega
  ·rw[h5]at hk;simp at hk;exact hne hk.2.1.symm
theorem xS.keptF {α:Type} {B:Nat} {e:TypeId} {f:α->List Value} {w w':World} {svs:List Value} {ps:List α} {F:Nat->Prop} (h:xS B e f w svs ps) (hg:GrownBut w w' F) (hr:∀ k,F k->B<=k\/zY w e k):xS B e f w' svs ps :=
 ⟨h.1,fun i h1 h2=>(h.2 i h1 h2).keptF hg hr⟩
theorem wG {w:World} {p e:Nat} {x0 x1 x2 x3:Value} (h:w.heap[p]?=some (.cells #[x0,x1,x2,x3] e (0,0))) (y0 y1 y2 y3:Value) :
  ((((w.setCell ⟨p,0,none⟩ y0).setCell ⟨p,1,none⟩ y1).setCell ⟨p,2,none⟩ y2).setCell ⟨p,3,none⟩ y3).heap[p]?=some (.cells #[y0,y1,y2,y3] e (0,0))/\w.grownBy ((((w.setCell ⟨p,0,none⟩ y0).setCell ⟨p,1,none⟩ y1).setCell ⟨p,2,none⟩ y2).setCell ⟨p,3,none⟩ y3) (some p):=by
 have s0:=heap_setCell_same w p 0 _ _ y0 h
 have s1:=heap_setCell_same _ p 1 _ _ y1 s0
 have s2:=heap_setCell_same _ p 2 _ _ y2 s1
 have s3:=heap_setCell_same _ p 3 _ _ y3 s2
 refine⟨by rw[s3];simp,?_⟩
 exact zD (zD (zD (zC w ⟨p,0,none⟩ y0) (zC (w.setCell ⟨p,0,none⟩ y0) ⟨p,1,none⟩ y1)) (zC ((w.setCell ⟨p,0,none⟩ y0).setCell ⟨p,1,none⟩ y1) ⟨p,2,none⟩ y2)) (zC (((w.setCell ⟨p,0,none⟩ y0).setCell ⟨p,1,none⟩ y1).setCell ⟨p,2,none⟩ y2) ⟨p,3,none⟩ y3)
structure Built (base:Nat) (W:World) (o:Nat) (L S:Int) (fs:List Bool) (t:List (List Int)) (hs:List Value) (sf:Option Addr) (cf:Nat) (sn:Option Addr) (cn:Nat):Prop where
 box:W.heap[o]?=some (.cells #[.int .i64 L,.int .i64 S,.slice sf fs.length cf,.slice sn t.length cn] 42 (0,0))
 ownF:W.ownsRow base 4 1 (.slice sf fs.length cf) fs.length (bls fs)
 ownN:W.ownsRow base 34 1 (.slice sn t.length cn) t.length hs
 rows:xS W.heap.size 3 ints W hs t
 len:fs.length=t.length
section
variable {base o:Nat} {W W':World} {L S:Int} {fs:List Bool} {t:List (List Int)} {hs:List Value} {sf sn:Option Addr} {cf cn:Nat}
theorem Built.grow (h:Built base W o L S fs t hs sf cf sn cn) (hg:W.grownBy W' none):Built base W' o L S fs t hs sf cf sn cn where
 box:=zA h.box hg (by simp)
 ownF:=wD h.ownF hg (by simp)
 ownN:=wD h.ownN hg (by simp)
 rows:=(h.rows.kept hg (by simp)).mono hg.size
 len:=h.len
theorem Built.dfa (h:Built base W o L S fs t hs sf cf sn cn):tE W.heap.size W (.agg #[.int .i64 L,.int .i64 S,.slice sf fs.length cf,.slice sn t.length cn]) ⟨L,S,fs,t⟩ :=
 ⟨_,_,rfl,Row.of_owns h.ownF,Mat.of_rows h.ownN h.rows (Nat.le_refl _)⟩
theorem Built.far {r:Nat} {cs:Array Value} {m:Nat × Nat} (h:Built base W o L S fs t hs sf cf sn cn) (hg:W.grownBy W' (some r)) (hr:W.heap[r]?=some (.cells cs 42 m)) (hne:r≠o):Built base W' o L S fs t hs sf cf sn cn where
 box:=zA h.box hg (fun e=>hne (Oj e))
 ownF:=h.ownF.kept hg (.inr (zS h.ownF hr (by decide)))
 ownN:=h.ownN.kept hg (.inr (zS h.ownN hr (by decide)))
 rows:=(h.rows.kept hg (fun k hk=>.inr (by have:=Oj hk;subst this;exact⟨_,_,_,hr,by decide⟩))).mono hg.size
 len:=h.len
theorem Built.congr {fs':List Bool} {t':List (List Int)} (h:Built base W o L S fs t hs sf cf sn cn) (e1:fs'=fs) (e2:t'=t):Built base W o L S fs' t' hs sf cf sn cn:=by rw[e1,e2];exact h
def rN (base:Nat) (n:Nat) (hs:List Value) (sn:Option Addr) (cn:Nat):RowS:=⟨base,34,.slice sn n cn,n,hs,1⟩
def rF (base:Nat) (fs:List Bool) (sf:Option Addr) (cf:Nat):RowS:=⟨base,4,.slice sf fs.length cf,fs.length,bls fs,1⟩
theorem Built.apart (h:Built base W o L S fs t hs sf cf sn cn):∀ k,(Value.slice sn t.length cn).ownBlock=some k->(Value.slice sf fs.length cf).ownBlock≠some k:=by
 intro k hk e
 rcases h.ownF.2 with ⟨hv,_⟩|⟨g,cap,cur,hv,_,hg,_⟩
 ·rw[hv]at e;simp[Value.ownBlock]at e
 ·rw[hv]at e
  have:g=k:=by simpa [Value.ownBlock] using e
  subst this
  exact zS h.ownN hg (by decide) hk
def FB (sf:Option Addr) (sn:Option Addr) (k:Nat):Prop:=(Value.slice sn 0 0).ownBlock=some k\/(Value.slice sf 0 0).ownBlock=some k
theorem zO (s:Option Addr) (n c:Nat):(Value.slice s n c).ownBlock=(Value.slice s 0 0).ownBlock:=by cases s <;> rfl
theorem Built.many (h:Built base W o L S fs t hs sf cf sn cn):Many W (FB sf sn) W [rN base t.length hs sn cn,rF base fs sf cf] [] []:=by
 have:=Many.two (w:=W) (r:=rN base t.length hs sn cn) (s:=rF base fs sf cf) h.ownN h.ownF h.apart
 have e:(fun k=>(rN base t.length hs sn cn).v.ownBlock=some k\/(rF base fs sf cf).v.ownBlock=some k)=FB sf sn:=by
  funext k;simp only[rN,rF,FB,zO sn t.length,zO sf fs.length]
 rwa [e]at this
theorem Built.other (h:Built base W o L S fs t hs sf cf sn cn):∀ k,FB sf sn k->zY W 3 k:=by
 intro k hk
 rcases hk with hk|hk
 ·rw[<- zO sn t.length cn]at hk;exact yI h.ownN (by decide) k hk
 ·rw[<- zO sf fs.length cf]at hk;exact yI h.ownF (by decide) k hk
theorem Built.notbox (h:Built base W o L S fs t hs sf cf sn cn):¬ FB sf sn o:=by
 rintro (hk|hk)
 ·rw[<- zO sn t.length cn]at hk;exact zS h.ownN h.box (by decide) hk
 ·rw[<- zO sf fs.length cf]at hk;exact zS h.ownF h.box (by decide) hk
theorem Built.ge (h:Built base W o L S fs t hs sf cf sn cn):∀ k,FB sf sn k->base<=k:=by
 rintro k (hk|hk)
 ·rw[<- zO sn t.length cn]at hk;exact(h.ownN.lt k hk).1
 ·rw[<- zO sf fs.length cf]at hk;exact(h.ownF.lt k hk).1
theorem Built.push {m:Nat} {b:Bool} {row:List Int} {rv:Value} {sf' sn':Option Addr} {cf' cn':Nat} {ls:List (Nat × Obj)} {ps:List (Nat × TypeId × List Value)} (h:Built base W o L S fs t hs sf cf sn cn) (hm:t.length=m)
  (hM:Many W (FB sf sn) W' [⟨base,34,.slice sn' (m+1) cn',m+1,hs ++ [rv],1⟩,⟨base,4,.slice sf' (m+1) cf',m+1,bls fs ++ [.bool b],1⟩] ls ps)
  (hrow:RowT W.heap.size 3 W rv (ints row)) {W2:World} (hW2:W2=(W'.setCell ⟨o,3,none⟩ (.slice sn' (m+1) cn')).setCell ⟨o,2,none⟩ (.slice sf' (m+1) cf')) :
  Built base W2 o L S (fs ++ [b]) (t ++ [row]) (hs ++ [rv]) sf' cf' sn' cn'/\∀ w0:World,w0.grownBy W (some o)->w0.heap.size<=base->w0.grownBy W2 (some o):=by
 have h2:fs.length=m:=h.len.trans hm
 have hN:=hM.own 0 _ rfl
 have hF:=hM.own 1 _ rfl
 simp only[]at hN hF
 have h0:=hM.but.heap h.box h.notbox
 have h1:=(h.rows.snoc hrow).keptF hM.but (fun k hk=>.inr (h.other k hk))
 have s1:=heap_setCell_same W' o 3 _ _ (.slice sn' (m+1) cn') h0
 have s2:=heap_setCell_same _ o 2 _ _ (.slice sf' (m+1) cf') s1
 have g1:W'.grownBy W2 (some o):=by rw[hW2];exact zD (zC W' ⟨o,3,none⟩ _) (zC (W'.setCell ⟨o,3,none⟩ (.slice sn' (m+1) cn')) ⟨o,2,none⟩ _)
 have h3:zY W' 3 o:=⟨_,_,_,h0,by decide⟩
 refine⟨⟨?_,?_,?_,?_,by simp[h.len]⟩,fun w0 hw0 hb=>?_⟩
 ·rw[hW2,s2]
  simp[h2,hm]
 ·have:=hF.kept g1 (.inr (zS hF h0 (by decide)))
  rw[List.length_append,h2]
  simpa [bls] using this
 ·have:=hN.kept g1 (.inr (zS hN h0 (by decide)))
  rw[List.length_append,hm]
  exact this
 ·exact(h1.kept g1 (fun k hk=>.inr (by have:=Oj hk;subst this;exact h3))).mono (Nat.le_trans hM.but.size g1.size)
 ·exact zD (hM.but.grown hw0 (fun k hk=>.inr (Nat.le_trans hb (h.ge k hk)))) g1
def tA (w w':World) (v:Value) (m:DfaV):Prop:=∃ (o:Nat) (hs:List Value) (sf:Option Addr) (cf:Nat) (sn:Option Addr) (cn:Nat),
 v=.agg #[.int .i64 m.letters,.int .i64 m.start,.slice sf m.final.length cf,.slice sn m.next.length cn]/\w.heap.size<=o/\Built o w' o m.letters m.start m.final m.next hs sf cf sn cn
theorem tA.dfa {w w':World} {v:Value} {m:DfaV} (h:tA w w' v m):tE w'.heap.size w' v m:=by
 obtain⟨o,hs,sf,cf,sn,cn,rfl,_,hb⟩:=h
 exact hb.dfa
theorem tA.grow {w w' w'':World} {v:Value} {m:DfaV} (h:tA w w' v m) (hg:w'.grownBy w'' none):tA w w'' v m:=by
 obtain⟨o,hs,sf,cf,sn,cn,h1,h2,hb⟩:=h
 exact⟨o,hs,sf,cf,sn,cn,h1,h2,hb.grow hg⟩
theorem tA.old {w0 w w':World} {v:Value} {m:DfaV} (h:tA w w' v m) (hg:w0.heap.size<=w.heap.size):tA w0 w' v m:=by
 obtain⟨o,hs,sf,cf,sn,cn,h1,h2,hb⟩:=h
 exact⟨o,hs,sf,cf,sn,cn,h1,Nat.le_trans hg h2,hb⟩
theorem tA.far {w w' w'':World} {v:Value} {m:DfaV} {r:Nat} {cs:Array Value} {mm:Nat × Nat} (h:tA w w' v m) (hg:w'.grownBy w'' (some r)) (hr:w'.heap[r]?=some (.cells cs 42 mm)) (hlt:r < w.heap.size):tA w w'' v m:=by
 obtain⟨o,hs,sf,cf,sn,cn,h1,h2,hb⟩:=h
 exact⟨o,hs,sf,cf,sn,cn,h1,h2,hb.far hg hr (by omega)⟩
end
def RowX (X:Nat->Prop) (e:TypeId) (w:World) (v:Value) (xs:List Value):Prop:=RowT w.heap.size e w v xs/\∀ k,v.ownBlock=some k->X k
def wL (X:Nat->Prop) (w w':World):Prop:=∀ k,X k->w'.heap[k]?=w.heap[k]?
theorem wL.trans {X:Nat->Prop} {a b c:World} (h:wL X a b) (h':wL X b c):wL X a c:=fun k hk=>(h' k hk).trans (h k hk)
theorem wL.refl (X:Nat->Prop) (w:World):wL X w w:=fun _ _=>rfl
theorem wL.cell {X:Nat->Prop} {w w':World} (h:wL X w w') {b i:Nat} (hb:X b) {u:Value} (hc:w.cell? ⟨b,i,none⟩=some u):w'.cell? ⟨b,i,none⟩=some u:=(World.cell?_of_block (h b hb)).trans hc
theorem RowX.kept {X:Nat->Prop} {e:TypeId} {w w':World} {v:Value} {xs:List Value} (h:RowX X e w v xs) (hk:wL X w w') (hs:w.heap.size<=w'.heap.size):RowX X e w' v xs:=by
 refine⟨?_,h.2⟩
 rcases h.1 with h1|⟨b,off,cap,cur,m,h1,h2,h3,h4,h5,h6⟩
 ·exact .inl h1
 ·exact .inr ⟨b,off,cap,cur,m,h1,by omega,h3,h4,(hk b (h.2 b (by rw[h1];rfl))).trans h5,h6⟩
theorem RowX.mono {X X':Nat->Prop} {e:TypeId} {w:World} {v:Value} {xs:List Value} (h:RowX X e w v xs) (hX:∀ k,X k->X' k):RowX X' e w v xs:=⟨h.1,fun k hk=>hX k (h.2 k hk)⟩
theorem RowX.row {X:Nat->Prop} {e:TypeId} {w:World} {v:Value} {xs:List Value} (h:RowX X e w v xs):Row w.heap.size w v xs:=h.1.row
theorem RowX.of_owns {X:Nat->Prop} {w:World} {base e n:Nat} {v:Value} {xs:List Value} (h:w.ownsRow base e 1 v n xs) (hX:∀ k,v.ownBlock=some k->X k):RowX X e w v xs:=⟨RowT.of_owns h,hX⟩
def vM {α:Type} (X:Nat->Prop) (e:TypeId) (f:α->List Value) (w:World) (hs:List Value) (ts:List α):Prop :=
 hs.length=ts.length/\∀ i (h:i < hs.length) (h':i < ts.length),RowX X e w hs[i] (f ts[i])
section
variable {α:Type} {X X':Nat->Prop} {e:TypeId} {f:α->List Value} {w w':World} {hs:List Value} {ts:List α}
theorem vM.nil:vM X e f w [] []:=⟨rfl,fun i h=>by simp at h⟩
theorem vM.kept (h:vM X e f w hs ts) (hk:wL X w w') (hs':w.heap.size<=w'.heap.size):vM X e f w' hs ts:=⟨h.1,fun i h1 h2=>(h.2 i h1 h2).kept hk hs'⟩
theorem vM.mono (h:vM X e f w hs ts) (hX:∀ k,X k->X' k):vM X' e f w hs ts:=⟨h.1,fun i h1 h2=>(h.2 i h1 h2).mono hX⟩
theorem vM.snoc {v:Value} {t:α} (h:vM X e f w hs ts) (hv:RowX X e w v (f t)):vM X e f w (hs ++ [v]) (ts ++ [t]):=by
 refine⟨by simp[h.1],fun i h1 h2=>?_⟩
 by_cases hi:i < hs.length
 ·rw[List.getElem_append_left hi]
  simp only[List.getElem_append_left (show i < ts.length by rw[<- h.1];exact hi)]
  exact h.2 i hi _
 ·have:i=hs.length:=by simp at h1;omega
  subst this
  rw[List.getElem_append_right (Nat.le_refl _)]
  simp only[List.getElem_append_right (show ts.length<=hs.length by rw[h.1];exact Nat.le_refl _)]
  simpa [h.1] using hv
end
structure EMem (X:Nat->Prop) (W:World) (rs:List RowS):Prop where
 own:∀ r∈rs,W.ownsRow r.base r.e r.sz r.v r.n r.xs
 apart:rs.Pairwise (fun r s=>∀ k,r.v.ownBlock=some k->s.v.ownBlock≠some k)
 offX:∀ r∈rs,∀ k,r.v.ownBlock=some k->¬ X k
 lt:∀ k,X k->k < W.heap.size
def dI (rs:List RowS) (k:Nat):Prop:=∃ r∈rs,r.v.ownBlock=some k
section
variable {X:Nat->Prop} {W W':World} {rs rs':List RowS}
theorem EMem.many (h:EMem X W rs) (F:Nat->Prop) (hF:∀ k,dI rs k->F k):Many W F W rs [] []:=Many.start h.own (fun r hr k hk=>hF k ⟨r,hr,hk⟩) h.apart
theorem EMem.grow (h:EMem X W rs) (hg:W.grownBy W' none):EMem X W' rs:=⟨fun r hr=>zQ (h.own r hr) hg,h.apart,h.offX,fun k hk=>Nat.lt_of_lt_of_le (h.lt k hk) hg.size⟩
theorem wL.of_grown {row:Option Nat} (hlt:∀ k,X k->k < W.heap.size) (hg:W.grownBy W' row) (hr:∀ k,row=some k->¬ X k):wL X W W':=fun k hk=>hg.block k (hlt k hk) (fun e=>hr k e.symm hk)
theorem EMem.keep (h:EMem X W rs) (hg:W.grownBy W' none):wL X W W':=wL.of_grown h.lt hg (by simp)
theorem EMem.after {F:Nat->Prop} {ls:List (Nat × Obj)} (h:EMem X W rs) (hM:Many W F W' rs' ls []) (hF:∀ k,F k->¬ X k):EMem X W' rs' where
 own:=fun r hr=>by
  obtain⟨i,hi,e⟩:=List.getElem_of_mem hr
  exact hM.own i r (by rw[List.getElem?_eq_getElem hi,e])
 apart:=by
  rw[List.pairwise_iff_getElem]
  intro i j hi hj h0
  exact hM.apart i j _ _ (by omega) (List.getElem?_eq_getElem hi) (List.getElem?_eq_getElem hj)
 offX:=fun r hr k hk hx=>by
  obtain⟨i,hi,e⟩:=List.getElem_of_mem hr
  rcases hM.mine i r (by rw[List.getElem?_eq_getElem hi,e]) k hk with hf|hf
  ·exact hF k hf hx
  ·have:=h.lt k hx;omega
 lt:=fun k hk=>Nat.lt_of_lt_of_le (h.lt k hk) hM.but.size
theorem EMem.keepMany {F:Nat->Prop} {ls:List (Nat × Obj)} (h:EMem X W rs) (hM:Many W F W' rs' ls []) (hF:∀ k,F k->¬ X k):wL X W W':=fun k hk=>hM.but.block k (h.lt k hk) (fun hf=>hF k hf hk)
theorem EMem.far (h:EMem X W rs) {o:Nat} (hg:W.grownBy W' (some o)) (hr:∀ r∈rs,r.v.ownBlock≠some o):EMem X W' rs where
 own:=fun r hr'=>(h.own r hr').kept hg (.inr (hr r hr'))
 apart:=h.apart
 offX:=h.offX
 lt:=fun k hk=>Nat.lt_of_lt_of_le (h.lt k hk) hg.size
theorem EMem.retire {r:RowS} (h:EMem X W (rs ++ [r])):EMem (fun k=>X k\/r.v.ownBlock=some k) W rs where
 own:=fun s hs=>h.own s (List.mem_append_left _ hs)
 apart:=(List.pairwise_append.1 h.apart).1
 offX:=fun s hs k hk hx=>by
  rcases hx with hx|hx
  ·exact h.offX s (List.mem_append_left _ hs) k hk hx
  ·exact(List.pairwise_append.1 h.apart).2.2 s hs r (by simp) k hk hx
 lt:=fun k hx=>by
  rcases hx with hx|hx
  ·exact h.lt k hx
  ·exact((h.own r (by simp)).lt k hx).2
theorem EMem.fresh (h:EMem X W rs) (hg:W.grownBy W' none) {Y:Nat->Prop} (hY:∀ k,Y k->W.heap.size<=k/\k < W'.heap.size):EMem (fun k=>X k\/Y k) W' rs where
 own:=fun r hr=>zQ (h.own r hr) hg
 apart:=h.apart
 offX:=fun r hr k hk hx=>by
  rcases hx with hx|hx
  ·exact h.offX r hr k hk hx
  ·have:=((h.own r hr).lt k hk).2
   have:=(hY k hx).1
   omega
 lt:=fun k hx=>by
  rcases hx with hx|hx
  ·exact Nat.lt_of_lt_of_le (h.lt k hx) hg.size
  ·exact(hY k hx).2
theorem EMem.add (h:EMem X W rs) (hg:W.grownBy W' none) {r:RowS} (ho:W'.ownsRow r.base r.e r.sz r.v r.n r.xs) (hn:∀ k,r.v.ownBlock=some k->W.heap.size<=k):EMem X W' (rs ++ [r]) where
 own:=fun s hs=>by
  rcases List.mem_append.1 hs with hs|hs
  ·exact zQ (h.own s hs) hg
  ·rw[List.mem_singleton]at hs;subst hs;exact ho
 apart:=by
  rw[List.pairwise_append]
  refine⟨h.apart,by simp,fun s hs t ht k hk e=>?_⟩
  rw[List.mem_singleton]at ht
  subst ht
  have:=((h.own s hs).lt k hk).2
  have:=hn k e
  omega
 offX:=fun s hs k hk hx=>by
  rcases List.mem_append.1 hs with hs|hs
  ·exact h.offX s hs k hk hx
  ·rw[List.mem_singleton]at hs;subst hs
   have:=h.lt k hx
   have:=hn k hk
   omega
 lt:=fun k hk=>Nat.lt_of_lt_of_le (h.lt k hk) hg.size
theorem EMem.nil (w:World):EMem (fun _=>False) w []:=⟨fun r hr=>by simp at hr,List.Pairwise.nil,fun r hr=>by simp at hr,fun k hk=>hk.elim⟩
end
theorem vM.rowsT {α:Type} {X:Nat->Prop} {e:TypeId} {f:α->List Value} {w:World} {hs:List Value} {ts:List α} (h:vM X e f w hs ts):xS w.heap.size e f w hs ts:=⟨h.1,fun i h3 h4=>(h.2 i h3 h4).1⟩
theorem EMem.appAt {X:Nat->Prop} {W W':World} {rs:List RowS} (h:EMem X W rs) {j:Nat} {r:RowS} (hr:rs[j]?=some r) {v':Value} {n':Nat} {us:List Value} (ho:W'.ownsRow r.base r.e r.sz v' n' (r.xs ++ us)) (hg:W.grownBy W' r.v.ownBlock) (hm:mA W W' r.v v'):EMem X W' (rs.set j ⟨r.base,r.e,v',n',r.xs ++ us,r.sz⟩) :=
 h.after ((h.many (dI rs) (fun _ h=>h)).append hr ho hg hm) (fun k hk=>by obtain⟨r,hr,hk⟩:=hk;exact h.offX r hr k hk)
theorem EMem.dropLast {X:Nat->Prop} {W:World} {rs:List RowS} {r:RowS} (h:EMem X W (rs ++ [r])):EMem X W rs:=⟨fun s hs=>h.own s (List.mem_append_left _ hs),(List.pairwise_append.1 h.apart).1,fun s hs=>h.offX s (List.mem_append_left _ hs),h.lt⟩
theorem Arr.rowT' {w:World} {g cap:Nat} {e:TypeId} {xs:List Value} (h:Arr w g e xs) (hc:xs.length<=cap) (hm:cap<=maxLen):RowT w.heap.size e w (.slice (some ⟨g,0,none⟩) xs.length cap) xs:=by
 have h1:=h.lt
 obtain⟨cur,rest,hg,h0⟩:=h
 refine .inr ⟨g,0,cap,cur,(0,0),rfl,h1,hc,hm,hg,fun i hi=>?_⟩
 rw[Nat.zero_add,<- Array.getElem?_toList,h0,List.getElem?_append_left hi,List.getElem?_eq_getElem hi]
end Go.Proofs.Ytjfdomfendbhfaa
