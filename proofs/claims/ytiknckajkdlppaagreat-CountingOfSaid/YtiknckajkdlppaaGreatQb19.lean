/- Part 19 of the proof. -/
import Derived.Test.YtiknckajkdlppaaGreatQb18
import Derived.BigQuiet
import Derived.Deep.Cut
set_option linter.unusedVariables false
set_option linter.unusedSimpArgs false
set_option maxRecDepth 100000
set_option maxHeartbeats 16000000
namespace Go.Proofs.YtiknckajkdlppaaGreat
open Go.RowKit
variable{row:Option Nat}{v:Value}{n i q g a c B tb e a8 x:Nat}{xs:List Value}{a9 s:Option Addr}{W2:World}
structure OwnsT (base:Nat)(W:World)(hs:List Value)(t:List (List Int)):Prop where
 len:hs.length=t.length
 own:∀i (h:i<hs.length) (h':i<t.length),W.ownsRow base 3 1 hs[i] t[i].length (ints t[i])
 dis:∀i j (hi:i<hs.length) (hj:j<hs.length),i≠j->∀k,hs[i].ownBlock=some k->hs[j].ownBlock≠some k
section
variable {base:Nat} {W W':World} {hs:List Value} {t:List (List Int)}
theorem OwnsT.nil:OwnsT base W [] []:=⟨rfl,fun i h=>by simp at h,fun i j h=>by simp at h⟩
theorem OwnsT.rowsT (h:OwnsT base W hs t):tN W.heap.size 3 ints W hs t:=⟨h.len,fun i h1 h2=>RowT.of_owns (h.own i h1 h2)⟩
theorem qJP (h:W.ownsRow base 3 1 v n xs)(hg:W.grownBy W' row)(hr:∀k,row=some k->k<base\/yS W 3 k):W'.ownsRow base 3 1 v n xs:=by
 refine h.kept hg ?_;rcases hv:v.ownBlock with _|k
 ·exact .inl rfl
 refine .inr fun e=>?_;rcases hr k e.symm with hk|⟨c,e',m,hp,hne⟩
 ·have:=(h.lt k hv).1;omega
 exact zR h hp (Ne.symm hne) hv
theorem OwnsT.kept (h:OwnsT base W hs t)(hg:W.grownBy W' row)(hr:∀k,row=some k->k<base\/yS W 3 k):OwnsT base W' hs t :=
 ⟨h.len,fun i h1 h2=>qJP (h.own i h1 h2) hg hr,h.dis⟩
theorem OwnsT.snoc {r:List Int}(h:OwnsT base W hs t)(ho:W.ownsRow base 3 1 v r.length (ints r))(hd:∀i (hi:i<hs.length),∀k,hs[i].ownBlock=some k->v.ownBlock≠some k):OwnsT base W (hs++[v]) (t++[r]):=by
 have hl:=h.len;refine⟨by simp[hl],fun i h1 h2=>?_,fun i j hi hj hij k hk=>?_⟩
 ·by_cases hi:i<hs.length
  ·have:=h.own i hi yo
   rw[List.getElem_append_left hi];simp only[List.getElem_append_left (show i<t.length by omega)];exact this
  have e:i=hs.length:=by simp at h1;omega
  subst e;rw[List.getElem_append_right (Nat.le_refl _)];simp only[List.getElem_append_right (show t.length<=hs.length by omega)];simpa [hl] using ho
 simp only[List.length_append,List.length_singleton]at hi hj;by_cases h1:i<hs.length
 ·rw[List.getElem_append_left h1]at hk
  by_cases h2:j<hs.length
  ·rw[List.getElem_append_left h2];exact h.dis i j h1 h2 hij k hk
  have e:j=hs.length:=yo
  subst e;rw[List.getElem_append_right (Nat.le_refl _)];simpa using hd i h1 k hk
 have e:i=hs.length:=yo
 subst e;rw[List.getElem_append_right (Nat.le_refl _)]at hk;have h2:j<hs.length:=yo;rw[List.getElem_append_left h2];intro e;exact hd j h2 k e (by simpa using hk)
theorem OwnsT.lt (h:OwnsT base W hs t)(hi:i<hs.length){k:Nat}(hk:hs[i].ownBlock=some k):base<=k/\k<W.heap.size:=(h.own i hi (by rw[<-h.len];exact hi)).lt k hk
theorem OwnsT.at (h:OwnsT base W hs t)(hq:q<t.length)(hp:0<(t.getD q []).length):∃g c,hs[q]?=some (.slice (some ⟨g,0,none⟩) (t.getD q []).length c)/\(t.getD q []).length<=c/\c<=maxLen/\base<=g/\Arr W g 3 (ints (t.getD q [])):=by
 have h0:q<hs.length:=by rw[h.len];exact hq
 have ho:=h.own q h0 hq;have e:t.getD q []=t[q]:=by simp[List.getD_eq_getElem?_getD,hq]
 rw[e]at hp⊢;obtain⟨sa,sc,hv⟩:=rX ho;rw[hv]at ho;obtain⟨kb,rfl,h1,h2,h3⟩:=yV ho hp;refine⟨kb,sc,by rw[List.getElem?_eq_getElem h0,hv],h1,h2,(ho.lt kb rfl).1,h3⟩
theorem OwnsT.poke (h:OwnsT base W hs t)(hv:hs[q]?=some (.slice (some ⟨g,0,none⟩) n c))(ha:a<(t.getD q []).length)(x:Int):OwnsT base (W.setCell ⟨g,a,none⟩ (.int .i64 x)) hs (t.set q ((t.getD q []).set a x)):=by
 obtain⟨hq,he⟩:=List.getElem?_eq_some_iff.1 hv;have hl:=h.len;have hg:=zH W ⟨g,a,none⟩ (.int .i64 x);refine⟨by simp[hl],fun i h1 h2=>?_,h.dis⟩;rw[List.length_set]at h2;by_cases e:q=i
 ·subst e
  have ho:=h.own q h1 h2;have e2:t.getD q []=t[q]:=by simp[List.getD_eq_getElem?_getD,h2]
  rw[e2]at ha;simp only[List.getElem_set_self,e2];rw[he]at ho⊢;obtain⟨h0,ho⟩:=ho;refine⟨by simp[ints],?_⟩;rcases ho with ⟨h7,_⟩|⟨g',cap,cur,hs',hb,hgc,hc1,hc2,hc3,hc4⟩
  ·simp at h7
  simp only[Value.slice.injEq,Option.some.injEq,Addr.mk.injEq,and_true]at hs';obtain⟨rfl,hn,rfl⟩:=hs';subst hn;refine .inr ⟨g,c,cur.setIfInBounds a (.int .i64 x),yq,hb,heap_setCell_same W g a _ _ _ hgc,by simpa using hc1,hc2,by simpa using hc3,?_⟩;simp only[List.length_set,Nat.mul_one]at hc4⊢;rw[Array.toList_setIfInBounds,List.take_set,hc4];simp[ints,List.map_set]
 have ho:=h.own i h1 h2;simp only[List.getElem_set_ne e]
 exact ho.kept hg (by
  rcases hv2:hs[i].ownBlock with _|k
  ·exact .inl rfl
  refine .inr fun e3=>?_;have e3:=Oj e3;subst e3
  exact h.dis i q h1 hq (fun e4=>e e4.symm) _ hv2 (by rw[he];rfl))
end
structure Half (base:Nat)(W:World)(o:Nat)(L S:Int)(fs:List Bool)(t:List (List Int))(hs:List Value)(sf:Option Addr)(cf:Nat)(sn:Option Addr)(cn:Nat):Prop where
 box:W.heap[o]?=some (.cells #[.int .i64 L,.int .i64 S,.slice sf fs.length cf,.slice sn t.length cn] 29 (0,0))
 ownF:W.ownsRow base 4 1 (.slice sf fs.length cf) fs.length (bls fs)
 ownN:W.ownsRow base 22 1 (.slice sn t.length cn) t.length hs
 rows:OwnsT base W hs t
section
variable {base o:Nat} {W W':World} {L S:Int} {fs:List Bool} {t:List (List Int)} {hs:List Value} {sf sn:Option Addr} {cf cn:Nat}
theorem Half.built (h:Half base W o L S fs t hs sf cf sn cn)(hl:fs.length=t.length):Built base W o L S fs t hs sf cf sn cn:=⟨h.box,h.ownF,h.ownN,h.rows.rowsT,hl⟩
theorem Half.far {r:Nat}{cs:Array Value}{m:Nat×Nat}(h:Half base W o L S fs t hs sf cf sn cn)(hg:W.grownBy W' (some r))(hr:W.heap[r]?=some (.cells cs 29 m))(a9:r≠o):Half base W' o L S fs t hs sf cf sn cn where
 box:=zD h.box hg (fun e=>a9 (Oj e))
 ownF:=h.ownF.kept hg (.inr (zR h.ownF hr jd))
 ownN:=h.ownN.kept hg (.inr (zR h.ownN hr jd))
 rows:=h.rows.kept hg (fun k hk=>.inr (by have:=Oj hk;subst this;exact⟨_,_,_,hr,jd⟩))
theorem Half.grow (h:Half base W o L S fs t hs sf cf sn cn)(hg:W.grownBy W' none):Half base W' o L S fs t hs sf cf sn cn where
 box:=zD h.box hg
 ownF:=yY h.ownF hg yq
 ownN:=yY h.ownN hg yq
 rows:=h.rows.kept hg yq
theorem Half.tape (h:Half base W o L S fs t hs sf cf sn cn)(hT:wJ B W tb)(hg:W.grownBy W' (some tb)):Half base W' o L S fs t hs sf cf sn cn:=by
 obtain⟨sl,zs,n,hr,_⟩:=hT;refine⟨zD h.box hg (fun e=>?_),h.ownF.kept hg (.inr (zR h.ownF hr jd)),h.ownN.kept hg (.inr (zR h.ownN hr jd)),?_⟩
 ·have e:=Oj e
  have h1:=h.box;rw[<-e,hr]at h1;simp at h1
 exact h.rows.kept hg (fun k hk=>.inr (by have:=Oj hk;subst this;exact⟨_,_,_,hr,jd⟩))
theorem qFC {w:World}{base e' n':Nat}{v':Value}{ys:List Value}(h:w.ownsRow base e 1 v n xs)(h':w.ownsRow base e' 1 v' n' ys)(a9:e≠e'):v.ownBlock=none\/v.ownBlock≠v'.ownBlock:=by
 rcases hv:v.ownBlock with _|k
 ·exact .inl rfl
 refine .inr (fun e2=>?_);obtain⟨c,e3,m,hp,h3⟩:=wH h' (Ne.symm a9) k e2.symm;exact zR h hp (Ne.symm h3) hv
theorem Half.pushF {b:Bool}(h:Half base W o L S fs t hs sf cf sn cn)(ho:W'.ownsRow base 4 1 (.slice a9 (fs.length+1) a8) (fs.length+1) (bls fs++[.bool b]))(hg:W.grownBy W' (Value.slice sf fs.length cf).ownBlock)(a7:W2=W'.setCell ⟨o,2,none⟩ (.slice a9 (fs.length+1) a8)):Half base W2 o L S (fs++[b]) t hs a9 a8 sn cn/\∀w0:World,w0.grownBy W (some o)->w0.heap.size<=base->w0.grownBy W2 (some o):=by
 have h0:=zD h.box hg (fun e=>zR h.ownF h.box jd e);have s1:=heap_setCell_same W' o 2 _ _ (.slice a9 (fs.length+1) a8) h0;have g1:W'.grownBy W2 (some o):=by rw[a7];exact zH W' ⟨o,2,none⟩ _
 have h1:yS W' 3 o:=⟨_,_,_,h0,jd⟩;have hN:=h.ownN.kept hg (qFC h.ownN h.ownF jd);have hR:=h.rows.kept hg (fun k hk=>.inr (wH h.ownF jd k hk));refine⟨⟨?_,?_,hN.kept g1 (.inr (zR hN h0 jd)),hR.kept g1 (fun k hk=>.inr (by have:=Oj hk;subst this;exact h1))⟩,fun w0 hw0 hb=>?_⟩
 ·rw[a7,s1];simp
 ·have:=ho.kept g1 (.inr (zR ho h0 jd))
  rw[List.length_append];simpa [bls] using this
 exact zI (zE hw0 hg (fun k hk=>Nat.le_trans hb (h.ownF.lt k hk).1)) g1
theorem Half.pushN {row:List Int}{rv:Value}(h:Half base W o L S fs t hs sf cf sn cn)(ho:W'.ownsRow base 22 1 (.slice a9 (t.length+1) a8) (t.length+1) (hs++[rv]))(hg:W.grownBy W' (Value.slice sn t.length cn).ownBlock)(a7:W.ownsRow base 3 1 rv row.length (ints row))(a6:∀i (hi:i<hs.length),∀k,hs[i].ownBlock=some k->rv.ownBlock≠some k)(a5:W2=W'.setCell ⟨o,3,none⟩ (.slice a9 (t.length+1) a8)):Half base W2 o L S fs (t++[row]) (hs++[rv]) sf cf a9 a8/\∀w0:World,w0.grownBy W (some o)->w0.heap.size<=base->w0.grownBy W2 (some o):=by
 have h0:=zD h.box hg (fun e=>zR h.ownN h.box jd e);have s1:=heap_setCell_same W' o 3 _ _ (.slice a9 (t.length+1) a8) h0;have g1:W'.grownBy W2 (some o):=by rw[a5];exact zH W' ⟨o,3,none⟩ _
 have h1:yS W' 3 o:=⟨_,_,_,h0,jd⟩;have hF:=h.ownF.kept hg (qFC h.ownF h.ownN jd);have hR:=(h.rows.snoc a7 a6).kept hg (fun k hk=>.inr (wH h.ownN jd k hk));refine⟨⟨?_,hF.kept g1 (.inr (zR hF h0 jd)),?_,hR.kept g1 (fun k hk=>.inr (by have:=Oj hk;subst this;exact h1))⟩,fun w0 hw0 hb=>?_⟩
 ·rw[a5,s1];simp
 ·have:=ho.kept g1 (.inr (zR ho h0 jd))
  rw[List.length_append];exact this
 exact zI (zE hw0 hg (fun k hk=>Nat.le_trans hb (h.ownN.lt k hk).1)) g1
end
def qFU (w w':World)(v:Value)(m:DfaV):Prop:=∃(o:Nat) (hs:List Value) (sf:Option Addr) (cf:Nat) (sn:Option Addr) (cn:Nat),
 v=.agg #[.int .i64 m.letters,.int .i64 m.start,.slice sf m.final.length cf,.slice sn m.next.length cn]/\w.heap.size<=o/\Half w.heap.size w' o m.letters m.start m.final m.next hs sf cf sn cn
theorem Half.base {base base' o:Nat}{W:World}{L S:Int}{fs:List Bool}{t:List (List Int)}{hs:List Value}{sf sn:Option Addr}{cf cn:Nat}(h:Half base W o L S fs t hs sf cf sn cn)(hb:base'<=base):Half base' W o L S fs t hs sf cf sn cn :=
 ⟨h.box,xO h.ownF hb,xO h.ownN hb,⟨h.rows.len,fun i h1 h2=>xO (h.rows.own i h1 h2) hb,h.rows.dis⟩⟩
theorem Half.at {base o:Nat}{W:World}{L S:Int}{fs:List Bool}{t:List (List Int)}{hs:List Value}{sf sn:Option Addr}{cf cn:Nat}(h:Half base W o L S fs t hs sf cf sn cn)(hq:q<t.length)(hp:0<(t.getD q []).length):∃kb g c,sn=some ⟨kb,0,none⟩/\t.length<=cn/\cn<=maxLen/\hs[q]?=some (.slice (some ⟨g,0,none⟩) (t.getD q []).length c)/\W.cell? ⟨kb,q,none⟩=some (.slice (some ⟨g,0,none⟩) (t.getD q []).length c)/\(t.getD q []).length<=c/\c<=maxLen/\base<=g/\Arr W g 3 (ints (t.getD q [])):=by
 obtain⟨kb,rfl,h1,h2,h3⟩:=yV h.ownN yo;obtain⟨g,c,h4,h5,h6,h7,h8⟩:=h.rows.at hq hp;obtain⟨h0,he⟩:=List.getElem?_eq_some_iff.1 h4;exact⟨kb,g,c,rfl,h1,h2,h4,by rw[h3.cell q h0,he],h5,h6,h7,h8⟩
theorem Half.poke {base o:Nat}{W:World}{L S:Int}{fs:List Bool}{t:List (List Int)}{hs:List Value}{sf sn:Option Addr}{cf cn:Nat}(h:Half base W o L S fs t hs sf cf sn cn)(hv:hs[q]?=some (.slice (some ⟨g,0,none⟩) n c))(hA:Arr W g 3 (ints (t.getD q [])))(ha:a<(t.getD q []).length)(x:Int):Half base (W.setCell ⟨g,a,none⟩ (.int .i64 x)) o L S fs (t.set q ((t.getD q []).set a x)) hs sf cf sn cn:=by
 obtain⟨cur,rest,hg,_⟩:=hA;have h0:=zH W ⟨g,a,none⟩ (.int .i64 x);refine⟨?_,h.ownF.kept h0 (.inr (zR h.ownF hg jd)),?_,h.rows.poke hv ha x⟩
 ·rw[List.length_set]
  refine zD h.box h0 (fun e=>?_);have e:g=o:=Oj e;subst e;have:=h.box;rw[hg]at this;simp at this
 rw[List.length_set];exact h.ownN.kept h0 (.inr (zR h.ownN hg jd))
theorem Half.move {base o o':Nat}{W:World}{L S L' S':Int}{fs:List Bool}{t:List (List Int)}{hs:List Value}{sf sn:Option Addr}{cf cn:Nat}(h:Half base W o L S fs t hs sf cf sn cn)(hb:W.heap[o']?=some (.cells #[.int .i64 L',.int .i64 S',.slice sf fs.length cf,.slice sn t.length cn] 29 (0,0))):Half base W o' L' S' fs t hs sf cf sn cn:=⟨hb,h.ownF,h.ownN,h.rows⟩
def pJ (t:List (List Int))(n k:Nat):Prop:=∀r∈t,r.length=k/\∀x∈r,0<=x/\x<n
theorem pJ.set {t:List (List Int)}{k:Nat}{x:Int}(h:pJ t n k)(hq:q<t.length)(h0:0<=x)(hx:x<n):pJ (t.set q ((t.getD q []).set a x)) n k:=by
 intro r hr;rcases List.mem_or_eq_of_mem_set hr with hr|rfl
 ·exact h r hr
 have:=h _ (wT (d:=[]) hq);refine⟨by rw[List.length_set];exact this.1,fun y hy=>?_⟩;rcases List.mem_or_eq_of_mem_set hy with hy|rfl
 ·exact this.2 y hy
 exact⟨h0,hx⟩
theorem pJ.vd {t:List (List Int)}{k:Nat}{S:Int}{fs:List Bool}(h:pJ t n k)(h1:1<=k)(h6:k<=6)(hn:1<=n)(a7:n<=512)(hf:fs.length=n)(ht:t.length=n)(a8:0<=S)(a9:S<n):VD ⟨k,S,fs,t⟩ n k:=by
 refine⟨rfl,h1,h6,hf,hn,yo,ht,a8,a9,fun q hq=>?_,fun q a hq ha=>?_,fun q a hq ha=>?_⟩
 ·have h0:q<t.length:=yo
  exact(h _ (wT h0)).1
 ·have h0:q<t.length:=yo
  have h:=h (t.getD q []) (wT h0);have h2:a<(t.getD q []).length:=yo
  exact(h.2 ((t.getD q []).getD a 0) (wT h2)).1
 have h0:q<t.length:=yo
 have h:=h (t.getD q []) (wT h0);have h2:a<(t.getD q []).length:=yo
 exact(h.2 ((t.getD q []).getD a 0) (wT h2)).2
open Go.Maps
theorem qCW {w:World}{S:SynV}(h:iF B w v S):∃(t u x y z:Option Addr) (t1 t2 u1 u2 x1 x2 y1 y2 z1 z2:Nat),v=.agg #[.int .i64 S.k,.slice t t1 t2,.slice u u1 u2,.slice x x1 x2,.slice y y1 y2,.slice z z1 z2]:=by
 obtain⟨vT,vW,vI,vA,vP,rfl,h1,h2,h3,h4,h5⟩:=h;obtain⟨_,_,rfl⟩:=h1.tmat.mat.shape;obtain⟨_,_,rfl⟩:=h2.shape;obtain⟨_,_,rfl⟩:=h3.shape;obtain⟨_,_,rfl⟩:=h4.shape;obtain⟨_,_,rfl⟩:=h5.shape;exact⟨_,_,_,_,_,_,_,_,_,_,_,_,_,_,_,rfl⟩
theorem eO {w:World}{c:CntV}(h:pK B w v c):∃(t u x:Option Addr) (t1 t2 u1 u2 x1 x2:Nat),v=.agg #[.slice t t1 t2,.slice u u1 u2,.slice x x1 x2]:=by
 obtain⟨vi,vp,va,rfl,h1,h2,h3⟩:=h;obtain⟨_,_,rfl⟩:=h1.shape;obtain⟨_,_,rfl⟩:=h2.shape;obtain⟨_,_,rfl⟩:=h3.shape;exact⟨_,_,_,_,_,_,_,_,_,rfl⟩
theorem cX {w:World}{f nx:Value}{d:DfaV}(h:DfaT w f nx d):∃(t u:Option Addr) (t1 t2 u1 u2:Nat),f=.slice t t1 t2/\nx=.slice u u1 u2:=by
 obtain⟨hs,h1,h2,_⟩:=h;obtain⟨_,_,rfl⟩:=h1.shape;obtain⟨_,_,rfl⟩:=h2.shape;exact⟨_,_,_,_,_,_,rfl,rfl⟩
theorem qFU.t34 {w w':World}{m:DfaV}{k:Nat}(h:qFU w w' v m)(hd:VD m n k):∃f nx,v=.agg #[.int .i64 m.letters,.int .i64 m.start,f,nx]/\DfaT w' f nx m:=by
 obtain⟨o,hs,sf,cf,sn,cn,rfl,_,hh⟩:=h;have hb:=hh.built (by rw[hd.hn,hd.nl]);exact⟨_,_,rfl,hs,RowT.of_owns hb.ownF,RowT.of_owns hb.ownN,hb.rows⟩
theorem qCU {w:World}(h:wJ B w tb):∀k,some tb=some k->yS w 4 k/\yS w 22 k/\yS w 3 k:=fun k e=>by
 have e:tb=k:=Oj e
 subst e
 obtain⟨sl,zs,n,hb,_⟩:=h
 exact⟨⟨_,_,_,hb,jd⟩,⟨_,_,_,hb,jd⟩,⟨_,_,_,hb,jd⟩⟩
theorem pU {w:World}{p:Nat}{z0 z1 z2:Value}(h:w.heap[p]?=some (.cells #[z0,z1,z2] e (0,0)))(x0 x1 x2:Value):(((w.setCell ⟨p,0,none⟩ x0).setCell ⟨p,1,none⟩ x1).setCell ⟨p,2,none⟩ x2).heap[p]?=some (.cells #[x0,x1,x2] e (0,0))/\w.grownBy (((w.setCell ⟨p,0,none⟩ x0).setCell ⟨p,1,none⟩ x1).setCell ⟨p,2,none⟩ x2) (some p):=by
 have s0:=heap_setCell_same w p 0 _ _ x0 h;have s1:=heap_setCell_same _ p 1 _ _ x1 s0;have s2:=heap_setCell_same _ p 2 _ _ x2 s1;refine⟨by rw[s2];simp,?_⟩;have t:=fun(W:World) (i:Nat) (u:Value)=>zH W ⟨p,i,none⟩ u;exact zI (zI (t _ 0 _) (t _ 1 _)) (t _ 2 _)
theorem qCC (B:Nat)(w:World)(v:Value)(I:SynI)(a6:B<=w.heap.size)(h:pX B w v I):Calls Tryz.prog 11 #[v] w (qCL I w):=by
 obtain⟨vT,vW,vI,vA,vP,rfl,hT,hW,hI,hA,hP⟩:=id h;obtain⟨tA,tC,rfl⟩:=hT.shape;obtain⟨wA,wC,rfl⟩:=hW.shape;obtain⟨iA,iC,rfl⟩:=hI.shape;obtain⟨aA,aC,rfl⟩:=hA.shape;obtain⟨pA,pC,rfl⟩:=hP.shape;obtain⟨n,hn⟩:=Nm I.tab.length;obtain⟨wn,n0⟩:=Nm ((uZ I.words).length);obtain⟨k,hk⟩:=Nm I.images.length;obtain⟨an,i8⟩:=Nm I.accept.length;obtain⟨pn,c5⟩:=Nm ((bls I.plus).length);rw[<-hn,<-n0,zL,<-hk,yB,<-i8,<-c5]at h⊢;rw[<-hn]at hT;rw[zL,<-hk]at hI;rw[yB,<-i8]at hA;obtain⟨w1,c3⟩:=Nm (w.alloc (.cells #[.int .i64 I.k,.slice tA n tC,.slice wA wn wC,.slice iA k iC,.slice aA an aC,.slice pA pn pC] 39));have g1:w.grownBy w1 none:=by rw[c3];exact Ga w _ none
 have n1:=heap_alloc_new w (.cells #[.int .i64 I.k,.slice tA n tC,.slice wA wn wC,.slice iA k iC,.slice aA an aC,.slice pA pn pC] 39);have g9:w1.heap.size=w.heap.size+1:=by rw[c3];simp
 rw[<-c3]at n1;obtain⟨w2,i3⟩:=Nm (w1.alloc (.cells #[.slice none 0 0,.slice none 0 0,.slice none 0 0] 35));have g2:w1.grownBy w2 none:=by rw[i3];exact Ga w1 _ none
 have n2:=heap_alloc_new w1 (.cells #[.slice none 0 0,.slice none 0 0,.slice none 0 0] 35);rw[<-i3,g9]at n2;obtain⟨P,l5⟩:=Nm w.heap.size;rw[<-l5]at n1 n2;have k6:=zD n1 g2;have i5:=zE g1 g2;obtain⟨ik,o4⟩:=Nm I.k;rw[<-o4]at c3 k6 h⊢;have t7:=Kh (h.kept i5);have HT:Hid (∀W:World,w.grownBy W none->Mat B W (.slice tA n tC) I.tab):=Kh (fun W hg=>hT.kept hg yq);have HI:Hid (∀W:World,w.grownBy W none->Row B W (.slice iA k iC) (ints I.images)):=Kh (fun W hg=>hI.kept hg yq);have HA:Hid (∀W:World,w.grownBy W none->Row B W (.slice aA an aC) (bls I.accept)):=Kh (fun W hg=>hA.kept hg yq);obtain⟨q7,c2,HG,s8,s7,f3⟩:=Kf k6 n2 i5 c3 i3 l5;obtain⟨HN,HK,m8⟩:=Kc hn hk i8;have HV:=Kh (qGA B w2 _ I (Nat.le_trans a6 i5.size) t7.out);clear h hT hW hI hA hP hn n0 hk i8 c5 o4 g1 n1 g9 g2 n2 k6 i5 c3 i3 l5;go_enter Tryz.func11,Tryz.ntmps11;go_upto_region 1 with fail;rw[<-s8.out,<-f3.out,<-s7.out];obtain⟨q0,q1,q2,q3,q4,q5⟩:=zU q7.out;go_wp2_with fail;refine HV.out.mono ?_;rintro e w3 ⟨⟨z,rfl,hz⟩,i7⟩;have j0:=Kh (zE HG.out i7);have g8:=Kh (zD q7.out i7);have h6:=Kh (zD c2.out i7);obtain⟨p0,p1,p2⟩:=xZ h6.out;have f0:=zB h6.out 0;have f1:=zB h6.out 1;have f2:=zB h6.out 2;clear i7 HV q0 q1 q2 q3 q4 q5;rcases hz with ⟨rfl,h3⟩|⟨rfl,hnv⟩
 case inr =>
  have t5:=Kh hnv;clear hnv;go_wp2;refine bodyPost_ret (v:=.tuple #[.agg #[.slice none 0 0,.slice none 0 0,.slice none 0 0],.int .i64 8]) (by simp[results,Tryz.results11,go_sem,p0,p1,p2]) rfl ?_;obtain⟨j5,H2⟩:=pU h6.out (.slice none 0 0) (.slice none 0 0) (.slice none 0 0);exact⟨.inl ⟨8,rfl,.inl ⟨rfl,t5.out⟩⟩,zE j0.out H2 (fun j e=>by have e:P+1=j:=Oj e;have:=f3.out;omega)⟩
 have b9:=Kh h3;have b0:=Kh h3.tab;have h2:=Kh (sZ h3.1);clear h3;obtain⟨q0,q1,q2,q3,q4,q5⟩:=zU g8.out;have m3:=Kh (qON B w3 _ I.tab (Nat.le_trans a6 j0.out.size) (HT.out _ j0.out) b0.out.1 b0.out.2);obtain⟨cb,k3⟩:=Nm (nH I.tab);rw[<-k3]at m3;have c0:=Kh k3;clear k3;go_wp2_with fail;refine m3.out.mono ?_;rintro e w4 ⟨rfl,i6⟩;have f5:=Kh (zE j0.out i6);have g7:=Kh (zD g8.out i6);have h5:=Kh (zD h6.out i6);clear i6 m3 q0 q1 q2 q3 q4 q5 p0 p1 p2 f0 f1 f2;obtain⟨p0,p1,p2⟩:=xZ h5.out;have f0:=zB h5.out 0;have f1:=zB h5.out 1;have f2:=zB h5.out 2;cases cb with
 | false =>
  go_wp2;refine bodyPost_ret (v:=.tuple #[.agg #[.slice none 0 0,.slice none 0 0,.slice none 0 0],.int .i64 20]) (by simp[results,Tryz.results11,go_sem,p0,p1,p2]) rfl ?_;obtain⟨j5,H2⟩:=pU h5.out (.slice none 0 0) (.slice none 0 0) (.slice none 0 0);exact⟨.inl ⟨20,rfl,.inr (.inl ⟨rfl,b9.out,c0.out.symm⟩)⟩,zE f5.out H2 (fun j e=>by have e:P+1=j:=Oj e;have:=f3.out;omega)⟩
 | true =>
  clear p0 p1 p2 f0 f1 f2;have r8:(k:Int)=I.k:=by rw[HK.out];exact h2.out.2.1.2.2.2
  have o3:1<=k:=by have:=h2.out.1.1;omega
  have y8:k<=6:=by have:=h2.out.1.2.1;omega
  have r7:n<=400:=by rw[HN.out];exact h2.out.1.2.2.2
  clear r8;obtain⟨ib,io,ic,ei,_,i1,i2,ir⟩:=(HI.out _ f5.out).some_ (by rw[zL,<-HK.out];exact o3);obtain⟨tb,tf,tc,RB,RO,RC,et,t1,t2,hq⟩:=(HT.out _ f5.out).sq b0.out.1;obtain⟨ab,ao,ac,ea,_,a1,a2,ar⟩:=(HA.out _ f5.out).some_ (by rw[yB,h2.out.2.1.2.1,<-HN.out];have:=h2.out.1.2.2.1;have:=HN.out;omega);simp only[Value.slice.injEq]at ei et ea;obtain⟨rfl,g9,rfl⟩:=ei;obtain⟨rfl,r3,rfl⟩:=et;obtain⟨rfl,q9,rfl⟩:=ea;rw[zL,<-HK.out]at i1;rw[<-HN.out]at t1;rw[yB,<-m8.out]at a1;have t2':tC<=9223372036854775807:=(by unfold maxLen at t2;omega)
  unfold maxLen at i2 a2;obtain⟨IR,HQ,AR⟩:=Kc ir hq ar;have k7:an=n:=by rw[m8.out,h2.out.2.1.2.1,HN.out]
  subst k7;obtain⟨w5,i0⟩:=Nm (w4.alloc (.cells #[.slice none 0 0,.slice none 0 0,.slice none 0 0] 35));have h7:w4.grownBy w5 none:=by rw[i0];exact Ga w4 _ none
  have k5:=heap_alloc_new w4 (.cells #[.slice none 0 0,.slice none 0 0,.slice none 0 0] 35);obtain⟨o,ho⟩:=Nm w4.heap.size;rw[<-i0,<-ho]at k5;have p5:BoxS w4.heap.size (fun _=>False) o 35 w4 w5 [] #[.slice none 0 0,.slice none 0 0,.slice none 0 0] w5:=⟨⟨fun r hr=>by simp at hr,List.Pairwise.nil,fun r hr=>by simp at hr,fun k hk=>hk.elim⟩,fun r hr=>by simp at hr,k5,fun h=>h,Nat.le_refl _,by rw[ho];exact Nat.le_refl _,h7.size,h7,wG.refl _ _,Nat.le_refl _⟩;obtain⟨q0,q1,q2,q3,q4,q5⟩:=zU (zD g7.out h7);obtain⟨t0,s6,HO,z9⟩:=Kd p5 i0 ho h7;have g0:Hid (∀W:World,w4.grownBy W none->W.heap[P]?=some (.cells #[.int .i64 ik,.slice (some ⟨tb,tf,none⟩) an tC,.slice wA wn wC,.slice (some ⟨ib,io,none⟩) k iC,.slice (some ⟨ab,ao,none⟩) an aC,.slice pA pn pC] 39 (0,0))/\w.grownBy W none):=Kh (fun W hW=>⟨zD g7.out hW,zE f5.out hW⟩);clear ir hq ar g9 r3 q9 i0 h7 k5 p5 ho HI HT HA;go_upto_region 7 with fail;rw[<-s6.out,<-HO.out];go_upto_region 8 with (first|(at_make;refine eD rfl _ _ _ rfl xT rfl .i64 .i64 _ _ k rfl rfl rfl rfl ?b1 ?b2 ?_;(case b1=>omega);(case b2=>(unfold maxLen;omega));intro w6 h1 c6 b6)|fail);obtain⟨pg,n8⟩:=Nm w5.heap.size;have l4:=((t0.out.add c6 h1 jd).nil (e:=3) (sz:=1) jd).nil (e:=3) (sz:=1) jd;rw[<-n8]at l4⊢;have m5:Hid (CoS I w4 o k pg (List.replicate k (.slice none 0 0)) [] [] none 0 none 0 (.slice none 0 0) [] w6):=Kh ⟨_,l4.rebase,xX.nil⟩;obtain⟨q0,q1,q2,q3,q4,q5⟩:=zU (g0.out w6 m5.out.g).1;clear h1 c6 b6 l4 n8;go_wp2
  go_loopg [7,8,9,10,35] k (fun gh a7 a8 a9 a10 a35 wr=>∃(a:Nat) (c4:List Value) (Ls js:List Nat) (sI:Option Addr) (cI:Nat) (sP:Option Addr) (cP:Nat),gh+a=k/\a35=.int .i64 a/\PowsR I Ls js a/\CoS I w4 o k pg c4 Ls js sI cI sP cP (.slice none 0 0) [] wr)
  case atStart=>exact⟨0,_,[],[],none,0,none,0,rfl,rfl,⟨rfl,rfl,fun b hb=>by omega⟩,m5.out⟩
  clear m5 q0 q1 q2 q3 q4 q5;obtain⟨a,c4,Ls,js,sI,cI,sP,cP,o6,rfl,H9,H3⟩:=hrel;have m1:=Kh o6;have c9:=Kh H9;have h0:=H3.g;obtain⟨o9,H1⟩:=g0.out wr h0;obtain⟨q0,q1,q2,q3,q4,q5⟩:=zU o9;clear o6 o9;by_cases ha:a<k
  ·have s2:(a:Int)<k:=yo
   obtain⟨x,ex,d5⟩:=iQ h2.out.2.2.2 (i:=a) (by rw[<-HK.out];exact ha);have ci:=(IR.out.kept h0 yq).int a (by rw[<-HK.out];exact ha);rw[ex]at ci
   have i9:Hid ((imI I).getD a 0=x):=Kh (by
    rw[imI,xY (x:=0) (by rw[<-HK.out];exact ha),ex,Int.toNat_natCast])
   have l8:=Kh (qAY B wr tb tf tC RB RO RC I.tab x (by have:=H1.size;omega) (HQ.out.kept h0 yq) b0.out.1 (by rw[<-HN.out];exact t1) t2' d5);rw[<-HN.out]at l8;have H4:Ls.length=a:=H9.l1;obtain⟨_,e9,e4,_,_⟩:=H3.cells;have h9:=Kh H3;have q8:=Kh e9;clear ex d5 H3 h0 H1 H9 e9;go_wp2_with fail;refine l8.out.mono ?_;rintro e w7 ⟨L,j,sa,sc,hR,rfl,b5,e5⟩;obtain⟨X,hB,hT⟩:=h9.out;rw[H4]at hB hT;have l6:=hB.fresh e5 (Y:=fun q=>(Value.slice sa L sc).ownBlock=some q) (fun q hq=>b5.lt q hq);have l3:=(hT.kept (hB.mem.keep e5) e5.size).mono (X':=fun q=>X q\/(Value.slice sa L sc).ownBlock=some q) (fun q hq=>.inl hq);have k9:RowX (fun q=>X q\/(Value.slice sa L sc).ownBlock=some q) 3 w7 (.slice sa L sc) (nats (vQ I.tab x L)):=RowX.of_owns b5 (fun q hq=>.inr hq);obtain⟨X1,e8⟩:=Nm ((fun q=>X q\/(Value.slice sa L sc).ownBlock=some q));rw[<-e8]at l6 l3 k9;have b8:=l6.put (j:=0) rfl ha (.slice sa L sc);have l0:=l3.kept b8.kept b8.wk;have k8:=k9.kept b8.kept b8.wk;have l7:=q8.out.kept e5 yq;have c7:=l7.cell a yo;have f7:=l7.frozen a;obtain⟨u7,n3⟩:=Nm (c4[a]'(yo));rw[<-n3]at c7;obtain⟨w8,j3⟩:=Nm (w7.setCell ⟨pg,a,none⟩ (.slice sa L sc));rw[<-j3]at b8 l0 k8;have c2:=Kh b8.rebase;obtain⟨q6,p7,HR,s5,t8,b3⟩:=Kf l0 k8 hR j3 e4 H4;clear hR b5 e5 hB hT l6 l3 k9 e8 b8 l0 k8 l7 n3 j3 e4 l8 h9 q8 q0 q1 q2 q3 q4 q5 ci H4;go_upto_region 13 with fail;rw[<-s5.out];clear c7 f7;have d0:=zJ c2.out.box 0;simp only[sPd,sPe,sPf]at d0;have a4:=c2.out.own (r:=⟨w4.heap.size,3,.slice sI a cI,a,nats js,1⟩) yq;simp only at a4;have m9:w4.heap.size<=w8.heap.size:=c2.out.grown.size;go_upto_region 14 with (first|(at_builtin;refine sM rfl _ _ _ rfl yJ.toN w4.heap.size (.slice sI a cI) a (nats js) rfl a4 [.int .i64 (j:Int)] rfl rfl ?z1 ?z2 ?z3 ?z4 ?_;(case z1=>(intro v hv;simp only[List.mem_cons,List.not_mem_nil,or_false]at hv;subst hv;rfl));(case z2=>(unfold maxLen;omega));(case z3=>(show (a+1)*8<=140737488355328;omega));(case z4=>exact m9);intro sI2 cI2 w9 a0 o8 n9;(have j2:=Kh (c2.out.appAt (j:=1) rfl a0 o8 n9));(have d9:=zJ j2.out.box 0);(simp only[sPd,sPe,sPf]at d9);(have f9:=zB j2.out.box 0))|fail);obtain⟨w10,d7⟩:=Nm (w9.setCell ⟨o,0,none⟩ (.slice sI2 (a+1) cI2));have a5:=j2.out.set 0 (.slice sI2 (a+1) cI2);rw[<-d7]at a5⊢;simp only[sPa,sPb,sPc]at a5;have p9:=Kh (q6.out.kept a5.kept a5.wk);have p6:=Kh (p7.out.kept a5.kept a5.wk);have g5:=Kh a5.rebase;obtain⟨d,hd⟩:=Nm (L-j)
   have s3:L<=an:=by rw[HN.out];exact lI b0.out.1 (by
    obtain⟨y,ey,hy⟩:=iQ h2.out.2.2.2 (i:=a) (by rw[<-HK.out];exact ha);rw[imI,xY (x:=0) (by rw[<-HK.out];exact ha),ey,Int.toNat_natCast]at i9
    rw[<-i9.out];exact hy) HR.out.1
   have y9:=HR.out.2.1;have edi:(L:Int)-(j:Int)=(d:Int):=yo
   have edw:wrap64 ((L:Int)-(j:Int))=(L:Int)-(j:Int):=IntWalk.wrap64_in _ yo;have d1:=zJ g5.out.box 1;simp only[sPd,sPe,sPf]at d1;have a3:=g5.out.own (r:=⟨w4.heap.size,3,.slice sP a cP,a,nats (perL Ls js),1⟩) yq;simp only at a3;have d4:w4.heap.size<=w10.heap.size:=g5.out.grown.size;have HD:=Kh hd;have x4:=Kh edi;clear a5 d7 d0 d9 f9 a4 m9 a0 o8 n9 j2 q6 p7 c2 hd edi;go_upto_region 15 with (first|(at_builtin;refine sM rfl _ _ _ rfl yJ.toN w4.heap.size (.slice sP a cP) a (nats (perL Ls js)) rfl a3 [.int .i64 ((L:Int)-(j:Int))] rfl rfl ?y1 ?y2 ?y3 ?y4 ?_;(case y1=>(intro v hv;simp only[List.mem_cons,List.not_mem_nil,or_false]at hv;subst hv;rfl));(case y2=>(unfold maxLen;clear edw;omega));(case y3=>(show (a+1)*8<=140737488355328;clear edw;omega));(case y4=>exact d4);intro sP2 cP2 w11 H0 e6 d8;(have j1:=Kh (g5.out.appAt (j:=2) rfl H0 e6 d8));(have d9:=zJ j1.out.box 1);(simp only[sPd,sPe,sPf]at d9);(have f9:=zB j1.out.box 1))|fail);obtain⟨w12,d6⟩:=Nm (w11.setCell ⟨o,1,none⟩ (.slice sP2 (a+1) cP2));have H7:=j1.out.set 1 (.slice sP2 (a+1) cP2);rw[<-d6]at H7⊢;simp only[sPa,sPb,sPc]at H7;have p4:=p9.out.kept H7.kept H7.wk;have p3:=p6.out.kept H7.kept H7.wk
   have x6:Hid (CoS I w4 o k pg (c4.set a (.slice sa L sc)) (Ls++[L]) (js++[j]) sI2 cI2 sP2 cP2 (.slice none 0 0) [] w12):=Kh (by
    have e1:nats js++[.int .i64 (j:Int)]=nats (js++[j]):=by simp[nats]
    have e2:nats (perL Ls js)++[.int .i64 ((L:Int)-(j:Int))]=nats (perL (Ls++[L]) (js++[j])):=by
     rw[x4.out,qBB L j (by rw[c9.out.l1,c9.out.l2]),HD.out];simp[nats]
    have e3:a+1=(Ls++[L]).length:=by rw[List.length_append,List.length_singleton,b3.out]
    rw[e1,e2,e3]at H7;refine⟨X1,H7.rebase,?_⟩;rw[<-e3,dT,b3.out,i9.out,List.take_add_one,List.getElem?_set_self (by have:=t8.out;omega),List.take_set_of_le (Nat.le_refl _)]
    exact p4.snoc p3)
   have t3:Hid (PowsR I (Ls++[L]) (js++[j]) (a+1)):=Kh (c9.out.add (by rw[i9.out];exact HR.out));clear H7 p4 p3 d6 d1 d9 f9 a3 d4 H0 e6 d8 j1 g5 p9 p6 edw;go_wp2;go_roundg (k-(a+1))
   case measure=>have:=m1.out;omega
   exact⟨a+1,_,_,_,_,_,_,_,by have:=m1.out;omega,by go_num,t3.out,x6.out⟩
  have s1:k=a:=by have:=m1.out;omega
  have s2:¬(a:Int)<k:=yo;subst s1;have t4:=Kh H9.posC;have H4:Ls.length=k:=H9.l1;have b7:js.length=k:=H9.l2;obtain⟨H6,e9,e4,a4,a3⟩:=H3.cells;rw[H4]at H6 a4 a3;have b4:=qFN wr.heap.size wr (.slice sI k cI) (.slice sP k cP) (.slice none 0 0) (vD js) (vD (perL Ls js)) (by rw[rG];exact Row.of_owns a4) (by rw[rG];exact Row.of_owns a3) (by rw[vK,vK,sX,H4,b7]) t4.out (by rw[vK,b7];exact o3);have x9:=Kh H6;have h9:=Kh H3;have m7:=Kh (zD h5.out h0);obtain⟨x0,x3,b3,z7⟩:=Kd H1 h0 H4 b7;obtain⟨o0,o1,o2⟩:=xZ H6;have l9:Hid (k=I.images.length):=HK;rcases hct:uD (vD js) (vD (perL Ls js)) k with _|c
  ·obtain⟨e1,e2⟩:=iD hct (by rw[vK,b7];exact Nat.le_refl _)
   rw[e1,e2]at b4;have t6:Hid (qIB I):=Kh ⟨Ls,js,by rw[<-l9.out];exact c9.out,by rw[<-l9.out];exact hct⟩;have b4:=Kh b4;clear e1 e2 hct H6 e9 e4 a4 a3 H3 h0 H1 H4 b7 H9;go_wp2_with fail;refine b4.out.mono ?_;rintro e w5 ⟨rfl,h7⟩;have f8:=Kh (zD m7.out h7);have t9:=Kh (zE x0.out h7);obtain⟨p0,p1,p2⟩:=xZ f8.out;have f0:=zB f8.out 0;have f1:=zB f8.out 1;have f2:=zB f8.out 2;clear h7;go_wp2;refine bodyPost_ret (v:=.tuple #[.agg #[.slice none 0 0,.slice none 0 0,.slice none 0 0],.int .i64 3]) (by simp[results,Tryz.results11,go_sem,p0,p1,p2]) rfl ?_;obtain⟨j5,H2⟩:=pU f8.out (.slice none 0 0) (.slice none 0 0) (.slice none 0 0);exact⟨.inl ⟨3,rfl,.inr (.inr ⟨rfl,b9.out,c0.out.symm,t6.out⟩)⟩,zE t9.out H2 (fun j e=>by have e:P+1=j:=Oj e;have:=f3.out;omega)⟩
  obtain⟨e1,e2⟩:=mQ (idx:=vD js) (per:=vD (perL Ls js)) (c:=c) (by rw[vK,b7];exact hct);rw[e1,e2]at b4;have s0:=qO hct;have x7:=Kh hct;have b4:=Kh b4;clear e1 e2 hct H6 e9 e4 a4 a3 H3 h0 H1 H4 b7 H9;go_wp2_with fail;refine b4.out.mono ?_;rintro e w5 ⟨rfl,h7⟩;have m6:=Kh (h9.out.grow h7);clear h7 o0 o1 o2 q0 q1 q2 q3 q4 q5;have H6:=m6.out.cells.1;rw[b3.out]at H6;have g3:=Kh H6;clear H6;go_upto_region 20 with (first|(at_make;refine eD rfl _ _ _ rfl xK rfl .i64 .i64 _ _ c rfl rfl rfl rfl ?b1 ?b2 ?_;(case b1=>omega);(case b2=>(unfold maxLen;omega));intro w6 h1 c6 b6;(have k4:=zD g3.out c6);(obtain⟨d0,d1,d2⟩:=xZ k4);(have f2:=zB k4 2))|fail);obtain⟨ag,c8⟩:=Nm w5.heap.size;obtain⟨w7,j4⟩:=Nm (w6.setCell ⟨o,2,none⟩ (.slice (some ⟨w5.heap.size,0,none⟩) c c));rw[show List.replicate c (Value.bool false)=bls (List.replicate c false) by simp[bls],<-c8,<-qHA I Ls k c]at h1
  have m4:Hid (CoS I w4 o k pg c4 Ls js sI cI sP cP (.slice (some ⟨ag,0,none⟩) c c) [⟨w4.heap.size,4,.slice (some ⟨ag,0,none⟩) c c,c,bls (lT I Ls k c 0),1⟩] w7):=Kh (by
   rw[j4,<-c8];have:=m6.out.begin (ag:=ag) (c:=c) (xs:=lT I Ls k c 0) c6 (by rw[c8];rw[c8]at h1;exact h1)
   exact this)
  rw[<-j4,<-c8];clear h1 c6 b6 k4 d0 d1 d2 f2 c8 j4 g3 m6 h9 x9;obtain⟨o0,o1,o2⟩:=xZ m4.out.cells.1;clear o0 o1;go_wp2
  go_loopg [13,14,15,16,81] c (fun gh a13 a14 a15 a16 a81 wr=>∃i:Nat,gh+i=c/\a81=.int .i64 i/\CoS I w4 o k pg c4 Ls js sI cI sP cP (.slice (some ⟨ag,0,none⟩) c c) [⟨w4.heap.size,4,.slice (some ⟨ag,0,none⟩) c c,c,bls (lT I Ls k c i),1⟩] wr)
  case atStart=>exact⟨0,rfl,rfl,m4.out⟩
  clear m4 o2;obtain⟨i,o5,rfl,H3⟩:=hrel;have m0:=Kh o5;have h9:=Kh H3;clear o5 H3;by_cases hi:i<c
  ·have r9:(i:Int)<c:=yo
   go_wp2
   go_loopg [14,15,16] k (fun gh a14 a15 a16 wx=>∃(b r v q:Nat) (z:Int),gh=b/\a14=.int .i64 (r:Int)/\a15=.int .i64 (v:Int)/\a16=.int .i64 z/\z=(b:Int)-1/\b<=k/\r<=2000/\v<an/\valC I.tab (imI I) Ls b r v=valC I.tab (imI I) Ls k i 0/\wx=wr.drewN q)
   case atStart=>exact⟨k,i,0,0,(k:Int)-1,rfl,rfl,rfl,by go_num,rfl,Nat.le_refl _,yo,by have:=h2.out.1.2.2.1;have:=HN.out;omega,rfl,rfl⟩
   obtain⟨b,r,v,q,z,o7,rfl,rfl,rfl,hz,z0,hr,hv,h3,rfl⟩:=hrel;have p8:=Kh h3;have x2:=Kh o7;have H5:=h9.out.grow (zT wr q none);have x8:=Kh H5;clear h3 o7;rcases b with _|b
   ·obtain rfl:z = -1:=yo
    have h4:=H5.g;obtain⟨q0,q1,q2,q3,q4,q5⟩:=zU (g0.out _ h4).1;have e0:v=valC I.tab (imI I) Ls k i 0:=p8.out;have c1:=(AR.out.kept h4 yq).boolQ v (by rw[<-m8.out];exact hv);have x5:=Kh e0;clear H5 h4 e0 hz q0 q1 q2 q3 q5;go_upto_region 29 with fail;refine qRR x8.out hi s0 hv r7 ⟨a1,a2⟩ q4 c1 ?_;intro z119 z120 z121 z122 z123 z124 z125 z126 z127 w8 h8;rw[x5.out,qKP hi]at h8;have H8:=Kh h8;clear h8 c1 q4;go_wp2;go_roundg (c-(i+1))
    case measure=>have:=m0.out;omega
    exact⟨i+1,by have:=m0.out;omega,by go_num,H8.out⟩
   obtain rfl:z=(b:Int):=yo
   have h4:=h9.out.g;obtain⟨q0,q1,q2,q3,q4,q5⟩:=zU (g0.out _ h4).1;have e7:b<k:=yo;obtain⟨c5,n7,_⟩:=c9.out.pow b (by exact e7);obtain⟨rb,ro,rc,cr,rc1,rc2,cel⟩:=h9.out.row (b:=b) (by rw[b3.out];exact e7) yo (by rw[b3.out];exact Nat.le_refl _);obtain⟨L,hL⟩:=Nm (Ls.getD b 0);rw[<-hL]at cr rc1 cel n7 c5;have s4:0<L:=yo
   have k0:(imI I).getD b 0<I.tab.length:=by
    obtain⟨y,ey,hy⟩:=iQ h2.out.2.2.2 (i:=b) (by rw[<-HK.out];exact e7);rw[imI,xY (x:=0) (by rw[<-HK.out];exact e7),ey,Int.toNat_natCast];exact hy
   have s3:L<=an:=by rw[HN.out];exact lI b0.out.1 k0 c5
   obtain⟨t,ht⟩:=Nm (r % L);obtain⟨s,hs⟩:=Nm (r / L);have n4:t<L:=(by rw[ht];exact Nat.mod_lt _ s4);have r5:s<=r:=by rw[hs];exact Nat.div_le_self _ _
   have ce:=cel t n4;obtain⟨x,hx⟩:=Nm (powN I.tab ((imI I).getD b 0) t);rw[<-hx]at ce;have d5:x<an:=(by rw[hx,HN.out];exact kK b0.out.1 k0 t);have i4:=HQ.out.kept h4 (row:=none) yq;have cv:=i4.hd v (by rw[<-HN.out];exact hv);have cx:=i4.el v x (by rw[<-HN.out];exact hv) (by rw[<-HN.out];exact d5);have cc:=i4.cap v (by rw[<-HN.out];exact hv);rw[<-HN.out]at cv cc;obtain⟨y,hy⟩:=Nm (entN I.tab v x);rw[<-hy]at cx;have r4:y<an:=(by rw[hy,HN.out];exact qK b0.out.1 (by rw[<-HN.out];exact hv) (by rw[<-HN.out];exact d5));have s9:Hid (valC I.tab (imI I) Ls b s y=valC I.tab (imI I) Ls k i 0):=Kh (by rw[<-p8.out,valC,<-hL,<-ht,<-hx,<-hy,<-hs]);have f4:(r:Int).tmod (L:Int)=(t:Int):=by rw[ht];exact Int.ofNat_tmod r L
   have g4:(r:Int).tdiv (L:Int)=(s:Int):=by rw[hs];exact Int.ofNat_tdiv r L
   have f6:IntKind.i64.wrap (t:Int)=(t:Int):=wK yo;have g6:wrap64 (s:Int)=(s:Int):=IntWalk.wrap64_in _ yo;have y7:¬(L:Int)=0:=yo
   have z6:(b:Int)<k:=yo;have y5:(v:Int)<an:=yo;have y0:(x:Int)<an:=yo;have y6:(t:Int)<L:=yo;have cc1:=cc.1;have cc2:RC v<=9223372036854775807:=by have:=cc.2;unfold maxLen at this;omega
   have rc2':rc<=9223372036854775807:=(by unfold maxLen at rc2;omega)
   obtain⟨rv,j8⟩:=Nm (RB v);obtain⟨rw',j7⟩:=Nm (RO v);obtain⟨rz,j6⟩:=Nm (RC v);rw[<-j8,<-j7]at cx;rw[<-j8,<-j7,<-j6]at cv;rw[<-j6]at cc1 cc2;have z5:(0:Int)<=b:=yo
   clear j8 j7 j6 cc rc2 H5 h4 c5 n7 cel hL k0 ht hs hx i4 hy hz q0 q2 q3 q4 q5 n4;go_wp2
   go_quiet (fail)
   clear f4 f6;go_wp2;go_roundg b
   case measure=>have:=x2.out;omega
   exact⟨b,s,y,_,(b:Int)-1,rfl,by go_num,by go_num,by go_num,rfl,Nat.le_of_lt e7,Nat.le_trans r5 hr,r4,s9.out,by first|rfl|exact World.drewN_drewN _ _ _⟩
  have k1:c=i:=by have:=m0.out;omega
  have r9:¬(i:Int)<c:=yo;have z8:=Kh k1;obtain⟨o0,o1,o2⟩:=xZ h9.out.cells.1;rw[b3.out]at o0 o1;have h0:=h9.out.g;have d3:=Kh (zD h5.out h0);have x1:=Kh (g0.out _ h0).2;obtain⟨r0,r1,r2⟩:=xZ d3.out;have f0:=zB d3.out 0;have f1:=zB d3.out 1;have f2:=zB d3.out 2;have k2:=h9.out.cntT;rw[b3.out,<-k1]at k2;have m2:=Kh k2;clear h0 k1 k2;go_wp2;refine bodyPost_ret (v:=.tuple #[.agg #[.slice sI k cI,.slice sP k cP,.slice (some ⟨ag,0,none⟩) c c],.int .i64 0]) (by simp[results,Tryz.results11,go_sem,r0,r1,r2]) rfl ?_;obtain⟨j5,H2⟩:=pU d3.out (.slice sI k cI) (.slice sP k cP) (.slice (some ⟨ag,0,none⟩) c c)
  have j9:∀e',e'≠35->∀j,(some (P+1):Option Nat)=some j->wr.heap.size<=j\/yS wr e' j:=fun e' he j hj=>by
   have hj:=Oj hj;subst hj;exact .inr ⟨_,_,_,d3.out,fun e1=>he e1.symm⟩
  have hz:=H2.size;have e1:ints (vD js)=nats js:=rG js;have e2:ints (vD (perL Ls js))=nats (perL Ls js):=rG _;have n6:=((m2.out.1.kept H2 (j9 _ jd)).mono hz).row;have n5:=((m2.out.2.1.kept H2 (j9 _ jd)).mono hz).row;have r6:=((m2.out.2.2.kept H2 (j9 _ jd)).mono hz).row;rw[<-e1]at n6;rw[<-e2]at n5;exact⟨.inr ⟨⟨vD js,vD (perL Ls js),lT I Ls k c c⟩,_,rfl,b9.out,c0.out.symm,gT.make l9.out c9.out x7.out,_,_,_,rfl,n6,n5,r6⟩,zE x1.out H2 (fun j e=>by have e:P+1=j:=Oj e;have:=f3.out;omega)⟩
def AtR (t:List (List Int))(x nx i:Nat)(z:Int):Prop:=(z = -1/\∀q,q<i->powN t x q≠nx)\/∃j:Nat,j<i/\z=j/\powN t x j=nx
theorem AtR.no {t:List (List Int)}{nx:Nat}{z:Int}(h:AtR t x nx i z)(hn:powN t x i≠nx):AtR t x nx (i+1) z:=by
 rcases h with ⟨h1,h2⟩|⟨j,h1,h2⟩
 ·refine .inl ⟨h1,fun q hq=>?_⟩
  rcases Nat.lt_or_ge q i with h3|h3
  ·exact h2 q h3
  have:q=i:=yo
  rw[this];exact hn
 exact .inr ⟨j,yo,h2⟩
theorem qJJ {t:List (List Int)}{nx L:Nat}(h:∀q,q<L->powN t x q≠nx):nx ∉ vQ t x L:=fun hm=>by
 obtain⟨q,hq,e⟩:=List.mem_map.1 hm
 exact h q (List.mem_range.1 hq) e
def qDQ (I:SynI)(Ls:List Nat)(k i:Nat):List Bool:=(List.range i).map fun j=>I.accept.getD (valC I.tab (imI I) Ls k j 0) false
theorem qHB (I:SynI)(Ls:List Nat)(k i:Nat):bls (qDQ I Ls k i)++[.bool (I.accept.getD (valC I.tab (imI I) Ls k i 0) false)]=bls (qDQ I Ls k (i+1)):=by
 simp[qDQ,List.range_succ,bls]
theorem qKQ (I:SynI)(Ls:List Nat)(k c:Nat):qDQ I Ls k c=lT I Ls k c c:=(qBM I Ls k c).symm
inductive CoM (I:SynI)(w6:World)(o k pg:Nat)(hsP:List Value)(Ls js:List Nat)(r:List Nat)(a:Nat)(sI:Option Addr)(cI:Nat)(sP:Option Addr)(cP:Nat)(va:Value)(w:World):Prop
 | mk (X:Nat->Prop) (hB:BoxS w6.heap.size X o 35 w6 w (⟨w6.heap.size,22,.slice (some ⟨pg,0,none⟩) k k,k,hsP,1⟩::⟨w6.heap.size,3,.slice sI a cI,a,nats js,1⟩::⟨w6.heap.size,3,.slice sP a cP,a,nats (perL Ls js),1⟩::[]) #[.slice sI a cI,.slice sP a cP,va] w)
  (hT:xX X 3 nats w (hsP.take (a+1)) (gM I Ls++[r]))
section
variable {I:SynI} {w6 w w':World} {o k pg:Nat} {hsP:List Value} {Ls js:List Nat} {sI:Option Addr} {cI:Nat} {sP:Option Addr} {cP:Nat} {va:Value}
theorem CoS.addL {L:Nat}(h:CoS I w6 o k pg hsP Ls js sI cI sP cP va [] w)(hg:w.grownBy w' none)(ho:w'.ownsRow w.heap.size 3 1 (.slice (some ⟨g,0,none⟩) L c) L xs):CoS I w6 o k pg hsP Ls js sI cI sP cP va [⟨w6.heap.size,3,.slice (some ⟨g,0,none⟩) L c,L,xs,1⟩] w':=by
 obtain⟨X,hB,hT⟩:=h;have hA:=hB.add hg (e:=3) (sz:=1) (n:=L) (v:=.slice (some ⟨g,0,none⟩) L c) (xs:=xs) ho jd;exact⟨X,hA.rebase,hT.kept hA.kept hA.wk⟩
theorem CoS.tl {L:Nat}(h:CoS I w6 o k pg hsP Ls js sI cI sP cP va [⟨w6.heap.size,e,.slice s L c,L,xs,1⟩] w):w.ownsRow w6.heap.size e 1 (.slice s L c) L xs/\w6.heap.size<=w.heap.size:=by
 obtain⟨X,hB,hT⟩:=h;exact⟨hB.own (r:=⟨w6.heap.size,e,.slice s L c,L,xs,1⟩) yq,hB.grown.size⟩
theorem CoS.pushT {L c':Nat}{s':Option Addr}{us:List Value}(h:CoS I w6 o k pg hsP Ls js sI cI sP cP va [⟨w6.heap.size,e,.slice s L c,L,xs,1⟩] w)(ho:w'.ownsRow w6.heap.size e 1 (.slice s' (L+1) c') (L+1) (xs++us))(hg:w.grownBy w' (Value.slice s L c).ownBlock)(hm:nW w w' (.slice s L c) (.slice s' (L+1) c')):CoS I w6 o k pg hsP Ls js sI cI sP cP va [⟨w6.heap.size,e,.slice s' (L+1) c',L+1,xs++us,1⟩] w':=by
 obtain⟨X,hB,hT⟩:=h;have hP:=hB.appAt (j:=3) rfl ho hg hm;exact⟨X,hP.rebase,hT.kept hP.kept hP.wk⟩
theorem CoS.setA {tl:List RowS}(h:CoS I w6 o k pg hsP Ls js sI cI sP cP va tl w)(u:Value):CoS I w6 o k pg hsP Ls js sI cI sP cP u tl (w.setCell ⟨o,2,none⟩ u):=by
 obtain⟨X,hB,hT⟩:=h;have hS:=hB.set 2 u;exact⟨X,hS.rebase,hT.kept hS.kept hS.wk⟩
theorem CoS.acc0 (h:CoS I w6 o k pg hsP Ls js sI cI sP cP va [] w):CoS I w6 o k pg hsP Ls js sI cI sP cP va [⟨w6.heap.size,4,.slice none 0 0,0,bls [],1⟩] w:=by
 obtain⟨X,hB,hT⟩:=h;exact⟨X,hB.nil (e:=4) (sz:=1) jd,hT⟩
theorem CoS.close {L:Nat}{r:List Nat}(h:CoS I w6 o k pg hsP Ls js sI cI sP cP va [⟨w6.heap.size,3,.slice s L c,L,nats r,1⟩] w)(hl:Ls.length=a)(ha:a<k)(hh:hsP.length=k):CoM I w6 o k pg (hsP.set a (.slice s L c)) Ls js r a sI cI sP cP va (w.setCell ⟨pg,a,none⟩ (.slice s L c)):=by
 subst hl;obtain⟨X,hB,hT⟩:=h;have hP:=hB.put (j:=0) rfl ha (.slice s L c);have hR:=BoxS.retire (rs:=[⟨w6.heap.size,22,.slice (some ⟨pg,0,none⟩) k k,k,hsP.set Ls.length (.slice s L c),1⟩,⟨w6.heap.size,3,.slice sI Ls.length cI,Ls.length,nats js,1⟩,⟨w6.heap.size,3,.slice sP Ls.length cP,Ls.length,nats (perL Ls js),1⟩]) (r:=⟨w6.heap.size,3,.slice s L c,L,nats r,1⟩) hP;have hX:RowX (fun j=>X j\/(Value.slice s L c).ownBlock=some j) 3 _ (.slice s L c) (nats r):=RowX.of_owns (hP.own (r:=⟨w6.heap.size,3,.slice s L c,L,nats r,1⟩) yq) (fun j hj=>.inr hj);refine⟨_,hR,?_⟩;rw[List.take_add_one,List.getElem?_set_self yo,List.take_set_of_le (Nat.le_refl _)];exact((hT.kept hP.kept hP.wk).mono (X':=fun j=>X j\/(Value.slice s L c).ownBlock=some j) (fun j hj=>.inl hj)).snoc hX
theorem CoS.rows {tl:List RowS}(h:CoS I w6 o k pg hsP Ls js sI cI sP cP va tl w):RowT w.heap.size 3 w (.slice sI Ls.length cI) (nats js)/\RowT w.heap.size 3 w (.slice sP Ls.length cP) (nats (perL Ls js)):=by
 obtain⟨_,_,_,h2,h3⟩:=h.cells;exact⟨RowT.of_owns h2,RowT.of_owns h3⟩
end
end Go.Proofs.YtiknckajkdlppaaGreat
namespace Go.Proofs.YtiknckajkdlppaaGreat
open Go.RowKit
variable{sr:Option Addr}{j cr:Nat}{r:List Int}
theorem nX {xs:List Bool}{k:Nat}(h:k<xs.length):xs.take (k+1)=xs.take k++[xs.getD k false]:=by
 rw[List.take_add_one];simp[List.getD,h]
theorem fR (B C:Nat)(w:World)(va vb:Value)(xs ys:List Bool)(ha:Row B w va (bls xs))(hb:Row C w vb (bls ys)):Calls Tryz.prog 32 #[va,vb] w fun e w'=>e=.returned (.bool (decide (xs=ys)))/\∃m,w'=w.drewN m:=by
 have h2:=ha.len_le;rw[yB]at h2;unfold maxLen at h2;have h1:=hb.len_le;rw[yB]at h1;unfold maxLen at h1;obtain⟨aa,ac,rfl⟩:=ha.shape;obtain⟨ba,bc,rfl⟩:=hb.shape;rw[yB]at ha hb⊢;rw[yB];by_cases hl:xs.length=ys.length
 ·by_cases h0:xs.length=0
  ·have hx:xs=[]:=List.eq_nil_of_length_eq_zero h0
   have hy:ys=[]:=List.eq_nil_of_length_eq_zero yo;subst hx;subst hy;clear ha hb;go_enter Tryz.func32,Tryz.ntmps32;go_wp2
   go_loopg [13] 0 (fun g i wr=>i=.int .i64 0/\wr=w)
   case atStart=>exact⟨rfl,rfl⟩
   obtain⟨rfl,rfl⟩:=hrel;go_wp2;go_ret;exact⟨yQ rfl,0,rfl⟩
  obtain⟨ab,ao,ac',e,_,_,_,h4⟩:=ha.some_ (by rw[yB];omega);simp only[Value.slice.injEq]at e;obtain⟨rfl,-,-⟩:=e;obtain⟨bb,bo,bc',e,_,_,_,h3⟩:=hb.some_ (by rw[yB];omega);simp only[Value.slice.injEq]at e;obtain⟨rfl,-,-⟩:=e;obtain⟨RA,RB,HL⟩:=Kc h4 h3 hl;clear ha hb h4 h3;rw[<-hl];clear hl;go_enter Tryz.func32,Tryz.ntmps32;go_wp2
  go_loopg [13] xs.length (fun g i wr=>∃k:Nat,g+k=xs.length/\i=.int .i64 k/\xs.take k=ys.take k/\∃m,wr=w.drewN m)
  case atStart=>exact⟨0,rfl,rfl,rfl,0,rfl⟩
  obtain⟨k,hg,rfl,h5,m,rfl⟩:=hrel;have HG:=Kh hg;have OK:=Kh h5;clear hg h5;by_cases hk:k<xs.length
  ·have h7:(k:Int)<xs.length:=yo
   have ca:=RA.out.boolQ k hk;have cb:=RB.out.boolQ k (by have:=HL.out;omega);obtain⟨z,hz⟩:=Nm (xs.getD k false);obtain⟨u,hu⟩:=Nm (ys.getD k false);rw[<-hz]at ca;rw[<-hu]at cb;have HZ:=Kh hz;have HU:=Kh hu;clear hz hu;by_cases hzu:z=u
   ·have HN:Hid (xs.take (k+1)=ys.take (k+1)):=Kh (by rw[nX hk,nX (by have:=HL.out;omega),OK.out,<-HZ.out,<-HU.out,hzu])
    subst hzu;have e1:(z != z)=false:=yq
    go_wp2
    go_quiet (fail)
    go_wp2;go_roundg (xs.length-(k+1))
    case measure=>have:=HG.out;omega
    exact⟨k+1,yo,by go_num,HN.out,_,rfl⟩
   have HN:Hid (decide (xs=ys)=false):=Kh (by rw[decide_eq_false_iff_not];rintro rfl;exact hzu (by rw[HZ.out,HU.out]));cases z<;>cases u
   case false.false=>exact absurd rfl hzu
   case true.true=>exact absurd rfl hzu
   all_goals
    clear hzu;go_wp2
    go_quiet (fail)
    go_wp2;go_ret;exact⟨yQ HN.out.symm,_,by rw[World.drewN_drewN]⟩
  have HY:Hid (decide (xs=ys)=true):=by
   have h6:k=xs.length:=by have:=HG.out;omega
   have:=OK.out;rw[List.take_of_length_le yo,List.take_of_length_le (by have:=HL.out;omega)]at this;exact Kh (by rw[decide_eq_true_eq];exact this)
  go_wp2;go_ret;exact⟨yQ HY.out.symm,m,rfl⟩
 have e1:((xs.length:Int) != (ys.length:Int))=true:=by rw[bne_iff_ne];omega
 have HN:Hid (decide (xs=ys)=false):=Kh (by rw[decide_eq_false_iff_not];rintro rfl;exact hl rfl);clear ha hb;go_enter Tryz.func32,Tryz.ntmps32;go_wp2;go_ret;exact⟨yQ HN.out.symm,0,rfl⟩
theorem lZ {xs:List ByteArray}{k:Nat}(h:k<xs.length):xs.take (k+1)=xs.take k++[xs.getD k ⟨#[]⟩]:=by
 rw[List.take_add_one];simp[List.getD,h]
theorem tI (l:List ByteArray):(uZ l).length=l.length:=by simp[uZ]
theorem uE.strQ {w:World}{b off:Nat}{bs:List ByteArray}(h:uE w b off (uZ bs))(i:Nat)(hi:i<bs.length):w.cell? ⟨b,off+i,none⟩=some (.string (bs.getD i ⟨#[]⟩)):=by
 rw[h.map (f:=Value.string) i hi,List.getD_eq_getElem?_getD,List.getElem?_eq_getElem hi];rfl
theorem qSL {z u:ByteArray}(h:z≠u):¬z.toList=u.toList:=fun e=>h (by
 have e:z.data=u.data:=by rw[ByteArray.toList_eq,ByteArray.toList_eq]at e;exact Array.toList_inj.1 e
 cases z;cases u;simpa using e)
theorem qGG (B C:Nat)(w:World)(va vb:Value)(xs ys:List ByteArray)(ha:Row B w va (uZ xs))(hb:Row C w vb (uZ ys)):Calls Tryz.prog 76 #[va,vb] w fun e w'=>e=.returned (.bool (decide (xs=ys)))/\∃m,w'=w.drewN m:=by
 have h2:=ha.len_le;rw[tI]at h2;unfold maxLen at h2;have h1:=hb.len_le;rw[tI]at h1;unfold maxLen at h1;obtain⟨aa,ac,rfl⟩:=ha.shape;obtain⟨ba,bc,rfl⟩:=hb.shape;rw[tI]at ha hb⊢;rw[tI];by_cases hl:xs.length=ys.length
 ·by_cases h0:xs.length=0
  ·have hx:xs=[]:=List.eq_nil_of_length_eq_zero h0
   have hy:ys=[]:=List.eq_nil_of_length_eq_zero yo;subst hx;subst hy;clear ha hb;go_enter Tryz.func76,Tryz.ntmps76;go_wp2
   go_loopg [13] 0 (fun g i wr=>i=.int .i64 0/\wr=w)
   case atStart=>exact⟨rfl,rfl⟩
   obtain⟨rfl,rfl⟩:=hrel;go_wp2;go_ret;exact⟨yQ rfl,0,rfl⟩
  obtain⟨ab,ao,ac',e,_,_,_,h4⟩:=ha.some_ (by rw[tI];omega);simp only[Value.slice.injEq]at e;obtain⟨rfl,-,-⟩:=e;obtain⟨bb,bo,bc',e,_,_,_,h3⟩:=hb.some_ (by rw[tI];omega);simp only[Value.slice.injEq]at e;obtain⟨rfl,-,-⟩:=e;obtain⟨RA,RB,HL⟩:=Kc h4 h3 hl;clear ha hb h4 h3;rw[<-hl];clear hl;go_enter Tryz.func76,Tryz.ntmps76;go_wp2
  go_loopg [13] xs.length (fun g i wr=>∃k:Nat,g+k=xs.length/\i=.int .i64 k/\xs.take k=ys.take k/\∃m,wr=w.drewN m)
  case atStart=>exact⟨0,rfl,rfl,rfl,0,rfl⟩
  obtain⟨k,hg,rfl,h5,m,rfl⟩:=hrel;have HG:=Kh hg;have OK:=Kh h5;clear hg h5;by_cases hk:k<xs.length
  ·have h7:(k:Int)<xs.length:=yo
   have ca:=RA.out.strQ k hk;have cb:=RB.out.strQ k (by have:=HL.out;omega);obtain⟨z,hz⟩:=Nm (xs.getD k ⟨#[]⟩);obtain⟨u,hu⟩:=Nm (ys.getD k ⟨#[]⟩);rw[<-hz]at ca;rw[<-hu]at cb;have HZ:=Kh hz;have HU:=Kh hu;clear hz hu;by_cases hzu:z=u
   ·have HN:Hid (xs.take (k+1)=ys.take (k+1)):=Kh (by rw[lZ hk,lZ (by have:=HL.out;omega),OK.out,<-HZ.out,<-HU.out,hzu])
    subst hzu;go_wp2
    go_quiet (fail)
    go_wp2;go_roundg (xs.length-(k+1))
    case measure=>have:=HG.out;omega
    exact⟨k+1,yo,by go_num,HN.out,_,rfl⟩
   have HN:Hid (decide (xs=ys)=false):=Kh (by rw[decide_eq_false_iff_not];rintro rfl;exact hzu (by rw[HZ.out,HU.out]));have e1:(z.toList == u.toList)=false:=by rw[beq_eq_false_iff_ne];exact qSL hzu
   clear hzu;go_wp2
   go_quiet (fail)
   go_wp2;go_ret;exact⟨yQ HN.out.symm,_,by rw[World.drewN_drewN]⟩
  have HY:Hid (decide (xs=ys)=true):=by
   have h6:k=xs.length:=by have:=HG.out;omega
   have:=OK.out;rw[List.take_of_length_le yo,List.take_of_length_le (by have:=HL.out;omega)]at this;exact Kh (by rw[decide_eq_true_eq];exact this)
  go_wp2;go_ret;exact⟨yQ HY.out.symm,m,rfl⟩
 have e1:((xs.length:Int) != (ys.length:Int))=true:=by rw[bne_iff_ne];omega
 have HN:Hid (decide (xs=ys)=false):=Kh (by rw[decide_eq_false_iff_not];rintro rfl;exact hl rfl);clear ha hb;go_enter Tryz.func76,Tryz.ntmps76;go_wp2;go_ret;exact⟨yQ HN.out.symm,0,rfl⟩
theorem Mat.some2 {B:Nat}{w:World}{v:Value}{t:List (List Int)}(h:Mat B w v t)(h1:0<t.length):∃b off cap,v=.slice (some ⟨b,off,none⟩) t.length cap/\t.length<=cap/\cap<=9223372036854775807/\∀x,x<t.length->∃a c,w.cell? ⟨b,off+x,none⟩=some (.slice a (t.getD x []).length c)/\Row B w (.slice a (t.getD x []).length c) (ints (t.getD x [])):=by
 obtain⟨b,off,cap,A,C,rfl,h2,h3,h0⟩:=h.some_ h1;exact⟨b,off,cap,rfl,h2,h3,fun x hx=>⟨_,_,h0.hd x hx,h0.row x hx⟩⟩
theorem lY {xs:List (List Int)}{k:Nat}(h:k<xs.length):xs.take (k+1)=xs.take k++[xs.getD k []]:=by
 rw[List.take_add_one];simp[List.getD,h]
theorem qAO (B C:Nat)(w:World)(va vb:Value)(xs ys:List (List Int))(ha:Mat B w va xs)(hb:Mat C w vb ys)(a9:xs.length<=4000):Calls Tryz.prog 75 #[va,vb] w fun e w'=>e=.returned (.bool (decide (xs=ys)))/\∃m,w'=w.drewN m:=by
 obtain⟨aa,ac,rfl⟩:=ha.shape;obtain⟨ba,bc,rfl⟩:=hb.shape;by_cases hl:xs.length=ys.length
 ·by_cases h0:xs.length=0
  ·have hx:xs=[]:=List.eq_nil_of_length_eq_zero h0
   have hy:ys=[]:=List.eq_nil_of_length_eq_zero yo;subst hx;subst hy;clear ha hb;go_enter Tryz.func75,Tryz.ntmps75;go_wp2
   go_loopg [13] 0 (fun g i wr=>i=.int .i64 0/\wr=w)
   case atStart=>exact⟨rfl,rfl⟩
   obtain⟨rfl,rfl⟩:=hrel;go_wp2;go_ret;exact⟨yQ rfl,0,rfl⟩
  obtain⟨ab,ao,ac',e,_,am,h4⟩:=ha.some2 yo;simp only[Value.slice.injEq,true_and]at e;obtain⟨rfl,rfl⟩:=e;obtain⟨bb,bo,bc',e,_,bm,h3⟩:=hb.some2 yo;simp only[Value.slice.injEq,true_and]at e;obtain⟨rfl,rfl⟩:=e;obtain⟨RA,RB,HL⟩:=Kc h4 h3 hl;clear ha hb h4 h3;rw[<-hl];clear hl;go_enter Tryz.func75,Tryz.ntmps75;go_wp2
  go_loopg [13] xs.length (fun g i wr=>∃k:Nat,g+k=xs.length/\i=.int .i64 k/\xs.take k=ys.take k/\∃m,wr=w.drewN m)
  case atStart=>exact⟨0,rfl,rfl,rfl,0,rfl⟩
  obtain⟨k,hg,rfl,h5,m,rfl⟩:=hrel;have HG:=Kh hg;have OK:=Kh h5;clear hg h5;by_cases hk:k<xs.length
  ·have h7:(k:Int)<xs.length:=yo
   obtain⟨a1,c1,ca,ra⟩:=RA.out k hk;obtain⟨a2,c2,cb,rb⟩:=RB.out k (by have:=HL.out;omega);obtain⟨z,hz⟩:=Nm (xs.getD k []);obtain⟨u,hu⟩:=Nm (ys.getD k []);rw[<-hz]at ca ra;rw[<-hu]at cb rb;obtain⟨zl,h1⟩:=Nm z.length;obtain⟨ul,h2⟩:=Nm u.length;rw[<-h1]at ca ra;rw[<-h2]at cb rb;obtain⟨d,hd⟩:=Nm (decide (z=u))
   have HS:Hid (∀q,Calls Tryz.prog 31 #[.slice a1 zl c1,.slice a2 ul c2] (w.drewN q) fun e w'=>e=.returned (.bool d)/\∃m,w'=(w.drewN q).drewN m):=Kh (fun q=>by
    rw[hd]
    exact qT B C (w.drewN q) _ _ z u (ra.of_heap rfl) (rb.of_heap rfl))
   obtain⟨HZ,HU,HD⟩:=Kc hz hu hd;clear hz hu hd ra rb h1 h2;cases d with
   | true =>
    have HN:Hid (xs.take (k+1)=ys.take (k+1)):=Kh (by rw[lY hk,lY (by have:=HL.out;omega),OK.out,<-HZ.out,<-HU.out,of_decide_eq_true HD.out.symm]);go_wp2
    go_quiet ((go_at_call 31;first|exact Calls.quiet_of (HS.out _)|exact qAS (HS.out _)))
    go_wp2;go_roundg (xs.length-(k+1))
    case measure=>have:=HG.out;omega
    exact⟨k+1,yo,by go_num,HN.out,_,rfl⟩
   | false =>
    have HN:Hid (decide (xs=ys)=false):=Kh (by rw[decide_eq_false_iff_not];rintro rfl;exact of_decide_eq_false HD.out.symm (by rw[HZ.out,HU.out]));go_wp2
    go_quiet ((go_at_call 31;first|exact Calls.quiet_of (HS.out _)|exact qAS (HS.out _)))
    go_wp2;go_ret;exact⟨yQ HN.out.symm,_,by rw[World.drewN_drewN]⟩
  have HY:Hid (decide (xs=ys)=true):=by
   have h6:k=xs.length:=by have:=HG.out;omega
   have:=OK.out;rw[List.take_of_length_le yo,List.take_of_length_le (by have:=HL.out;omega)]at this;exact Kh (by rw[decide_eq_true_eq];exact this)
  go_wp2;go_ret;exact⟨yQ HY.out.symm,m,rfl⟩
 have e1:((xs.length:Int) != (ys.length:Int))=true:=by rw[bne_iff_ne];omega
 have HN:Hid (decide (xs=ys)=false):=Kh (by rw[decide_eq_false_iff_not];rintro rfl;exact hl rfl);clear ha hb;go_enter Tryz.func75,Tryz.ntmps75;go_wp2;go_ret;exact⟨yQ HN.out.symm,0,rfl⟩
open Go.Maps
inductive RautS (w0:World)(B o k m:Nat)(sf:Option Addr)(cf:Nat)(ac:List Bool)(dn:List (List Int))(tl:List RowS)(w:World):Prop
 | mk (X:Nat->Prop) (sn:Option Addr) (x cn:Nat) (hs:List Value) (hx:dn.length=x) (hB:BoxS B X o 29 w0 w (⟨B,4,.slice sf m cf,m,bls ac,1⟩::⟨B,22,.slice sn x cn,x,hs,1⟩::tl) #[.int .i64 (k:Int),.int .i64 0,.slice sf m cf,.slice sn x cn] w) (hT:xX X 3 ints w hs dn)
theorem RautS.begin {w0 w:World}{o k m:Nat}{sf:Option Addr}{cf:Nat}{ac:List Bool}(hb:w.heap[o]?=some (.cells #[.int .i64 (k:Int),.int .i64 0,.slice sf m cf,.slice none 0 0] 29 (0,0)))(hf:w.ownsRow w0.heap.size 4 1 (.slice sf m cf) m (bls ac))(ho:w0.heap.size<=o)(hg:w0.grownBy w none):RautS w0 w0.heap.size o k m sf cf ac [] [] w:=by
 have h1:BoxS w0.heap.size (fun _=>False) o 29 w0 w [⟨w0.heap.size,4,.slice sf m cf,m,bls ac,1⟩] #[.int .i64 (k:Int),.int .i64 0,.slice sf m cf,.slice none 0 0] w:=by
  refine⟨⟨fun r hr=>?_,List.pairwise_singleton _ _,fun _ _ _ _ h=>h,fun _ h=>h.elim⟩,fun r hr=>?_,hb,fun h=>h,Nat.le_refl _,ho,hg.size,hg,wG.refl _ _,Nat.le_refl _⟩
  ·rw[List.mem_singleton]at hr;subst hr;exact hf
  rw[List.mem_singleton]at hr;subst hr;exact⟨rfl,by show (4:Nat)≠29;decide⟩
 exact⟨_,none,0,0,[],rfl,h1.nil (e:=22) (sz:=1) jd,xX.nil⟩
section
variable {w0 w w':World} {B o k m cf:Nat} {sf:Option Addr} {ac:List Bool} {dn:List (List Int)} {tl:List RowS}
theorem RautS.g (h:RautS w0 B o k m sf cf ac dn tl w):w0.grownBy w none:=by
 obtain⟨X,sn,x,cn,hs,hx,hB,hT⟩:=h;exact hB.grown
theorem RautS.row0 (h:RautS w0 B o k m sf cf ac dn [] w):RautS w0 B o k m sf cf ac dn [⟨B,3,.slice none 0 0,0,ints [],1⟩] w:=by
 obtain⟨X,sn,x,cn,hs,hx,hB,hT⟩:=h;exact⟨X,sn,x,cn,hs,hx,hB.nil (e:=3) (sz:=1) jd,hT⟩
theorem RautS.rowOwn (h:RautS w0 B o k m sf cf ac dn [⟨B,3,.slice sr j cr,j,ints r,1⟩] w):w.ownsRow B 3 1 (.slice sr j cr) j (ints r)/\B<=w.heap.size:=by
 obtain⟨X,sn,x,cn,hs,hx,hB,hT⟩:=h;exact⟨hB.own (r:=⟨B,3,.slice sr j cr,j,ints r,1⟩) yq,Nat.le_trans hB.base hB.wk⟩
theorem RautS.pushI {a9:Option Addr}{a8:Nat}{u:Int}(h:RautS w0 B o k m sf cf ac dn [⟨B,3,.slice sr j cr,j,ints r,1⟩] w)(ho:w'.ownsRow B 3 1 (.slice a9 (j+1) a8) (j+1) (ints r++[.int .i64 u]))(hg:w.grownBy w' (Value.slice sr j cr).ownBlock)(hm:nW w w' (.slice sr j cr) (.slice a9 (j+1) a8)):RautS w0 B o k m sf cf ac dn [⟨B,3,.slice a9 (j+1) a8,j+1,ints (r++[u]),1⟩] w':=by
 obtain⟨X,sn,x,cn,hs,hx,hB,hT⟩:=h;have hP:=hB.appAt (j:=2) rfl ho hg hm;rw[show ints (r++[u])=ints r++[.int .i64 u] by simp[ints]];exact⟨X,sn,x,cn,hs,hx,hP.rebase,hT.kept hP.kept hP.wk⟩
theorem RautS.close (h:RautS w0 B o k m sf cf ac dn [⟨B,3,.slice sr k cr,k,ints r,1⟩] w):∃(sn:Option Addr) (x cn:Nat) (hs:List Value),dn.length=x/\w.cell? ⟨o,3,none⟩=some (.slice sn x cn)/\w.ownsRow B 22 1 (.slice sn x cn) x hs/\B<=w.heap.size/\∀(sn':Option Addr) (cn':Nat) (w':World),w'.ownsRow B 22 1 (.slice sn' (x+1) cn') (x+1) (hs++[.slice sr k cr])->w.grownBy w' (Value.slice sn x cn).ownBlock->nW w w' (.slice sn x cn) (.slice sn' (x+1) cn')->w'.heap[o]?=some (.cells #[.int .i64 (k:Int),.int .i64 0,.slice sf m cf,.slice sn x cn] 29 (0,0))/\RautS w0 B o k m sf cf ac (dn++[r]) [] (w'.setCell ⟨o,3,none⟩ (.slice sn' (x+1) cn')):=by
 obtain⟨X,sn,x,cn,hs,hx,hB,hT⟩:=h;have hR:=BoxS.retire (rs:=[⟨B,4,.slice sf m cf,m,bls ac,1⟩,⟨B,22,.slice sn x cn,x,hs,1⟩]) (r:=⟨B,3,.slice sr k cr,k,ints r,1⟩) hB;have hX:RowX (fun j=>X j\/(Value.slice sr k cr).ownBlock=some j) 3 w (.slice sr k cr) (ints r):=RowX.of_owns (hB.own (r:=⟨B,3,.slice sr k cr,k,ints r,1⟩) yq) (fun j hj=>.inr hj);have h0:=(hT.mono (X':=fun j=>X j\/(Value.slice sr k cr).ownBlock=some j) (fun j hj=>.inl hj)).snoc hX;refine⟨sn,x,cn,hs,hx,(zM hB.box).2.2.2,hB.own (r:=⟨B,22,.slice sn x cn,x,hs,1⟩) yq,Nat.le_trans hB.base hB.wk,fun sn' cn' w' ho hg hm=>?_⟩;have hP:=hR.appAt (j:=1) rfl ho hg hm;have hS:=hP.set 3 (.slice sn' (x+1) cn');exact⟨hP.box,_,sn',x+1,cn',hs++[.slice sr k cr],by simp[hx],hS.rebase,h0.kept hS.kept hS.wk⟩
theorem RautS.read (h:RautS w0 B o k m sf cf ac dn [] w):∃sn cn hs,w.heap[o]?=some (.cells #[.int .i64 (k:Int),.int .i64 0,.slice sf m cf,.slice sn dn.length cn] 29 (0,0))/\RowT w.heap.size 4 w (.slice sf m cf) (bls ac)/\RowT w.heap.size 22 w (.slice sn dn.length cn) hs/\tN w.heap.size 3 ints w hs dn:=by
 obtain⟨X,sn,x,cn,hs,rfl,hB,hT⟩:=h;exact⟨sn,cn,hs,hB.box,RowT.of_owns (hB.own (r:=⟨B,4,.slice sf m cf,m,bls ac,1⟩) yq),RowT.of_owns (hB.own (r:=⟨B,22,.slice sn dn.length cn,dn.length,hs,1⟩) yq),hT.rowsT⟩
end
theorem qQQ {Q:Exit->Act->World->Prop}{v0 v2 v3 v4 v5 v6 v7 v8 v9 d0 d1 d2 d3 d4 d5 d6 d7 d8 d9 c0 c1 c2 c3 c4 c5 c6 c7 c8 c9 b0 b1 b2 b3 b4 b5 b6 b7 b8 b9 a0 a1 a2 a3 a4 a5 a6 a7:Value}{w:World}{k m P aC:Nat}{aA:Option Addr}{ac:List Bool}(e8:m<=400)(e9:ac.length=m)(hC:w.cell? ⟨P,0,none⟩=some (.int .i64 k)/\w.cell? ⟨P,4,none⟩=some (.slice aA m aC))(a9:∀W:World,w.grownBy W none->∃B,Row B W (.slice aA m aC) (bls ac))(a8:∀(z8 z9 z10 z11 z12 z13 z14:Value) (w':World) (o:Nat) (sf:Option Addr) (cf:Nat),RautS w w.heap.size o k m sf cf ac [] [] w'->Q .normal ⟨(v0::(Value.pointer (some ⟨P,0,none⟩))::v2::(Value.pointer (some ⟨o,0,none⟩))::v4::v5::v6::v7::z8::z9::z10::z11::z12::z13::z14::d5::d6::d7::d8::d9::c0::c1::c2::c3::c4::c5::c6::c7::c8::c9::b0::b1::b2::b3::b4::b5::b6::b7::b8::b9::a0::a1::a2::a3::a4::a5::a6::a7::[]).toArray,[]⟩ w'):Code.wp Tryz.prog (reg Tryz.f54 1) Q ⟨(v0::(Value.pointer (some ⟨P,0,none⟩))::v2::v3::v4::v5::v6::v7::v8::v9::d0::d1::d2::d3::d4::d5::d6::d7::d8::d9::c0::c1::c2::c3::c4::c5::c6::c7::c8::c9::b0::b1::b2::b3::b4::b5::b6::b7::b8::b9::a0::a1::a2::a3::a4::a5::a6::a7::[]).toArray,[]⟩ w:=by
 obtain⟨h9,h8⟩:=hC
 conv=>arg 2;whnf
 obtain⟨wq,h1⟩:=Nm w.drew;have h5:w.grownBy wq none:=by rw[h1];exact zY w none
 have H0:=Kh h1;have h0:=Kh h5;have HC:Hid (∀W:World,w.grownBy W none->W.cell? ⟨P,0,none⟩=some (.int .i64 k)/\W.cell? ⟨P,4,none⟩=some (.slice aA m aC)):=Kh (fun W h=>⟨zN h9 h,zN h8 h⟩);have h6:=Kh a9;have C:=Kh (HC.out wq h5);have HR:Hid (0<=0):=Kh (Nat.le_refl _);clear h1 h5 h9 h8 a9;refine wp_region_noPanic ?_;refine yI (G:=xM 8 (fun W=>W.cell? ⟨P,0,none⟩=some (.int .i64 k)/\W.cell? ⟨P,4,none⟩=some (.slice aA m aC)) (fun _=>True)) yk ?_;rw[<-H0.out];clear H0;refine zP 0 ?_;refine zP 1 ?_;refine zP 3 ?_;refine zP 4 ?_;refine twoG (i:=2) (j:=7) yk rfl rfl (fun K hK=>?_) (fun K hK=>?_);rotate_left;go_simp;have hb:=heap_alloc_new wq (.cells #[.int .i64 0,.int .i64 0,.slice none 0 0,.slice none 0 0] 29);have hg:=Ga wq (.cells #[.int .i64 0,.int .i64 0,.slice none 0 0,.slice none 0 0] 29) none;obtain⟨R,hR⟩:=Nm wq.heap.size;have h3:Hid (w.heap.size<=R):=Kh (by rw[hR];exact h0.out.size);obtain⟨wq,h1⟩:=Nm (wq.alloc (.cells #[.int .i64 0,.int .i64 0,.slice none 0 0,.slice none 0 0] 29));rw[<-h1]at hb hg⊢;rw[<-hR]at hb⊢;have h2:=Kh hb;have h0:=Kh (zE h0.out hg);have C:=Kh (HC.out _ h0.out)
 try have HL:=Kh (zZ HL.out hg)
 try have HF:=Kh (zZ HF.out hg)
 refine hK.out _ _ ⟨C.out,fun _=>trivial⟩ ?_;clear hK K hb hg h1 hR
 try simp only[Act.put,sPa,sPb,sPc]
 refine jg 2 fun K hK=>?_
 all_goals
  go_simp;have hg:=Ga wq (.cells #[] 4) none;have hl:(wq.alloc (.cells #[] 4)).ownsRow w.heap.size 4 1 (.slice (some ⟨wq.heap.size,0,none⟩) 0 0) 0 []:=⟨yq,.inr ⟨wq.heap.size,0,#[],rfl,h0.out.size,heap_alloc_new _ _,Nat.le_refl _,Nat.zero_le _,yq,yq⟩⟩;obtain⟨g,h7⟩:=Nm wq.heap.size;obtain⟨wq,h1⟩:=Nm (wq.alloc (.cells #[] 4));rw[<-h1]at hg hl⊢;rw[<-h7]at hl⊢;have HL:=Kh hl
  try have h2:=Kh (zD h2.out hg)
  have h0:=Kh (zE h0.out hg);have C:=Kh (HC.out _ h0.out);refine hK.out _ _ ⟨C.out,fun _=>trivial⟩ ?_;clear hK K hg hl h7 h1
  try simp only[Act.put,sPa,sPb,sPc]
 refine jg 5 fun K hK=>?_;rotate_left;refine twoG (i:=5) (j:=7) yk rfl rfl (fun K hK=>?_) (fun K hK=>?_);rotate_left;go_simp;have hb:=heap_alloc_new wq (.cells #[.int .i64 0,.int .i64 0,.slice none 0 0,.slice none 0 0] 29);have hg:=Ga wq (.cells #[.int .i64 0,.int .i64 0,.slice none 0 0,.slice none 0 0] 29) none;obtain⟨R,hR⟩:=Nm wq.heap.size;have h3:Hid (w.heap.size<=R):=Kh (by rw[hR];exact h0.out.size);obtain⟨wq,h1⟩:=Nm (wq.alloc (.cells #[.int .i64 0,.int .i64 0,.slice none 0 0,.slice none 0 0] 29));rw[<-h1]at hb hg⊢;rw[<-hR]at hb⊢;have h2:=Kh hb;have h0:=Kh (zE h0.out hg);have C:=Kh (HC.out _ h0.out)
 try have HL:=Kh (zZ HL.out hg)
 try have HF:=Kh (zZ HF.out hg)
 refine hK.out _ _ ⟨C.out,fun _=>trivial⟩ ?_;clear hK K hb hg h1 hR
 try simp only[Act.put,sPa,sPb,sPc]
 refine jg 5 fun K hK=>?_
 all_goals
  refine fM rfl (.tmp 10) (.tmp 12) 26 rfl xK w.heap.size _ 0 [] rfl HL.out _ (bls ac) rfl (h6.out _ h0.out) (fun u hu=>by obtain⟨b,_,rfl⟩:=List.mem_map.1 hu;rfl) m (by rw[yB,e9];omega) jm yo h0.out.size ?_;intro sf cf wz hf hg;rw[List.nil_append]at hf;have HF:=Kh hf
  try have h2:=Kh (zD h2.out hg (zR HL.out h2.out jd))
  have h0:=Kh (zE h0.out hg (fun j e=>(HL.out.lt j e).1));have C:=Kh (HC.out _ h0.out);obtain⟨wq,h1⟩:=Nm wz;subst h1;refine hK.out _ _ ⟨C.out,fun _=>trivial⟩ ?_;clear hK K hg hf HL
  try simp only[Act.put,sPa,sPb,sPc]
  refine zP 6 ?_
 rotate_left;rotate_left;refine jg 7 fun K hK=>?_;go_simp;have hb:=heap_alloc_new wq (.cells #[.int .i64 0,.int .i64 0,.slice none 0 0,.slice none 0 0] 29);have hg:=Ga wq (.cells #[.int .i64 0,.int .i64 0,.slice none 0 0,.slice none 0 0] 29) none;obtain⟨R,hR⟩:=Nm wq.heap.size;have h3:Hid (w.heap.size<=R):=Kh (by rw[hR];exact h0.out.size);obtain⟨wq,h1⟩:=Nm (wq.alloc (.cells #[.int .i64 0,.int .i64 0,.slice none 0 0,.slice none 0 0] 29));rw[<-h1]at hb hg⊢;rw[<-hR]at hb⊢;have h2:=Kh hb;have h0:=Kh (zE h0.out hg);have C:=Kh (HC.out _ h0.out)
 try have HL:=Kh (zZ HL.out hg)
 try have HF:=Kh (zZ HF.out hg)
 refine hK.out _ _ ⟨C.out,fun _=>trivial⟩ ?_;clear hK K hb hg h1 hR
 try simp only[Act.put,sPa,sPb,sPc]
 all_goals
  refine jg 8 fun K hK=>?_;obtain⟨k0,k1,k2,k3⟩:=zM h2.out;have f0:=zB h2.out 0;have f1:=zB h2.out 1;have f2:=zB h2.out 2;have f3:=zB h2.out 3;go_simp;obtain⟨H1,h4⟩:=vS h2.out (.int .i64 k) (.int .i64 0) (.slice sf m cf) (.slice none 0 0);refine hK.out _ _ ⟨HC.out _ (zE h0.out h4 (fun j e=>by have e:=Oj e;have:=h3.out;omega)),fun _=>trivial⟩ ?_;refine uY yk ?_ _;refine NoPanic.normal ?_;exact a8 _ _ _ _ _ _ _ _ R sf cf (RautS.begin H1 (HF.out.kept h4 (.inr (zR HF.out h2.out jd))) h3.out (zE h0.out h4 (fun j e=>by have e:=Oj e;have:=h3.out;omega)))
theorem qGJ (B:Nat)(w:World)(v:Value)(I:SynI)(a8:B<=w.heap.size)(h:pX B w v I)(a9:uP I=true):Calls Tryz.prog 54 #[v] w fun e w'=>∃v',e=.returned v'/\rP w'.heap.size w' v' (autI I)/\w.grownBy w' none:=by
 obtain⟨⟨k1,k6,m1,m4⟩,⟨f5,a2,f8,d6⟩,h6,b1⟩:=sZ a9;obtain⟨vT,vW,vI,vA,vP,rfl,hT,hW,hI,hA,hP⟩:=h;obtain⟨wA,wC,rfl⟩:=hW.shape;obtain⟨pA,pC,rfl⟩:=hP.shape;obtain⟨m,hm⟩:=Nm I.tab.length;obtain⟨k,hk⟩:=Nm I.images.length;obtain⟨wn,c7⟩:=Nm ((uZ I.words).length);obtain⟨pn,d1⟩:=Nm ((bls I.plus).length);obtain⟨aA,aC,rfl⟩:=hA.shape;have ean:(bls I.accept).length=m:=by rw[yB,a2,hm]
 have eik:I.k=(k:Int):=by rw[<-d6,hk]
 obtain⟨tb,tf,tC,A,C,rfl,f7,c8,b3⟩:=hT.some_ yo;obtain⟨ib,io,iC,rfl,_,g3,d7,d5⟩:=hI.some_ (by rw[zL];omega);rw[zL,<-hk]at g3⊢;rw[<-hm]at f7 b1 m1 m4⊢;rw[ean]at hA⊢;rw[<-c7,<-d1,eik];rw[eik]at k1 k6
 have H2:∀x,x<m->∃rb ro rc,w.cell? ⟨tb,tf+x,none⟩=some (.slice (some ⟨rb,ro,none⟩) m rc)/\(m<=rc/\rc<=maxLen)/\∀y,y<m->w.cell? ⟨rb,ro+y,none⟩=some (.int .i64 ((I.tab.getD x []).getD y 0)):=fun x hx=>by
  have hl:(I.tab.getD x []).length=m:=by rw[(h6 _ (wT yo)).1,hm]
  have h1:=b3.hd x yo;have h2:=b3.row x yo;rw[hl]at h1 h2;obtain⟨rb,ro,rc,e,_,c1,c2,c3⟩:=h2.some_ (by rw[zL,hl];omega);rw[zL,hl]at e c1;rw[e]at h1;exact⟨rb,ro,rc,h1,⟨c1,c2⟩,fun y hy=>c3.int y (by rw[hl];exact hy)⟩
 have H5:∀a,a<k->∃y:Nat,w.cell? ⟨ib,io+a,none⟩=some (.int .i64 (y:Int))/\y<m/\I.images.getD a 0=(y:Int):=fun a ha=>by
  obtain⟨y,e,hy⟩:=iQ b1 (i:=a) yo;exact⟨y,by rw[<-e];exact d5.int a yo,hy,e⟩
 obtain⟨w1,H1⟩:=Nm (w.alloc (.cells #[.int .i64 (k:Int),.slice (some ⟨tb,tf,none⟩) m tC,.slice wA wn wC,.slice (some ⟨ib,io,none⟩) k iC,.slice aA m aC,.slice pA pn pC] 39));have g1:w.grownBy w1 none:=by rw[H1];exact Ga w _ none
 have n1:=heap_alloc_new w (.cells #[.int .i64 (k:Int),.slice (some ⟨tb,tf,none⟩) m tC,.slice wA wn wC,.slice (some ⟨ib,io,none⟩) k iC,.slice aA m aC,.slice pA pn pC] 39);have h5:w1.heap.size=w.heap.size+1:=by rw[H1];simp
 rw[<-H1]at n1;obtain⟨w2,a1⟩:=Nm (w1.alloc (.cells #[.int .i64 0,.int .i64 0,.slice none 0 0,.slice none 0 0] 29));have g2:w1.grownBy w2 none:=by rw[a1];exact Ga w1 _ none
 have n2:=heap_alloc_new w1 (.cells #[.int .i64 0,.int .i64 0,.slice none 0 0,.slice none 0 0] 29);rw[<-a1,h5]at n2;obtain⟨P,b4⟩:=Nm w.heap.size;rw[<-b4]at n1 n2;have e0:=zD n1 g2;have b2:=zE g1 g2;obtain⟨b6,b7,e9,i3,HG,g5⟩:=Kf H2 H5 e0 n2 b2 H1;obtain⟨g4,e6,HM,HK⟩:=Kd a1 b4 hm hk;have HA:=Kh (hA.kept b2 yq);have i7:=Kh a2;have e2:I.accept.length=m:=a2.trans hm.symm;have g9:=Kh eik;have f6:tC<=9223372036854775807:=(by unfold maxLen at c8;omega)
 have g0:iC<=9223372036854775807:=(by unfold maxLen at d7;omega)
 clear h6 b1 hT hW hI hA hP hm hk c7 d1 b3 d5 c8 d7 H2 H5 e0 n1 n2 g1 g2 b2 H1 a1 b4 f5 a2 f8 d6 ean a9 h5 eik;have k6':k<=6:=yo
 have k1':1<=k:=yo
 clear k1 k6;go_enter Tryz.func54,Tryz.ntmps54;go_upto_region 1 with fail;rw[<-g5.out,<-e6.out,<-g4.out];obtain⟨q0,q1,q2,q3,q4,q5⟩:=zU e9.out;refine qQQ (k:=k) (m:=m) (ac:=I.accept) m4 e2 ⟨q0,q4⟩ (fun W hW=>⟨B,HA.out.kept hW yq⟩) ?_;intro z8 z9 z10 z11 z12 z13 z14 w7 o sf cf b5;have e7:Hid (RautS w2 w2.heap.size o k m sf cf I.accept ((autI I).next.take 0) [] w7):=Kh b5;have c0:Hid (∀W:World,w2.grownBy W none->W.heap[P]?=some (.cells #[.int .i64 (k:Int),.slice (some ⟨tb,tf,none⟩) m tC,.slice wA wn wC,.slice (some ⟨ib,io,none⟩) k iC,.slice aA m aC,.slice pA pn pC] 39 (0,0))/\w.grownBy W none):=Kh (fun W hW=>⟨zD e9.out hW,zE HG.out hW⟩);obtain⟨q0,q1,q2,q3,q4,q5⟩:=zU (c0.out _ b5.g).1;clear b5 e2;go_wp2
 go_loopg [4,5,7,18] m (fun gh a4 a5 a7 a18 wr=>∃x:Nat,gh+x=m/\a18=.int .i64 x/\RautS w2 w2.heap.size o k m sf cf I.accept ((autI I).next.take x) [] wr)
 case atStart=>exact⟨0,rfl,rfl,e7.out⟩
 clear e7 q0 q1 q2 q3 q4 q5;obtain⟨x,d9,rfl,H0⟩:=hrel;have b9:=Kh d9;have h4:=Kh H0;obtain⟨H9,h3⟩:=c0.out _ H0.g;obtain⟨q0,q1,q2,q3,q4,q5⟩:=zU H9;clear d9 H0 H9 q0 q1 q2 q4 q5;by_cases hx:x<m
 ·have f4:(x:Int)<m:=yo
  obtain⟨rb,ro,rc,cr0,d0,c9⟩:=b6.out x hx;obtain⟨g7,e4,i2⟩:=Kc c9 d0 cr0;have i1:Hid (((autI I).next.take x).length=x):=Kh (by rw[List.length_take,tU,<-HM.out];omega);have e3:Hid (((autI I).next.getD x []).length=k):=Kh (by rw[fG (by rw[<-HM.out];exact hx),List.length_map,<-HK.out]);have e5:=Kh h4.out.row0;clear c9 d0 h3 cr0;go_wp2
  go_loopg [5,7,24] k (fun gh a5 a7 a24 wr=>∃(j cr:Nat) (sr:Option Addr),gh+j=k/\a5=.slice sr j cr/\a24=.int .i64 j/\RautS w2 w2.heap.size o k m sf cf I.accept ((autI I).next.take x) [⟨w2.heap.size,3,.slice sr j cr,j,ints (((autI I).next.getD x []).take j),1⟩] wr)
  case atStart=>exact⟨0,0,none,rfl,rfl,rfl,e5.out⟩
  clear e5 q3;obtain⟨j,cr,sr,d8,rfl,rfl,H0⟩:=hrel;have b8:=Kh d8;have h4:=Kh H0;obtain⟨H9,h3⟩:=c0.out _ H0.g;obtain⟨q0,q1,q2,q3,q4,q5⟩:=zU H9;have i6:=Kh h3;clear d8 H0 H9 q0 q2 q4 q5;by_cases hj:j<k
  ·have f9:(j:Int)<k:=yo
   obtain⟨y,ci,hy,ey⟩:=b7.out j hj;have ci:=zN ci h3;have cz:=zN (g7.out y hy) h3;have cw:=zN i2.out h3
   have hz:(I.tab.getD x []).getD y 0=((autI I).next.getD x []).getD j 0:=by
    rw[fG (by rw[<-HM.out];exact hx),xY (x:=0) (by rw[<-HK.out];exact hj),ey,Int.toNat_natCast]
   rw[hz]at cz;obtain⟨u,hu⟩:=Nm (((autI I).next.getD x []).getD j 0);rw[<-hu]at cz;have HU:=Kh hu;have i4:(y:Int)<m:=yo;have a6:=e4.out.1;have a3:rc<=9223372036854775807:=by have:=e4.out.2;unfold maxLen at this;omega
   obtain⟨H3,h5⟩:=h4.out.rowOwn;clear h3 hz ey hu;go_wp2_with (first|(at_builtin;refine sM rfl _ _ _ rfl yJ.toN w2.heap.size (.slice sr j cr) j _ rfl H3 [.int .i64 u] rfl rfl ?z1 ?z2 ?z3 h5 ?_;(case z1=>(intro v hv;simp only[List.mem_cons,List.not_mem_nil,or_false]at hv;subst hv;rfl));(case z2=>(unfold maxLen;omega));(case z3=>(show (j+1)*8<=140737488355328;omega));intro sr' cr' wM h0 H7 H4)|fail);have c4:=Kh (h4.out.pushI h0 H7 H4);have g6:Hid (((autI I).next.getD x []).take j++[u]=((autI I).next.getD x []).take (j+1)):=Kh (by rw[yH (d:=0) (by rw[e3.out];exact hj),HU.out]);clear h0 H7 H4 H3 ci cz cw q1 q3 h4 a6 a3 h5;go_wp2;go_roundg (k-(j+1))
   case measure=>have:=b8.out;omega
   exact⟨j+1,cr',sr',by have:=b8.out;omega,rfl,by go_num,by rw[<-g6.out];exact c4.out⟩
  have d4:j=k:=by have:=b8.out;omega
  have f9:¬(j:Int)<k:=yo;have h7:=h4.out;rw[d4,show ((autI I).next.getD x []).take k=(autI I).next.getD x [] from List.take_of_length_le (by rw[e3.out];exact Nat.le_refl _)]at h7;subst d4;obtain⟨sn,x2,cn,hs,c6,c3,H3,h5,H8⟩:=h7.close;rw[i1.out]at c6;subst c6;have a0:=Kh H8;clear h3 h7 h4 q1 q3 H8;go_wp2_with (first|(at_builtin;refine sM rfl _ _ _ rfl xT.toN w2.heap.size (.slice sn x cn) x hs rfl H3 [.slice sr j cr] rfl rfl ?z1 ?z2 ?z3 h5 ?_;(case z1=>(intro v hv;simp only[List.mem_cons,List.not_mem_nil,or_false]at hv;subst hv;rfl));(case z2=>(unfold maxLen;omega));(case z3=>(show (x+1)*24<=140737488355328;omega));intro sn' cn' wM h0 H7 H4;(obtain⟨h8,d2⟩:=a0.out sn' cn' wM h0 H7 H4);(obtain⟨k0,k1,k2,k3⟩:=zM h8);(have f3:=zB h8 3))|fail);have c4:=Kh d2;clear h0 H7 H4 H3 c3 h5 d2 h8 k0 k1 k2 k3 f3 a0;go_roundg (m-(x+1))
  case measure=>have:=b9.out;omega
  exact⟨x+1,by have:=b9.out;omega,by go_num,by rw[yH (d:=[]) (by rw[tU,<-HM.out];exact hx)];exact c4.out⟩
 have c5:x=m:=by have:=b9.out;omega
 have f4:¬(x:Int)<m:=yo;have h7:=h4.out;rw[c5,List.take_of_length_le (by rw[tU,<-HM.out];exact Nat.le_refl _)]at h7;obtain⟨sn,cn,hs,h8,hf,hn,d3⟩:=h7.read;rw[tU,<-HM.out]at h8 hn;have h9:=zD i3.out h7.g;obtain⟨p0,p1,p2,p3⟩:=zM h8;obtain⟨r0,r1,r2,r3⟩:=zM h9;have f0:=zB h9 0;have f1:=zB h9 1;have f2:=zB h9 2;have f3:=zB h9 3;obtain⟨HF,HN,g8,e8,i0⟩:=Ke hf hn d3 h9 h3;clear h7 h8 hf hn d3 h9 h3 h4 c5 q3;go_wp2;refine bodyPost_ret (v:=.agg #[.int .i64 (k:Int),.int .i64 0,.slice sf m cf,.slice sn m cn]) (by simp[results,Tryz.results54,go_sem,r0,r1,r2,r3]) rfl ?_;obtain⟨i5,H6⟩:=vS e8.out (.int .i64 (k:Int)) (.int .i64 0) (.slice sf m cf) (.slice sn m cn)
 have b0:∀e',e'≠29->∀j,(some (P+1):Option Nat)=some j->wr.heap.size<=j\/yS wr e' j:=fun e' he j hj=>by
  have hj:=Oj hj;subst hj;exact .inr ⟨_,_,_,e8.out,fun e1=>he e1.symm⟩
 have hz:=H6.size;have eik:I.k=(k:Int):=g9.out;exact⟨_,rfl,⟨_,_,by simp only[autI,eik],((HF.out.kept H6 (b0 _ jd)).mono hz).row,Mat.of_rowT (HN.out.kept H6 (b0 _ jd)) (g8.out.kept H6 (b0 _ jd)) hz⟩,zE i0.out H6 (fun j e=>by have e:P+1=j:=Oj e;have:=e6.out;omega)⟩
end Go.Proofs.YtiknckajkdlppaaGreat
