/- Part 17 of the proof. -/
import Derived.Test.YtjfdomfendbhfaaQh3
import Derived.Deep.OwnRows
set_option linter.unusedVariables false
set_option linter.unusedSimpArgs false
set_option maxRecDepth 100000
set_option maxHeartbeats 16000000
namespace Go.Proofs.Ytjfdomfendbhfaa
open Go.RowKit
structure OwnsT (base:Nat)(W:World)(hs:List Value)(t:List (List Int)):Prop where
 len:hs.length=t.length
 own:∀i (h:i<hs.length) (h':i<t.length),W.ownsRow base 3 1 hs[i] t[i].length (ints t[i])
 dis:∀i j (hi:i<hs.length) (hj:j<hs.length),i≠j->∀k,hs[i].ownBlock=some k->hs[j].ownBlock≠some k
section
variable {base:Nat} {W W':World} {hs:List Value} {t:List (List Int)}
theorem OwnsT.nil:OwnsT base W [] []:=⟨rfl,fun i h=>by simp at h,fun i j h=>by simp at h⟩
theorem OwnsT.rowsT (h:OwnsT base W hs t):wK W.heap.size 3 ints W hs t:=⟨h.len,fun i h1 h2=>RowT.of_owns (h.own i h1 h2)⟩
theorem owns_keep {row:Option Nat}{v:Value}{n:Nat}{xs:List Value}(h:W.ownsRow base 3 1 v n xs)(hg:W.grownBy W' row)(hr:∀k,row=some k->k<base\/zX W 3 k):W'.ownsRow base 3 1 v n xs:=by
 refine h.kept hg ?_;rcases hv:v.ownBlock with _|k
 ·exact .inl rfl
 ·refine .inr fun e=>?_
  rcases hr k e.symm with hk|⟨c,e',m,hp,hne⟩
  ·have:=(h.lt k hv).1;omega
  ·exact zQ h hp (Ne.symm hne) hv
theorem OwnsT.kept {row:Option Nat}(h:OwnsT base W hs t)(hg:W.grownBy W' row)(hr:∀k,row=some k->k<base\/zX W 3 k):OwnsT base W' hs t :=
 ⟨h.len,fun i h1 h2=>owns_keep (h.own i h1 h2) hg hr,h.dis⟩
theorem OwnsT.snoc {v:Value}{r:List Int}(h:OwnsT base W hs t)(ho:W.ownsRow base 3 1 v r.length (ints r))(hd:∀i (hi:i<hs.length),∀k,hs[i].ownBlock=some k->v.ownBlock≠some k):OwnsT base W (hs++[v]) (t++[r]):=by
 have hl:=h.len;refine⟨by simp[hl],fun i h1 h2=>?_,fun i j hi hj hij k hk=>?_⟩
 ·by_cases hi:i<hs.length
  ·have:=h.own i hi (by omega)
   rw[List.getElem_append_left hi];simp only[List.getElem_append_left (show i<t.length by omega)];exact this
  ·have e:i=hs.length:=by simp at h1;omega
   subst e;rw[List.getElem_append_right (Nat.le_refl _)];simp only[List.getElem_append_right (show t.length<=hs.length by omega)];simpa [hl] using ho
 ·simp only[List.length_append,List.length_singleton]at hi hj
  by_cases h1:i<hs.length
  ·rw[List.getElem_append_left h1]at hk
   by_cases h2:j<hs.length
   ·rw[List.getElem_append_left h2];exact h.dis i j h1 h2 hij k hk
   ·have e:j=hs.length:=by omega
    subst e;rw[List.getElem_append_right (Nat.le_refl _)];simpa using hd i h1 k hk
  ·have e:i=hs.length:=by omega
   subst e;rw[List.getElem_append_right (Nat.le_refl _)]at hk;have h2:j<hs.length:=(by omega);rw[List.getElem_append_left h2];intro e;exact hd j h2 k e (by simpa using hk)
theorem OwnsT.lt (h:OwnsT base W hs t){i:Nat}(hi:i<hs.length){k:Nat}(hk:hs[i].ownBlock=some k):base<=k/\k<W.heap.size:=(h.own i hi (by rw[<-h.len];exact hi)).lt k hk
theorem OwnsT.at (h:OwnsT base W hs t){q:Nat}(hq:q<t.length)(hp:0<(t.getD q []).length):∃g c,hs[q]?=some (.slice (some ⟨g,0,none⟩) (t.getD q []).length c)/\(t.getD q []).length<=c/\c<=maxLen/\base<=g/\Arr W g 3 (ints (t.getD q [])):=by
 have h0:q<hs.length:=by rw[h.len];exact hq
 have ho:=h.own q h0 hq;have e:t.getD q []=t[q]:=by simp[List.getD_eq_getElem?_getD,hq]
 rw[e]at hp⊢;obtain⟨sa,sc,hv⟩:=sV ho;rw[hv]at ho;obtain⟨kb,rfl,h1,h2,h3⟩:=yG ho hp;refine⟨kb,sc,by rw[List.getElem?_eq_getElem h0,hv],h1,h2,(ho.lt kb rfl).1,h3⟩
theorem OwnsT.poke (h:OwnsT base W hs t){q g a c n:Nat}(hv:hs[q]?=some (.slice (some ⟨g,0,none⟩) n c))(ha:a<(t.getD q []).length)(x:Int):OwnsT base (W.setCell ⟨g,a,none⟩ (.int .i64 x)) hs (t.set q ((t.getD q []).set a x)):=by
 obtain⟨hq,he⟩:=List.getElem?_eq_some_iff.1 hv;have hl:=h.len;have hg:=zC W ⟨g,a,none⟩ (.int .i64 x);refine⟨by simp[hl],fun i h1 h2=>?_,h.dis⟩;rw[List.length_set]at h2;by_cases e:q=i
 ·subst e
  have ho:=h.own q h1 h2;have e2:t.getD q []=t[q]:=by simp[List.getD_eq_getElem?_getD,h2]
  rw[e2]at ha;simp only[List.getElem_set_self,e2];rw[he]at ho⊢;obtain⟨h0,ho⟩:=ho;refine⟨by simp[ints],?_⟩;rcases ho with ⟨h7,_⟩|⟨g',cap,cur,hs',hb,hgc,hc1,hc2,hc3,hc4⟩
  ·simp at h7
  ·simp only[Value.slice.injEq,Option.some.injEq,Addr.mk.injEq,and_true]at hs'
   obtain⟨rfl,hn,rfl⟩:=hs';subst hn;refine .inr ⟨g,c,cur.setIfInBounds a (.int .i64 x),by simp,hb,heap_setCell_same W g a _ _ _ hgc,by simpa using hc1,hc2,by simpa using hc3,?_⟩;simp only[List.length_set,Nat.mul_one]at hc4⊢;rw[Array.toList_setIfInBounds,List.take_set,hc4];simp[ints,List.map_set]
 ·have ho:=h.own i h1 h2
  simp only[List.getElem_set_ne e]
  exact ho.kept hg (by
   rcases hv2:hs[i].ownBlock with _|k
   ·exact .inl rfl
   ·refine .inr fun e3=>?_
    have e3:=Oj e3;subst e3
    exact h.dis i q h1 hq (fun e4=>e e4.symm) _ hv2 (by rw[he];rfl))
end
structure Half (base:Nat)(W:World)(o:Nat)(L S:Int)(fs:List Bool)(t:List (List Int))(hs:List Value)(sf:Option Addr)(cf:Nat)(sn:Option Addr)(cn:Nat):Prop where
 box:W.heap[o]?=some (.cells #[.int .i64 L,.int .i64 S,.slice sf fs.length cf,.slice sn t.length cn] 42 (0,0))
 ownF:W.ownsRow base 4 1 (.slice sf fs.length cf) fs.length (bls fs)
 ownN:W.ownsRow base 34 1 (.slice sn t.length cn) t.length hs
 rows:OwnsT base W hs t
section
variable {base o:Nat} {W W':World} {L S:Int} {fs:List Bool} {t:List (List Int)} {hs:List Value} {sf sn:Option Addr} {cf cn:Nat}
theorem Half.built (h:Half base W o L S fs t hs sf cf sn cn)(hl:fs.length=t.length):Built base W o L S fs t hs sf cf sn cn:=⟨h.box,h.ownF,h.ownN,h.rows.rowsT,hl⟩
theorem Half.far {r:Nat}{cs:Array Value}{m:Nat×Nat}(h:Half base W o L S fs t hs sf cf sn cn)(hg:W.grownBy W' (some r))(hr:W.heap[r]?=some (.cells cs 42 m))(hne:r≠o):Half base W' o L S fs t hs sf cf sn cn where
 box:=zB h.box hg (fun e=>hne (Oj e))
 ownF:=h.ownF.kept hg (.inr (zQ h.ownF hr (by decide)))
 ownN:=h.ownN.kept hg (.inr (zQ h.ownN hr (by decide)))
 rows:=h.rows.kept hg (fun k hk=>.inr (by have:=Oj hk;subst this;exact⟨_,_,_,hr,by decide⟩))
theorem Half.grow (h:Half base W o L S fs t hs sf cf sn cn)(hg:W.grownBy W' none):Half base W' o L S fs t hs sf cf sn cn where
 box:=zB h.box hg (by simp)
 ownF:=zY h.ownF hg (by simp)
 ownN:=zY h.ownN hg (by simp)
 rows:=h.rows.kept hg (by simp)
theorem Half.tape {B tb:Nat}(h:Half base W o L S fs t hs sf cf sn cn)(hT:xL B W tb)(hg:W.grownBy W' (some tb)):Half base W' o L S fs t hs sf cf sn cn:=by
 obtain⟨sl,zs,n,hr,_⟩:=hT;refine⟨zB h.box hg (fun e=>?_),h.ownF.kept hg (.inr (zQ h.ownF hr (by decide))),h.ownN.kept hg (.inr (zQ h.ownN hr (by decide))),?_⟩
 ·have e:=Oj e
  have h1:=h.box;rw[<-e,hr]at h1;simp at h1
 ·exact h.rows.kept hg (fun k hk=>.inr (by have:=Oj hk;subst this;exact⟨_,_,_,hr,by decide⟩))
theorem qEP {w:World}{base e e' n n':Nat}{v v':Value}{xs ys:List Value}(h:w.ownsRow base e 1 v n xs)(h':w.ownsRow base e' 1 v' n' ys)(hne:e≠e'):v.ownBlock=none\/v.ownBlock≠v'.ownBlock:=by
 rcases hv:v.ownBlock with _|k
 ·exact .inl rfl
 ·refine .inr (fun e2=>?_)
  obtain⟨c,e3,m,hp,h3⟩:=yF h' (Ne.symm hne) k e2.symm;exact zQ h hp (Ne.symm h3) hv
theorem Half.pushF {b:Bool}{sf':Option Addr}{cf':Nat}(h:Half base W o L S fs t hs sf cf sn cn)(ho:W'.ownsRow base 4 1 (.slice sf' (fs.length+1) cf') (fs.length+1) (bls fs++[.bool b]))(hg:W.grownBy W' (Value.slice sf fs.length cf).ownBlock){W2:World}(hW2:W2=W'.setCell ⟨o,2,none⟩ (.slice sf' (fs.length+1) cf')):Half base W2 o L S (fs++[b]) t hs sf' cf' sn cn/\∀w0:World,w0.grownBy W (some o)->w0.heap.size<=base->w0.grownBy W2 (some o):=by
 have h0:=zB h.box hg (fun e=>zQ h.ownF h.box (by decide) e);have s1:=heap_setCell_same W' o 2 _ _ (.slice sf' (fs.length+1) cf') h0;have g1:W'.grownBy W2 (some o):=by rw[hW2];exact zC W' ⟨o,2,none⟩ _
 have h1:zX W' 3 o:=⟨_,_,_,h0,by decide⟩;have hN:=h.ownN.kept hg (qEP h.ownN h.ownF (by decide));have hR:=h.rows.kept hg (fun k hk=>.inr (yF h.ownF (by decide) k hk));refine⟨⟨?_,?_,hN.kept g1 (.inr (zQ hN h0 (by decide))),hR.kept g1 (fun k hk=>.inr (by have:=Oj hk;subst this;exact h1))⟩,fun w0 hw0 hb=>?_⟩
 ·rw[hW2,s1];simp
 ·have:=ho.kept g1 (.inr (zQ ho h0 (by decide)))
  rw[List.length_append];simpa [bls] using this
 ·exact zD (zA hw0 hg (fun k hk=>Nat.le_trans hb (h.ownF.lt k hk).1)) g1
theorem Half.pushN {row:List Int}{rv:Value}{sn':Option Addr}{cn':Nat}(h:Half base W o L S fs t hs sf cf sn cn)(ho:W'.ownsRow base 34 1 (.slice sn' (t.length+1) cn') (t.length+1) (hs++[rv]))(hg:W.grownBy W' (Value.slice sn t.length cn).ownBlock)(hrow:W.ownsRow base 3 1 rv row.length (ints row))(hdis:∀i (hi:i<hs.length),∀k,hs[i].ownBlock=some k->rv.ownBlock≠some k){W2:World}(hW2:W2=W'.setCell ⟨o,3,none⟩ (.slice sn' (t.length+1) cn')):Half base W2 o L S fs (t++[row]) (hs++[rv]) sf cf sn' cn'/\∀w0:World,w0.grownBy W (some o)->w0.heap.size<=base->w0.grownBy W2 (some o):=by
 have h0:=zB h.box hg (fun e=>zQ h.ownN h.box (by decide) e);have s1:=heap_setCell_same W' o 3 _ _ (.slice sn' (t.length+1) cn') h0;have g1:W'.grownBy W2 (some o):=by rw[hW2];exact zC W' ⟨o,3,none⟩ _
 have h1:zX W' 3 o:=⟨_,_,_,h0,by decide⟩;have hF:=h.ownF.kept hg (qEP h.ownF h.ownN (by decide));have hR:=(h.rows.snoc hrow hdis).kept hg (fun k hk=>.inr (yF h.ownN (by decide) k hk));refine⟨⟨?_,hF.kept g1 (.inr (zQ hF h0 (by decide))),?_,hR.kept g1 (fun k hk=>.inr (by have:=Oj hk;subst this;exact h1))⟩,fun w0 hw0 hb=>?_⟩
 ·rw[hW2,s1];simp
 ·have:=ho.kept g1 (.inr (zQ ho h0 (by decide)))
  rw[List.length_append];exact this
 ·exact zD (zA hw0 hg (fun k hk=>Nat.le_trans hb (h.ownN.lt k hk).1)) g1
end
def qGA (w w':World)(v:Value)(m:DfaV):Prop:=∃(o:Nat) (hs:List Value) (sf:Option Addr) (cf:Nat) (sn:Option Addr) (cn:Nat),
 v=.agg #[.int .i64 m.letters,.int .i64 m.start,.slice sf m.final.length cf,.slice sn m.next.length cn]/\w.heap.size<=o/\Half w.heap.size w' o m.letters m.start m.final m.next hs sf cf sn cn
theorem Half.base {base base' o:Nat}{W:World}{L S:Int}{fs:List Bool}{t:List (List Int)}{hs:List Value}{sf sn:Option Addr}{cf cn:Nat}(h:Half base W o L S fs t hs sf cf sn cn)(hb:base'<=base):Half base' W o L S fs t hs sf cf sn cn :=
 ⟨h.box,yU h.ownF hb,yU h.ownN hb,⟨h.rows.len,fun i h1 h2=>yU (h.rows.own i h1 h2) hb,h.rows.dis⟩⟩
theorem Half.at {base o:Nat}{W:World}{L S:Int}{fs:List Bool}{t:List (List Int)}{hs:List Value}{sf sn:Option Addr}{cf cn:Nat}(h:Half base W o L S fs t hs sf cf sn cn){q:Nat}(hq:q<t.length)(hp:0<(t.getD q []).length):∃kb g c,sn=some ⟨kb,0,none⟩/\t.length<=cn/\cn<=maxLen/\hs[q]?=some (.slice (some ⟨g,0,none⟩) (t.getD q []).length c)/\W.cell? ⟨kb,q,none⟩=some (.slice (some ⟨g,0,none⟩) (t.getD q []).length c)/\(t.getD q []).length<=c/\c<=maxLen/\base<=g/\Arr W g 3 (ints (t.getD q [])):=by
 obtain⟨kb,rfl,h1,h2,h3⟩:=yG h.ownN (by omega);obtain⟨g,c,h4,h5,h6,h7,h8⟩:=h.rows.at hq hp;obtain⟨h0,he⟩:=List.getElem?_eq_some_iff.1 h4;exact⟨kb,g,c,rfl,h1,h2,h4,by rw[h3.cell q h0,he],h5,h6,h7,h8⟩
theorem Half.poke {base o:Nat}{W:World}{L S:Int}{fs:List Bool}{t:List (List Int)}{hs:List Value}{sf sn:Option Addr}{cf cn:Nat}(h:Half base W o L S fs t hs sf cf sn cn){q g a c n:Nat}(hv:hs[q]?=some (.slice (some ⟨g,0,none⟩) n c))(hA:Arr W g 3 (ints (t.getD q [])))(ha:a<(t.getD q []).length)(x:Int):Half base (W.setCell ⟨g,a,none⟩ (.int .i64 x)) o L S fs (t.set q ((t.getD q []).set a x)) hs sf cf sn cn:=by
 obtain⟨cur,rest,hg,_⟩:=hA;have h0:=zC W ⟨g,a,none⟩ (.int .i64 x);refine⟨?_,h.ownF.kept h0 (.inr (zQ h.ownF hg (by decide))),?_,h.rows.poke hv ha x⟩
 ·rw[List.length_set]
  refine zB h.box h0 (fun e=>?_);have e:g=o:=Oj e;subst e;have:=h.box;rw[hg]at this;simp at this
 ·rw[List.length_set]
  exact h.ownN.kept h0 (.inr (zQ h.ownN hg (by decide)))
theorem Half.move {base o o':Nat}{W:World}{L S L' S':Int}{fs:List Bool}{t:List (List Int)}{hs:List Value}{sf sn:Option Addr}{cf cn:Nat}(h:Half base W o L S fs t hs sf cf sn cn)(hb:W.heap[o']?=some (.cells #[.int .i64 L',.int .i64 S',.slice sf fs.length cf,.slice sn t.length cn] 42 (0,0))):Half base W o' L' S' fs t hs sf cf sn cn:=⟨hb,h.ownF,h.ownN,h.rows⟩
def qN (t:List (List Int))(n k:Nat):Prop:=∀r∈t,r.length=k/\∀x∈r,0<=x/\x<n
theorem qN.set {t:List (List Int)}{n k q a:Nat}{x:Int}(h:qN t n k)(hq:q<t.length)(h0:0<=x)(hx:x<n):qN (t.set q ((t.getD q []).set a x)) n k:=by
 intro r hr;rcases List.mem_or_eq_of_mem_set hr with hr|rfl
 ·exact h r hr
 ·have:=h _ (mG (d:=[]) hq)
  refine⟨by rw[List.length_set];exact this.1,fun y hy=>?_⟩;rcases List.mem_or_eq_of_mem_set hy with hy|rfl
  ·exact this.2 y hy
  ·exact⟨h0,hx⟩
theorem qN.vd {t:List (List Int)}{n k:Nat}{S:Int}{fs:List Bool}(h:qN t n k)(h1:1<=k)(h6:k<=6)(hn:1<=n)(h512:n<=512)(hf:fs.length=n)(ht:t.length=n)(hs0:0<=S)(hs1:S<n):VD ⟨k,S,fs,t⟩ n k:=by
 refine⟨rfl,h1,h6,hf,hn,by omega,ht,hs0,hs1,fun q hq=>?_,fun q a hq ha=>?_,fun q a hq ha=>?_⟩
 ·have h0:q<t.length:=by omega
  exact(h _ (mG h0)).1
 ·have h0:q<t.length:=by omega
  have h:=h (t.getD q []) (mG h0);have h2:a<(t.getD q []).length:=by omega
  exact(h.2 ((t.getD q []).getD a 0) (mG h2)).1
 ·have h0:q<t.length:=by omega
  have h:=h (t.getD q []) (mG h0);have h2:a<(t.getD q []).length:=by omega
  exact(h.2 ((t.getD q []).getD a 0) (mG h2)).2
def qAS (B tb:Nat)(w:World)(letters most:Nat)(e:Ending)(w':World):Prop :=
 ∃(v:Value) (m:DfaV) (n:Nat),e=.returned v/\qGA w w' v m/\VD m n letters/\n<=most/\xL B w' tb/\w.grownBy w' (some tb)
theorem qEY (B tb:Nat)(w:World)(letters most:Nat)(h1:1<=letters)(h6:letters<=6)(hm1:1<=most)(hm:most<=500)(hT:xL B w tb):Calls Try.prog 50 #[.pointer (some ⟨tb,0,none⟩),.int .i64 (letters:Int),.int .i64 (most:Int)] w (qAS B tb w letters most):=by
 have l4:=hT.lt;have o4:=hT.ge;obtain⟨wA,d6⟩:∃wA,wA=(w.alloc (.cells #[.int .i64 0,.int .i64 0,.slice none 0 0,.slice none 0 0] 42)).alloc (.cells #[.int .i64 letters,.int .i64 0,.slice none 0 0,.slice none 0 0] 42):=⟨_,rfl⟩;obtain⟨a8,b8,b4,f9⟩:=sZ w #[.int .i64 0,.int .i64 0,.slice none 0 0,.slice none 0 0] #[.int .i64 letters,.int .i64 0,.slice none 0 0,.slice none 0 0] 42;rw[<-d6]at a8 b8 b4 f9;obtain⟨P,hP⟩:∃P,P=w.heap.size:=⟨_,rfl⟩;have h8:=Kh hP;rw[<-hP]at a8 b8 f9 l4;have j1:=hT.kept b4 (by simp);have n7:=Kh a8;have n6:=Kh b8;have n2:=Kh b4;have m3:=Kh d6;have m5:=Kh j1;clear a8 b8 b4 d6 j1 hT;go_enter Try.func50,Try.ntmps50;go_upto_region 2 with fail;rw[<-m3.out,<-h8.out];clear hP;go_wp2_with fail;refine(wW B tb _ _ (by omega) m5.out).mono ?_;rintro e w1 ⟨r,rfl,l6,c8,j5,i4⟩;replace c8:=c8 (by omega);obtain⟨n,rfl⟩:∃n:Nat,r=(n:Int)-1:=⟨(r+1).toNat,by omega⟩;have l8:1<=n:=by omega
 have l7:n<=most:=by omega
 have l9:(1:Int)+((n:Int)-1)=n:=by omega
 have k0:=Kh j5;have k5:=Kh i4;have o5:=Kh l9;clear l6 c8 j5 i4;go_wp2_with fail;refine(wW B tb _ _ (by omega) k0.out).mono ?_;rintro e w2 ⟨s,rfl,l5,c7,j4,i3⟩;replace c7:=c7 (by omega);obtain⟨s,rfl⟩:∃s':Nat,s=s':=⟨s.toNat,by omega⟩;have H4:=zD k5.out i3;have b7:=zB n6.out H4 (by simp;omega);obtain⟨c0,c1,c2,c3⟩:=zF b7;have f1:=frozen_of_row w2 (P+1) 1 _ _ b7;have j9:=Kh j4;have f5:=Kh H4;clear j4 i3 H4 k0 k5;go_wp2;obtain⟨w3,b2⟩:∃w3,w3=w2.setCell ⟨P+1,1,none⟩ (.int .i64 (s:Int)):=⟨_,rfl⟩;have i6:w3.heap[P+1]?=some (.cells #[.int .i64 (letters:Int),.int .i64 (s:Int),.slice none 0 0,.slice none 0 0] 42 (0,0)):=by rw[b2,heap_setCell_same w2 (P+1) 1 _ _ _ b7];simp
 have b6:w2.grownBy w3 (some (P+1)):=by rw[b2];exact zC w2 ⟨P+1,1,none⟩ _
 have a6:=zB (zB n7.out f5.out (by simp;omega)) b6 (by simp);have j3:=j9.out.kept b6 (fun k e=>by have:=Oj e;subst this;omega);have i0:w.grownBy w3 (some tb):=zA (zD (zA (zH w (some tb)) n2.out (by simp)) f5.out) b6 (fun x e=>by have:=Oj e;have:=h8.out;omega);have j6:Half (P+1) w3 (P+1) letters s [] [] [] none 0 none 0:=⟨i6,World.ownsRow_nil _ _ _ _,World.ownsRow_nil _ _ _ _,OwnsT.nil⟩;have H3:=Kh j6;have k8:=Kh a6;have j8:=Kh j3;have k4:=Kh i0;rw[<-b2];clear b2 i6 b6 a6 j3 i0 j6 c0 c1 c2 c3 f1 b7 j9 f5
 go_loopg [9,10,11] n (fun gh i v10 v11 wr=>∃(q:Nat) (fs:List Bool) (t:List (List Int)) (hs:List Value) (sf:Option Addr) (cf:Nat) (sn:Option Addr) (cn:Nat),gh+q=n/\i=.int .i64 q/\fs.length=q/\t.length=q/\qN t n letters/\Half (P+1) wr (P+1) letters s fs t hs sf cf sn cn/\xL B wr tb/\wr.heap[P]?=some (.cells #[.int .i64 0,.int .i64 0,.slice none 0 0,.slice none 0 0] 42 (0,0))/\w.grownBy wr (some tb))
 case atStart=>exact⟨0,[],[],[],none,0,none,0,by omega,rfl,rfl,rfl,(fun r hr=>by simp at hr),H3.out,j8.out,k8.out,k4.out⟩
 case round =>
  obtain⟨q,fs,t,hs,sf,cf,sn,cn,hg,rfl,rfl,H7,g6,hH,i9,a7,i1⟩:=hrel;have HG:=Kh hg;have HH:=Kh hH;have c4:=Kh i9;have h0:=Kh a7;have e9:=Kh i1;have k1:=Kh g6;clear hg hH i9 a7 i1 g6 H3 k8 j8 k4;by_cases hq:fs.length<n
  ·have o1:(fs.length:Int)<n:=by omega
   obtain⟨w5,c6⟩:∃w5,w5=wr.drew:=⟨_,rfl⟩;have a3:wr.grownBy w5 none:=(by rw[c6];exact zO wr none);have j7:=Kh c6;have e8:=Kh (HH.out.grow a3);have e4:=Kh (c4.out.kept a3 (by simp));have k3:=Kh (zA e9.out a3 (by simp));have k7:=Kh (zB h0.out a3 (by simp));obtain⟨d0,d1,d2,d3⟩:=zF e8.out.box;have C2:=Kh d2;clear c6 a3 d0 d1 d2 d3 HH c4 e9 h0;go_upto_region 7 with fail;refine wp_region_noPanic ?_;refine yY (G:=uI 8 (fun _=>True) (fun W=>W.cell? ⟨P+1,2,none⟩=some (.slice sf fs.length cf))) (by kernel_rfl) ?_;rw[<-j7.out];refine zV 0 ⟨trivial,fun _=>C2.out⟩ ?_;refine uA 1 ⟨trivial,fun _=>C2.out⟩ ?_;refine zV 2 ⟨trivial,fun _=>C2.out⟩ ?_;refine oneG (i:=3) (by kernel_rfl) rfl (fun K hK=>?_);go_simp
   go_at_call 15
   refine(wW B tb _ _ (by omega) e4.out).mono ?_;rintro e w6 ⟨b,rfl,o2,a8,j2,b5⟩;have b9:=e8.out.tape e4.out b5;obtain⟨d0,d1,d2,d3⟩:=zF b9.box;have C2:=Kh d2;refine hK.out _ _ ⟨trivial,fun _=>C2.out⟩ ?_;clear hK K d0 d1 d2 d3
   try simp only[Act.put,sPa,sPb,sPc]
   refine zV 4 ⟨trivial,fun _=>C2.out⟩ ?_;refine oneG (i:=5) (by kernel_rfl) rfl (fun K hK=>?_);go_simp;have h7:=b9.grow (Ga w6 (.cells #[.bool (decide (b=1))] 4) none);have i2:=heap_alloc_new w6 (.cells #[.bool (decide (b=1))] 4);obtain⟨d0,d1,d2,d3⟩:=zF h7.box;refine hK.out _ _ ⟨trivial,fun _=>d2⟩ ?_;clear hK K d0 d1 d2 d3
   try simp only[Act.put,sPa,sPb,sPc]
   have n9:P+2<=w6.heap.size:=by have:=zK b9.box;omega
   refine oneG (i:=6) (by kernel_rfl) rfl (fun K hK=>?_);refine pT rfl (.tmp 28) (.tmp 32) 39 rfl xJ (P+1) _ _ _ rfl h7.ownF _ _ _ rfl i2 rfl ?g1 ?g2 ?g3 ?_
   case g1=>unfold maxLen;omega
   case g2=>omega
   case g3=>rw[zL];omega
   intro sa' sc' w8 H1 H8;have H6:=zB h7.box H8 (fun e=>zQ h7.ownF h7.box (by decide) e);obtain⟨d0,d1,d2,d3⟩:=zF H6;have f2:=zE H6 2;refine hK.out _ _ ⟨trivial,fun _=>d2⟩ ?_;clear hK K
   try simp only[Act.put,sPa,sPb,sPc]
   have C2:=Kh d2;refine zV 7 ⟨trivial,fun _=>C2.out⟩ ?_;refine oneG (i:=8) (by kernel_rfl) rfl (fun K hK=>?_);go_simp;refine hK.out _ _ ⟨trivial,fun h=>by simp at h⟩ ?_;clear hK K d0 d1 d2 d3 f2 H6
   try simp only[Act.put,sPa,sPb,sPc]
   refine rP (by kernel_rfl) ?_ _;refine NoPanic.normal ?_;obtain⟨hF,m2⟩:=h7.pushF H1 H8 rfl;have d7:=((j2.kept (Ga w6 (.cells #[.bool (decide (b=1))] 4) none) (by simp)).kept H8 (fun k e=>by have:=(h7.ownF.lt k e).1;omega)).kept (zC w8 ⟨P+1,2,none⟩ (.slice sa' (fs.length+1) sc')) (fun k e=>by have e:P+1=k:=Oj e;omega);have d5:=zB (zB (zB (zB k7.out b5 (by simp;omega)) (Ga w6 (.cells #[.bool (decide (b=1))] 4) none) (by simp)) H8 (fun e=>by have:=(h7.ownF.lt _ e).1;omega)) (zC w8 ⟨P+1,2,none⟩ (.slice sa' (fs.length+1) sc')) (by simp);have d4:w.grownBy (w8.setCell ⟨P+1,2,none⟩ (.slice sa' (fs.length+1) sc')) (some tb):=zA (zA (zA (zD k3.out b5) (Ga w6 (.cells #[.bool (decide (b=1))] 4) none) (by simp)) H8 (fun k e=>by have:=(h7.ownF.lt k e).1;have:=h8.out;omega)) (zC w8 ⟨P+1,2,none⟩ (.slice sa' (fs.length+1) sc')) (fun k e=>by have e:P+1=k:=Oj e;have:=h8.out;omega);obtain⟨w9,g0⟩:∃w9,w9=w8.setCell ⟨P+1,2,none⟩ (.slice sa' (fs.length+1) sc'):=⟨_,rfl⟩;rw[<-g0]at hF d7 d5 d4⊢;have HF:=Kh hF;have b0:=Kh d7;have k6:=Kh d5;have k2:=Kh d4;clear g0 m2 hF d7 d5 d4 H1 H8 i2 h7 b9 j2 b5 C2 e8 e4 k3 k7 j7;go_wp2
   go_loopg [10,11] letters (fun gh ov i wx=>∃(a:Nat) (row:List Int) (sr:Option Addr) (cr:Nat),gh+a=letters/\i=.int .i64 a/\row.length=a/\ov=.slice sr row.length cr/\(∀x∈row,0<=x/\x<n)/\wx.ownsRow w9.heap.size 3 1 (.slice sr row.length cr) row.length (ints row)/\xL B wx tb/\w9.grownBy wx (some tb))
   case atStart=>exact⟨0,[],none,0,by omega,rfl,rfl,rfl,(fun x hx=>by simp at hx),World.ownsRow_nil _ _ _ _,b0.out,zH _ _⟩
   case round =>
    obtain⟨a,row,sr,cr,hg,rfl,rfl,rfl,g5,a1,i8,g9⟩:=hrel;have b1:=Kh hg;have h9:=Kh a1;have d8:=Kh i8;have H9:=Kh g9;clear hg a1 i8 g9;by_cases ha:row.length<letters
    ·have o3:(row.length:Int)<letters:=by omega
     have o0:=d8.out.lt;go_wp2_with fail;refine(wW B tb _ _ (by omega) d8.out).mono ?_;rintro e wy ⟨x,rfl,l2,c5,i7,b3⟩;replace c5:=c5 (by omega);have l0:tb<w9.heap.size:=b0.out.lt;have H0:=zY h9.out b3 (by simpa using l0);have k9:=(zD H9.out b3).size;have e6:=Kh H0;have m4:=Kh i7;have m9:=Kh (zD H9.out b3);clear H0 i7 b3;go_wp2_with (first|(at_builtin;refine app1 rfl _ _ _ rfl yP w9.heap.size _ row.length (ints row) rfl e6.out _ rfl rfl ?c1 ?c2 ?c3 ?_)|fail)
     case c1=>unfold maxLen;omega
     case c2=>omega
     case c3=>exact k9
     intro sr' cr' w10 h5 H5 g8;have e7:=Kh h5;have e5:=Kh (m4.out.kept H5 (fun k e=>by have:=(e6.out.lt k e).1;omega));have f6:=Kh (zA m9.out H5 (fun k e=>(e6.out.lt k e).1));clear h5 H5;go_wp2;go_roundg (letters-(row.length+1))
     case measure=>have:=b1.out;omega
     case rel =>
      refine⟨row.length+1,row++[x],sr',cr',by omega,by go_num,by simp,by simp,?_,?_,e5.out,f6.out⟩
      ·intro y hy
       rcases List.mem_append.1 hy with hy|hy
       ·exact g5 y hy
       ·rw[List.mem_singleton]at hy;subst hy;exact⟨l2,c5⟩
      ·rw[show ints (row++[x])=ints row++[.int .i64 x] by simp[ints],List.length_append,List.length_singleton]
       exact e7.out
    ·have g4:row.length=letters:=by have:=b1.out;omega
     have hH:=HF.out.tape b0.out H9.out;have l1:P+1<=w9.heap.size:=Nat.le_of_lt (zK HF.out.box);have a0:=yU h9.out l1
     have a5:∀i (hi:i<hs.length),∀k,hs[i].ownBlock=some k->(Value.slice sr row.length cr).ownBlock≠some k:=fun i hi k hk e=>by
      have h1:=(HF.out.rows.lt hi hk).2;have h2:=(h9.out.lt k e).1;omega
     have f7:=Kh a5;obtain⟨d0,d1,d2,d3⟩:=zF hH.box;have n8:=zK hH.box;have m0:=b0.out.lt;have H2:=Kh hH;have m6:=Kh a0;have m7:=Kh g4;have n0:=Kh (zD k2.out H9.out);have n4:=Kh (zB k6.out H9.out (by simp;omega));clear hH a0 g4 a5 d0 d1 d2 h9 H9 HF b0 k2 k6;have m8:=Kh H2.out.ownN;have a9:=Kh H7;clear H7;go_wp2_with (first|(at_builtin;refine app1 rfl _ _ _ rfl vU (P+1) _ t.length hs rfl m8.out _ rfl rfl ?c1 ?c2 ?c3 ?_)|fail)
     case c1=>have:=a9.out;unfold maxLen;omega
     case c2=>have:=a9.out;omega
     case c3=>omega
     intro sn' cn' w11 h4 h3 g7;have H6:=zB H2.out.box h3 (fun e=>zQ H2.out.ownN H2.out.box (by decide) e);obtain⟨d0,d1,d2,d3⟩:=zF H6;have f2:=zE H6 3;obtain⟨hN,m1⟩:=H2.out.pushN h4 h3 m6.out f7.out rfl;have j0:=(d8.out.kept h3 (fun k e=>by have:=(H2.out.ownN.lt k e).1;omega)).kept (zC w11 ⟨P+1,3,none⟩ (.slice sn' (t.length+1) cn')) (fun k e=>by have e:P+1=k:=Oj e;omega);have i5:=zB (zB n4.out h3 (fun e=>by have:=(H2.out.ownN.lt _ e).1;omega)) (zC w11 ⟨P+1,3,none⟩ (.slice sn' (t.length+1) cn')) (by simp);have a2:w.grownBy (w11.setCell ⟨P+1,3,none⟩ (.slice sn' (t.length+1) cn')) (some tb):=zA (zA n0.out h3 (fun k e=>by have:=(H2.out.ownN.lt k e).1;have:=h8.out;omega)) (zC w11 ⟨P+1,3,none⟩ (.slice sn' (t.length+1) cn')) (fun k e=>by have e:P+1=k:=Oj e;have:=h8.out;omega);have n1:=Kh hN;have d9:=Kh j0;have f8:=Kh i5;have f4:=Kh a2;clear m1 H6 hN j0 i5 a2 h4 h3;go_wp2;go_roundg (n-(fs.length+1))
     case measure=>have:=HG.out;omega
     case rel =>
      refine⟨fs.length+1,fs++[decide (b=1)],t++[row],_,sa',sc',sn',cn',by omega,by go_num,by simp,by simp[a9.out],?_,n1.out,d9.out,f8.out,f4.out⟩;intro r hr;rcases List.mem_append.1 hr with hr|hr
      ·exact k1.out r hr
      ·rw[List.mem_singleton]at hr;subst hr;exact⟨m7.out,g5⟩
  ·have a4:fs.length=n:=by have:=HG.out;omega
   have hB:=HH.out;have n3:=Kh a4;have n5:=Kh hB;obtain⟨d0,d1,d2,d3⟩:=zF HH.out.box;obtain⟨e0,e1,e2,e3⟩:=zF h0.out;have f0:=zE h0.out 0;have f1:=zE h0.out 1;have f2:=zE h0.out 2;have f3:=zE h0.out 3;have a9:=Kh H7;clear hB a4 H7;go_wp2;refine bodyPost_ret (v:=.agg #[.int .i64 letters,.int .i64 s,.slice sf fs.length cf,.slice sn t.length cn]) (by simp[results,Try.results50,go_sem,e0,e1,e2,e3]) rfl ?_;obtain⟨hsR,c9⟩:=wF h0.out (.int .i64 letters) (.int .i64 s) (.slice sf fs.length cf) (.slice sn t.length cn);have l3:=c4.out.lt;have a4:=n3.out;have H7:=a9.out;refine⟨_,⟨letters,s,fs,t⟩,n,rfl,⟨P+1,hs,sf,cf,sn,cn,rfl,by have:=h8.out;omega,(n5.out.base (by have:=h8.out;omega)).far c9 h0.out (by omega)⟩,k1.out.vd h1 h6 l8 (by omega) a4 (H7.trans a4) l5 c7,l7,c4.out.kept c9 (fun k e=>by have e:P=k:=Oj e;omega),zA e9.out c9 (fun k e=>by have e:P=k:=Oj e;have:=h8.out;omega)⟩
def jT (R:DfaV->Nat->Prop)(B tb:Nat)(w:World)(letters most:Nat)(e:Ending)(w':World):Prop :=
 ∃(v:Value) (m:DfaV) (n:Nat),e=.returned v/\qGA w w' v m/\VD m n letters/\n<=most/\R m n/\xL B w' tb/\w.grownBy w' (some tb)
def qGF (t:List (List Int))(k q a:Nat):Prop:=∀q' a',a'<k->(q'<q\/(q'=q/\a'<a))->(q':Int)<=ent t q' a'
def OrdD (m:DfaV)(n:Nat):Prop:=m.start=0/\∀k:Nat,m.letters=k->qGF m.next k n 0
theorem lD {t:List (List Int)}{q a q' a':Nat}{x:Int}(hq:q<t.length)(ha:a<(t.getD q []).length):ent (t.set q ((t.getD q []).set a x)) q' a'=if q'=q/\a'=a then x else ent t q' a':=by
 unfold ent;by_cases h:q'=q
 ·subst h
  rw[eP _ _ _ _ hq];by_cases h2:a'=a
  ·subst h2;rw[eP _ _ _ _ ha];simp
  ·rw[getD_set_ne _ _ _ _ _ (Ne.symm h2)];simp[h2]
 ·rw[getD_set_ne _ _ _ _ _ (Ne.symm h)];simp[h]
theorem qGF.step {t:List (List Int)}{k q a:Nat}{x:Int}(h:qGF t k q a)(hq:q<t.length)(ha:a<(t.getD q []).length)(hx:(q:Int)<=x):qGF (t.set q ((t.getD q []).set a x)) k q (a+1):=by
 intro q' a' h1 h2;rw[lD hq ha]
 split
 ·rename_i h3;rw[h3.1];exact hx
 ·rename_i h3
  refine h q' a' h1 ?_;rcases h2 with h2|⟨h2,h4⟩
  ·exact .inl h2
  ·exact .inr ⟨h2,by
    rcases Nat.lt_or_ge a' a with h5|h5
    ·exact h5
    ·exact absurd ⟨h2,by omega⟩ h3⟩
theorem qN.ent {t:List (List Int)}{n k q a:Nat}(h:qN t n k)(hq:q<t.length)(ha:a<k):0<=ent t q a/\ent t q a<n:=by
 have h:=h (t.getD q []) (mG hq);have h0:a<(t.getD q []).length:=by omega
 exact h.2 ((t.getD q []).getD a 0) (mG h0)
theorem Half.start {base o:Nat}{W:World}{L S:Int}{fs:List Bool}{t:List (List Int)}{hs:List Value}{sf sn:Option Addr}{cf cn:Nat}(h:Half base W o L S fs t hs sf cf sn cn)(S':Int):Half base (W.setCell ⟨o,1,none⟩ (.int .i64 S')) o L S' fs t hs sf cf sn cn:=by
 have h0:=zC W ⟨o,1,none⟩ (.int .i64 S');have s1:=heap_setCell_same W o 1 _ _ (.int .i64 S') h.box;refine⟨by rw[s1];simp,h.ownF.kept h0 (.inr (zQ h.ownF h.box (by decide))),h.ownN.kept h0 (.inr (zQ h.ownN h.box (by decide))),h.rows.kept h0 (fun k e=>.inr ?_)⟩;have e:o=k:=Oj e;subst e;exact⟨_,_,_,h.box,by decide⟩
theorem mord_any (B tb:Nat)(w:World)(letters most:Nat)(h1:1<=letters)(h6:letters<=6)(hm1:1<=most)(hm:most<=500)(hT:xL B w tb):Calls Try.prog 47 #[.pointer (some ⟨tb,0,none⟩),.int .i64 (letters:Int),.int .i64 (most:Int)] w (jT OrdD B tb w letters most):=by
 have f5:=hT.lt;have i2:=hT.ge;obtain⟨P,hP⟩:∃P,P=w.heap.size:=⟨_,rfl⟩;have H6:=Kh hP;obtain⟨wA,b5⟩:∃wA,wA=w.alloc (.cells #[.int .i64 0,.int .i64 0,.slice none 0 0,.slice none 0 0] 42):=⟨_,rfl⟩;have a7:=heap_alloc_new w (.cells #[.int .i64 0,.int .i64 0,.slice none 0 0,.slice none 0 0] 42);have a5:=Ga w (.cells #[.int .i64 0,.int .i64 0,.slice none 0 0,.slice none 0 0] 42) none;have b8:=zL w (.cells #[.int .i64 0,.int .i64 0,.slice none 0 0,.slice none 0 0] 42);rw[<-b5]at a7 a5 b8;rw[<-hP]at a7 b8 f5;have c6:=Kh (hT.kept a5 (by simp));have f0:=Kh a7;have g2:=Kh a5;have g1:=Kh b5;have HD:=Kh (qEY B tb wA letters most h1 h6 hm1 hm c6.out);clear a7 a5 b5 hT;go_enter Try.func47,Try.ntmps47;go_upto_region 1 with fail;rw[<-g1.out,<-H6.out];clear hP;go_wp2_with fail;refine HD.out.mono ?_;rintro e w1 ⟨v,⟨L,S,fs,t⟩,n,rfl,b1,h5,f7,c4,a6⟩;obtain⟨o,hs,sf,cf,sn,cn,rfl,ho,hH⟩:=b1;have hL:L=letters:=h5.hk;subst hL;have c2:fs.length=n:=h5.hn;have h3:t.length=n:=h5.nl
 have h0:qN t n letters:=fun r hr=>by
  obtain⟨q,hq,rfl⟩:=List.getElem_of_mem hr;have e:t.getD q []=t[q]:=by simp[List.getD_eq_getElem?_getD,hq]
  have hl:t[q].length=letters:=by rw[<-e];exact h5.row q (by omega)
  refine⟨hl,fun x hx=>?_⟩;obtain⟨a,ha,rfl⟩:=List.getElem_of_mem hx;have e2:ent t q a=t[q][a]:=by unfold Proofs.Ytjfdomfendbhfaa.ent;rw[e];simp[List.getD_eq_getElem?_getD,ha]
  rw[<-e2];exact⟨h5.lo q a (by omega) (by omega),h5.hi q a (by omega) (by omega)⟩
 have f8:=h5.n1;have g5:=h5.nbig;have d9:=Kh a6;have c8:=Kh c4;have HH:=Kh hH;have d4:=Kh h0;have b7:=Kh h3;have e9:=Kh c2;have f3:=Kh (zB f0.out a6 (by simp;omega));have HO:=Kh ho;have g3:=a6.size;clear a6 c4 hH h0 h5 ho HD c6 f0;go_upto_region 2 with fail;obtain⟨Q,hQ⟩:∃Q,Q=w1.heap.size:=⟨_,rfl⟩;have H5:=Ga w1 (.cells #[.int .i64 letters,.int .i64 S,.slice sf n cf,.slice sn n cn] 42) none;have H9:=heap_alloc_new w1 (.cells #[.int .i64 letters,.int .i64 S,.slice sf n cf,.slice sn n cn] 42);obtain⟨w2,c1⟩:∃w2,w2=w1.alloc (.cells #[.int .i64 letters,.int .i64 S,.slice sf n cf,.slice sn n cn] 42):=⟨_,rfl⟩;rw[<-c1]at H9 H5⊢;rw[<-hQ]at H9⊢;have c5:=(HH.out.grow H5).move (L':=letters) (S':=S) (o':=Q) (by rw[e9.out,b7.out];exact H9);have d6:=Kh c5;have f2:=Kh (zB f3.out H5 (by simp));have c7:=Kh (c8.out.kept H5 (by simp));have d8:=Kh (zA (zD (zA (zH w (some tb)) g2.out (by simp)) d9.out) H5 (by simp));obtain⟨d0,d1,d2,d3⟩:=zF H9;have b6:P<Q:=by omega
 clear H5 H9 c1 c5 HH f3 c8 d9 d0 d1 d2 h3 c2;have HQ:=Kh hQ;clear hQ;go_wp2
 go_loopg [8,9,10,18] n (fun gh v8 v9 v10 i wr=>∃(q:Nat) (t:List (List Int)),gh+q=n/\i=.int .i64 q/\t.length=n/\qN t n letters/\qGF t letters q 0/\Half wA.heap.size wr Q letters S fs t hs sf cf sn cn/\xL B wr tb/\wr.heap[P]?=some (.cells #[.int .i64 0,.int .i64 0,.slice none 0 0,.slice none 0 0] 42 (0,0))/\w.grownBy wr (some tb))
 case atStart=>exact⟨0,t,by omega,rfl,b7.out,d4.out,fun q' a' _ h=>by omega,d6.out,c7.out,f2.out,d8.out⟩
 case round =>
  obtain⟨q,t,hg,rfl,h3,h0,h4,hH,a0,H8,H7⟩:=hrel;have HG:=Kh hg;have HH:=Kh hH;have a8:=Kh a0;have h8:=Kh H8;have a9:=Kh H7;have H2:=Kh h0;have H3:=Kh h4;have H1:=Kh h3;clear hg a0 H8 H7 d8 c7 f2 d6 d4 b7 h4;by_cases hq:q<n
  ·have g4:(q:Int)<n:=by omega
   have H4:(t.getD q []).length=letters:=(h0 _ (mG (by omega))).1;obtain⟨kb,g,c,rfl,e1,e2,e3,e4,e5,e6,e7,e8⟩:=hH.at (q:=q) (by omega) (by omega);obtain⟨d0,d1,d2,d3⟩:=zF hH.box;rw[H4]at e3 e4 e5;rw[h3]at d3 e1;have E3:=Kh e3;have E2:=Kh e2;have E6:=Kh e6;have E7:=Kh e7;have g9:cn<=9223372036854775807:=by unfold maxLen at e2;omega
   have hc:c<=9223372036854775807:=by unfold maxLen at e6;omega
   clear d0 d1 d2 e8 e3 e2 e6 H4 h0 h3 hH;go_wp2;obtain⟨wo,c0⟩:∃wo,wo=wr:=⟨_,rfl⟩;rw[<-c0]at HH a8 h8 a9⊢;clear d3 e4 c0 wr
   go_loopg [9,10,27] letters (fun gh v9 v10 i wx=>∃(a:Nat) (t':List (List Int)),gh+a=letters/\i=.int .i64 a/\t'.length=n/\qN t' n letters/\qGF t' letters q a/\Half wA.heap.size wx Q letters S fs t' hs sf cf (some ⟨kb,0,none⟩) cn/\xL B wx tb/\wx.heap[P]?=some (.cells #[.int .i64 0,.int .i64 0,.slice none 0 0,.slice none 0 0] 42 (0,0))/\w.grownBy wx (some tb))
   case atStart=>exact⟨0,t,by omega,rfl,H1.out,H2.out,H3.out,HH.out,a8.out,h8.out,a9.out⟩
   case round =>
    obtain⟨a,t',hg,rfl,h3,h0,h4,hH,a0,H8,H7⟩:=hrel;have d7:=Kh hg;have d5:=Kh hH;have a1:=Kh a0;have a4:=Kh H8;have a3:=Kh H7;have a2:=Kh h0;have H0:=Kh h4;have h7:=Kh h3;clear hg a0 H8 H7 a9 a8 h8 HH H2 H1 H3 h4;by_cases ha:a<letters
    ·have i1:(a:Int)<letters:=by omega
     have H4:(t'.getD q []).length=letters:=(h0 _ (mG (by omega))).1;obtain⟨kb',g',c',e0,e1',e2,e3,e4,e5',e6,e7',e8⟩:=hH.at (q:=q) (by omega) (by omega);have e0:kb=kb':=by simpa using e0
     subst e0;rw[H4]at e3 e4 e5';rw[E3.out]at e3;simp only[Option.some.injEq,Value.slice.injEq,Addr.mk.injEq,and_true,true_and]at e3;obtain⟨rfl,rfl⟩:=e3;obtain⟨d0,d1,d2,d3⟩:=zF hH.box;rw[h3]at d3 e1';have h9:=e8.int a (by omega);have g8:=e8.frozen a;have f9:=h0.ent (q:=q) (a:=a) (by omega) ha;have hx:(t'.getD q []).getD a 0=ent t' q a:=rfl;rw[hx]at h9;obtain⟨x,b9⟩:∃x,x=ent t' q a:=⟨_,rfl⟩;rw[<-b9]at h9 f9;obtain⟨x,rfl⟩:∃y:Nat,x=y:=⟨x.toNat,by omega⟩;have E8:=Kh e8;have c9:=Kh H4;clear d0 d1 d2 e8 e2 e6 H4 h0 h3 hH hx b9;go_wp2
     all_goals
      go_roundg (letters-(a+1))
      case measure=>have:=d7.out;omega
      case rel =>
       obtain⟨y,hy⟩:∃y:Int,y=max (q:Int) (x:Int):=⟨_,rfl⟩
       first
       |
        have b0:(x:Int)=y:=by omega
        rw[b0]
       |
        have b0:(q:Int)=y:=by omega
        rw[b0]
       | rw[<-hy]
       have b4:=zC wr ⟨g,a,none⟩ (.int .i64 y);have g6:P<g:=(by omega);have g7:w.heap.size<=g:=by have:=H6.out;omega
       have f4:tb≠g:=(by omega);refine⟨a+1,t'.set q ((t'.getD q []).set a y),by omega,by go_num,by rw[List.length_set];exact h7.out,a2.out.set (by have:=h7.out;omega) (by omega) (by omega),H0.out.step (by have:=h7.out;omega) (by have:=c9.out;omega) (by omega),d5.out.poke E3.out E8.out (by have:=c9.out;omega) _,a1.out.kept b4 (fun k e=>by have e:g=k:=Oj e;omega),zB a4.out b4 (fun e=>by have e:g=P:=Oj e;omega),zA a3.out b4 (fun k e=>by have e:g=k:=Oj e;omega)⟩
    ·have i0:a=letters:=by have:=d7.out;omega
     clear h0 h3 hH;go_wp2;go_roundg (n-(q+1))
     case measure=>have:=HG.out;omega
     case rel =>
      refine⟨q+1,t',by omega,by go_num,h7.out,a2.out,fun q' a' h1 h2=>H0.out q' a' h1 (by omega),d5.out,a1.out,a4.out,a3.out⟩
  ·have f6:q=n:=by have:=HG.out;omega
   obtain⟨d0,d1,d2,d3⟩:=zF hH.box;obtain⟨x0,x1,x2,x3⟩:=zF h8.out;have f1:=zE hH.box 1;have y0:=zE h8.out 0;have y1:=zE h8.out 1;have y2:=zE h8.out 2;have y3:=zE h8.out 3;clear h0 h3 hH;go_wp2;refine bodyPost_ret (v:=.agg #[.int .i64 letters,.int .i64 0,.slice sf fs.length cf,.slice sn t.length cn]) (by simp[results,Try.results47,go_sem,x0,x1,x2,x3,b6,Nat.ne_of_lt b6,Nat.ne_of_gt b6]) rfl ?_;have g0:=HH.out.start 0;have b3:=zC wr ⟨Q,1,none⟩ (.int .i64 0);have c3:=zB h8.out b3 (fun e=>by have e:Q=P:=Oj e;omega);obtain⟨hsR,b2⟩:=wF c3 (.int .i64 letters) (.int .i64 0) (.slice sf fs.length cf) (.slice sn t.length cn);refine⟨_,⟨letters,0,fs,t⟩,n,rfl,⟨Q,hs,sf,cf,sn,cn,rfl,by have:=H6.out;omega,(g0.base (by have:=H6.out;omega)).far b2 c3 (by omega)⟩,H2.out.vd h1 h6 f8 (by omega) e9.out H1.out (by omega) (by omega),f7,⟨rfl,fun k hk=>?_⟩,(a8.out.kept b3 (fun k e=>by have e:Q=k:=Oj e;omega)).kept b2 (fun k e=>by have e:P=k:=Oj e;omega),zA (zA a9.out b3 (fun k e=>by have e:Q=k:=Oj e;have:=H6.out;omega)) b2 (fun k e=>by have e:P=k:=Oj e;have:=H6.out;omega)⟩;have hk:letters=k:=Int.ofNat.inj hk;subst hk;subst f6;exact H3.out
theorem mk_int (n:Nat)(h:n<=4096):∀w:World,(Instr.makeSlice 34 (.int .i64 (n:Int)) (.int .i64 (n:Int))).run Try.prog w=.ok (.slice (some ⟨w.heap.size,0,none⟩) n n) (w.alloc (.cells (madeCells #[.int .i64 0] n) 3)) :=
 fun w=>run_make_row' 34 3 (.int .i64 0) 8 Try.underlying34 (by kernel_rfl) rfl .i64 .i64 n (by omega) (by omega) w
theorem made_int (n:Nat):(madeCells #[.int .i64 0] n).toList=nats (List.replicate n 0):=by
 have:=mE (z:=.int .i64 0) rfl n;rw[Nat.mul_one]at this;rw[xI];exact this
end Go.Proofs.Ytjfdomfendbhfaa
