/- Part 8 of the proof: MadeWord, Lex, Repeat, TRows, MadePat, Words, Pieces, PatsUp. -/
import Derived.Test.YtjfdomfendbhfaaQe7
import Derived.Lib.MakeNoZero
import Derived.Lib.SlBuf
import Derived.Deep.RegionLaw
import Derived.Laws.Externs
import Derived.Deep.LoopGhost
set_option linter.unusedVariables false
set_option linter.unusedSimpArgs false
namespace Go.Proofs.Ytjfdomfendbhfaa
open Go.RowKit
theorem fU:ElemOk Try.prog 106 5 (.int .u8 0) 1:=⟨Try.underlying106,by kernel_rfl,rfl⟩
def qQ (letters:Int) (n:Int):Prop:=97<=n/\n < 97+letters
def Worded (B tb:Nat) (w:World) (letters most:Int) (e:Ending) (w':World):Prop :=
 ∃ l:List Int,e=.returned (.string (strOfNums l))/\(l.length:Int)<=most/\(∀ n∈l,qQ letters n)/\xB B w' tb/\w.grownBy w' (some tb)
set_option maxRecDepth 100000 in
set_option maxHeartbeats 400000 in
theorem gM (B tb:Nat) (w:World) (letters most:Int) (h1:1<=letters) (h6:letters<=6) (h0:0<=most) (hm:most<=1000) (hT:xB B w tb) :
  Calls Try.prog 27 #[.pointer (some ⟨tb,0,none⟩),.int .i64 letters,.int .i64 most] w (Worded B tb w letters most):=by
 have H8:=hT.lt
 go_enter Try.func27,Try.ntmps27
 go_wp2_with fail
 refine(uK B tb _ _ (by omega) hT).mono ?_
 rintro e w1 ⟨r,rfl,H3,H2,H7,H6⟩
 replace H2:=H2 (by omega)
 go_wp2
 go_loopw [7,8] (fun v i wr=>∃ (sa:Option Addr) (sc:Nat) (l:List Int) (r:Int),v=.slice sa l.length sc/\i=.int .i64 r/\0<=r/\(l.length:Int)+r<=most/\wr.ownsRow w.heap.size 5 1 (.slice sa l.length sc) l.length (l.map (Value.int .u8))/\(∀ n∈l,qQ letters n)/\xB B wr tb/\w.grownBy wr (some tb))
  (fun _ i _=>(intOf i).toNat)
 case atStart=>exact⟨none,0,[],r,rfl,rfl,H3,by simp;omega,World.ownsRow_nil _ _ _ _,by simp,H7,H6⟩
 case round =>
  clear H7 H6
  obtain⟨sa,sc,l,r,rfl,rfl,H3,a5,h4,H4,h9,h7⟩:=hrel
  have a4:=h7.size
  by_cases hp:0 < r
  ·go_wp2_with fail
   refine(uK B tb _ _ (by omega) h9).mono ?_
   rintro e w2 ⟨x,rfl,a3,H0,a2,h8⟩
   replace H0:=H0 (by omega)
   have h2:=wD h4 h8 (by simpa using H8)
   have H9:=h8.size
   go_wp2_with (at_builtin;refine app1 rfl _ _ _ rfl fU w.heap.size _ l.length (l.map (Value.int .u8)) rfl h2 _ rfl rfl ?c1 ?c2 ?c3 ?_)
   case c1=>unfold maxLen;omega
   case c2=>omega
   case c3=>omega
   intro sa' sc' w3 h3 H5 a1
   have h5:(l ++ [97+x]).length=l.length+1:=by simp
   have hb:=fun k (e:(Value.slice sa l.length sc).ownBlock=some k)=>(h2.lt k e).1
   go_wp2
   go_roundw
   case rel =>
    refine⟨sa',sc',l ++ [97+x],r - 1,by rw[h5],by go_num,by omega,by omega,?_,?_,a2.kept H5 ?_,?_⟩
    ·rw[h5,List.map_append];exact h3
    ·intro n hn
     rcases List.mem_append.1 hn with hn|hn
     ·exact H4 n hn
     ·simp at hn;subst hn;exact⟨by omega,by omega⟩
    ·intro k e;have:=hb k e;have:=h9.ge;omega
    ·exact yW (zD h7 h8) H5 (.inr (.inl rfl)) (by
      rcases hv:(Value.slice sa l.length sc).ownBlock with _|k
      ·exact .inl rfl
      ·exact .inr (.inr ⟨k,rfl,hb k hv⟩))
   case measure=>simp[intOf];omega
  ·have H1:=fun dst hd=>tM (P:=Try.prog) 106 5 Try.underlying106 Try.underlying5 dst hd h4
   have a0:=H1 9 Try.underlying9
   clear H1
   go_wp2
   go_ret
   exact⟨l,rfl,by omega,H4,h9,h7⟩
def lex (letters:Nat):Nat->List (List Int)
 | 0=>[[]]
 | n+1=>(lex letters n).flatMap fun w=>(List.range letters).map fun(c:Nat)=>w ++ [97+(c:Int)]
def block (letters:Nat) (w:List Int) (c:Nat):List (List Int):=(List.range' c (letters - c)).map fun(c:Nat)=>w ++ [97+(c:Int)]
theorem fL (letters n:Nat):lex letters (n+1)=(lex letters n).flatMap fun w=>block letters w 0:=by
 simp[lex,block,List.range_eq_range']
theorem tW {letters:Nat}:∀ {n:Nat} {w:List Int},w∈lex letters n->w.length=n/\∀ x∈w,qQ letters x
 | 0,w,h=>by simp[lex]at h;subst h;simp
 | n+1,w,h=>by
  simp only[lex,List.mem_flatMap,List.mem_map,List.mem_range]at h
  obtain⟨v,hv,c,hc,rfl⟩:=h
  obtain⟨h1,h2⟩:=tW hv
  refine⟨by simp[h1],fun x hx=>?_⟩
  rcases List.mem_append.1 hx with hx|hx
  ·exact h2 x hx
  ·simp at hx;subst hx;unfold qQ;omega
theorem vD (letters:Nat):∀ n,(lex letters n).length=letters ^ n
 | 0=>rfl
 | n+1=>by
  rw[fL,List.length_flatMap]
  have:(lex letters n).map (fun w=>(block letters w 0).length)=List.replicate (letters ^ n) letters:=by
   rw[<- vD letters n,<- List.map_const']
   refine List.map_congr_left fun w _=>?_
   simp[block]
  rw[this,List.sum_replicate_nat,Nat.pow_succ]
theorem Arr.setCells {g:Nat} {e:TypeId}:∀ (vs:List Value) (o:Nat) {w:World} {xs:List Value},Arr w g e xs->o+vs.length<=xs.length->Arr (w.setCells g o vs) g e (xs.take o ++ vs ++ xs.drop (o+vs.length))
 | [],o,w,xs,h,_=>by simpa [World.setCells] using h
 | v :: r,o,w,xs,h,hl=>by
  rw[List.length_cons]at hl
  have:=Arr.setCells r (o+1) (h.set o (by omega) v) (by rw[List.length_set];omega)
  rw[World.setCells]
  have e1:(xs.set o v).take (o+1)=xs.take o ++ [v]:=by
   rw[List.take_succ_eq_append_getElem (by rw[List.length_set];omega),List.take_set_of_le (by omega)]
   simp
  rw[e1,List.drop_set_of_lt (by omega)]at this
  rw[List.length_cons,show o+(r.length+1)=o+1+r.length by omega]
  simpa using this
def RowT (B:Nat) (e:TypeId) (w:World) (v:Value) (xs:List Value):Prop :=
 (v=.slice none 0 0/\xs=[])\/∃ b off cap cur m,v=.slice (some ⟨b,off,none⟩) xs.length cap/\b < B/\xs.length<=cap/\cap<=maxLen/\w.heap[b]?=some (.cells cur e m)/\∀ i (h:i < xs.length),cur[off+i]?=some xs[i]
theorem RowT.row {B:Nat} {e:TypeId} {w:World} {v:Value} {xs:List Value} (h:RowT B e w v xs):Row B w v xs:=by
 rcases h with h|⟨b,off,cap,cur,m,h1,h2,h3,h4,h5,h6⟩
 ·exact .inl ⟨_,_,h⟩
 ·exact .inr ⟨b,off,cap,h1,h2,h3,h4,zH h5,fun i hi=>by rw[cell_of_row w b (off+i) _ _ _ h5];exact h6 i hi⟩
theorem RowT.mono {B B':Nat} {e:TypeId} {w:World} {v:Value} {xs:List Value} (h:RowT B e w v xs) (hB:B<=B'):RowT B' e w v xs:=by
 rcases h with h|⟨b,off,cap,cur,m,h1,h2,h3⟩
 ·exact .inl h
 ·exact .inr ⟨b,off,cap,cur,m,h1,by omega,h3⟩
def zY (w:World) (e:TypeId) (k:Nat):Prop:=∃ cur e' m,w.heap[k]?=some (.cells cur e' m)/\e'≠e
theorem RowT.kept {B:Nat} {e:TypeId} {w w':World} {v:Value} {xs:List Value} {row:Option Nat} (h:RowT B e w v xs) (hg:w.grownBy w' row) (hr:∀ k,row=some k->B<=k\/zY w e k):RowT B e w' v xs:=by
 rcases h with h|⟨b,off,cap,cur,m,h1,h2,h3,h4,h5,h6⟩
 ·exact .inl h
 ·refine .inr ⟨b,off,cap,cur,m,h1,h2,h3,h4,zA h5 hg (fun eq=>?_),h6⟩
  rcases hr b eq with hk|⟨cur',e',m',hk,hne⟩
  ·omega
  ·rw[h5]at hk;simp at hk;exact hne hk.2.1.symm
theorem RowT.of_heap {B:Nat} {e:TypeId} {w w':World} {v:Value} {xs:List Value} (h:RowT B e w v xs) (he:w'.heap=w.heap):RowT B e w' v xs:=by
 rcases h with h|⟨b,off,cap,cur,m,h1,h2,h3,h4,h5,h6⟩
 ·exact .inl h
 ·exact .inr ⟨b,off,cap,cur,m,h1,h2,h3,h4,by rw[he];exact h5,h6⟩
theorem RowT.of_owns {w:World} {base e:Nat} {v:Value} {n:Nat} {xs:List Value} (h:w.ownsRow base e 1 v n xs):RowT w.heap.size e w v xs:=by
 have hl:xs.length=n:=by have:=h.1;omega
 rcases h.2 with ⟨rfl,rfl⟩|⟨g,cap,cur,rfl,hb,hg,hnc,hcm,hcs,htake⟩
 ·exact .inl ⟨rfl,List.eq_nil_of_length_eq_zero hl⟩
 ·refine .inr ⟨g,0,cap,cur,(0,0),by rw[hl],zH hg,by omega,hcm,hg,fun i hi=>?_⟩
  have:=h.cellAt i (by omega)
  rw[cell_of_row w g i _ _ _ hg]at this
  rw[Nat.zero_add,this,List.getElem?_eq_getElem hi]
theorem yI {w:World} {base e e' size:Nat} {v:Value} {n:Nat} {xs:List Value} (h:w.ownsRow base e size v n xs) (hne:e≠e'):∀ k,v.ownBlock=some k->zY w e' k:=by
 intro k hk
 rcases h.2 with ⟨rfl,_⟩|⟨g,cap,cur,rfl,_,hg,_⟩
 ·simp[Value.ownBlock]at hk
 ·simp[Value.ownBlock]at hk
  subst hk
  exact⟨cur,e,(0,0),hg,hne⟩
def xS {α:Type} (B:Nat) (e:TypeId) (f:α->List Value) (w:World) (svs:List Value) (ps:List α):Prop :=
 svs.length=ps.length/\∀ i (h:i < svs.length) (h':i < ps.length),RowT B e w svs[i] (f ps[i])
section
variable {α:Type} {B:Nat} {e:TypeId} {f:α->List Value} {w:World} {svs:List Value} {ps:List α}
theorem xS.nil:xS B e f w [] []:=⟨rfl,fun i h=>by simp at h⟩
theorem xS.kept {w':World} {row:Option Nat} (h:xS B e f w svs ps) (hg:w.grownBy w' row) (hr:∀ k,row=some k->B<=k\/zY w e k):xS B e f w' svs ps :=
 ⟨h.1,fun i h1 h2=>(h.2 i h1 h2).kept hg hr⟩
theorem xS.mono {B':Nat} (h:xS B e f w svs ps) (hB:B<=B'):xS B' e f w svs ps:=⟨h.1,fun i h1 h2=>(h.2 i h1 h2).mono hB⟩
theorem xS.snoc {sv:Value} {p:α} (h:xS B e f w svs ps) (hs:RowT B e w sv (f p)):xS B e f w (svs ++ [sv]) (ps ++ [p]):=by
 refine⟨by simp[h.1],fun i h1 h2=>?_⟩
 by_cases hi:i < svs.length
 ·rw[List.getElem_append_left hi,List.getElem_append_left (by rw[<- h.1];exact hi)]
  exact h.2 i hi _
 ·have:i=svs.length:=by simp at h1;omega
  subst this
  rw[List.getElem_append_right (Nat.le_refl _),List.getElem_append_right (by rw[h.1];exact Nat.le_refl _)]
  simpa [h.1] using hs
end
theorem pR:ElemOk Try.prog 26 9 (.string ⟨#[]⟩) 16:=⟨Try.underlying26,by kernel_rfl,rfl⟩
def cE (letters:Int) (inner:Bool) (l:List Int):Prop:=l.length<=2/\(∀ n∈l,qQ letters n)/\(inner=true->l≠[])
def wQ (letters:Int) (bs:List (List Int)):Prop:=bs.length<=4/\bs≠[]/\∀ i (h:i < bs.length),cE letters (decide (0 < i/\i+1 < bs.length)) bs[i]
def qW (letters:Int) (r:Int) (bs:List (List Int)):Prop:=bs≠[]/\∀ i (h:i < bs.length),cE letters (decide (0 < i/\((i:Int)+1 < bs.length+r))) bs[i]
def strs (bs:List (List Int)):List Value:=bs.map fun l=>.string (strOfNums l)
theorem goodSoFar_one (letters r:Int) (l:List Int) (hl:l.length<=2) (h:∀ n∈l,qQ letters n):qW letters r [l]:=by
 refine⟨by simp,fun i hi=>?_⟩
 have:i=0:=by simpa using hi
 subst this
 exact⟨hl,h,by simp⟩
theorem sY {letters r:Int} {bs:List (List Int)} {l:List Int} (h:qW letters r bs) (hr:0 < r) (hl:l.length<=2) (hok:∀ n∈l,qQ letters n) (hne:1 < r->l≠[]):qW letters (r - 1) (bs ++ [l]):=by
 refine⟨by simp,fun i hi=>?_⟩
 rw[List.length_append,List.length_singleton]at hi
 have e1:((bs ++ [l]).length:Int)+(r - 1)=bs.length+r:=by simp;omega
 rw[e1]
 by_cases hb:i < bs.length
 ·rw[List.getElem_append_left hb];exact h.2 i hb
 ·have:i=bs.length:=by omega
  subst this
  rw[List.getElem_append_right (by omega)]
  simp only[Nat.sub_self,List.getElem_cons_zero]
  exact⟨hl,hok,fun hin=>hne (by simp at hin;omega)⟩
theorem goodSoFar_done {letters r:Int} {bs:List (List Int)} (hr:r=0) (hl:bs.length<=4) (h:qW letters r bs):wQ letters bs:=by
 refine⟨hl,h.1,fun i hi=>?_⟩
 have:=h.2 i hi
 rwa [show decide (0 < i/\(i:Int)+1 < bs.length+r)=decide (0 < i/\i+1 < bs.length) from decide_eq_decide.2 (by subst hr;omega)]at this
def PatternedT (B tb:Nat) (w:World) (letters:Int) (e:Ending) (w':World):Prop :=
 ∃ (v:Value) (bs:List (List Int)),e=.returned (.agg #[v])/\RowT w'.heap.size 9 w' v (strs bs)/\wQ letters bs/\xB B w' tb/\w.grownBy w' (some tb)
set_option maxRecDepth 100000 in
set_option maxHeartbeats 400000 in
theorem pattern_anyT (B tb:Nat) (w:World) (letters:Int) (h1:1<=letters) (h6:letters<=6) (hT:xB B w tb) :
  Calls Try.prog 67 #[.pointer (some ⟨tb,0,none⟩),.int .i64 letters] w (PatternedT B tb w letters):=by
 have b6:=hT.lt
 have c4:=hT.ge
 go_enter Try.func67,Try.ntmps67
 go_wp2_with fail
 have b5:=hT.kept (Ga w (.cells #[.slice none 0 0] 28) none) (by simp)
 refine(gM B tb _ letters 2 h1 h6 (by omega) (by omega) b5).mono ?_
 rintro e w1 ⟨l0,rfl,H0,a0,b3,a1⟩
 have b1:=a1.size
 simp only[zM]at b1
 have e4:w1.heap[w.heap.size]?=some (.cells #[.slice none 0 0] 28 (0,0)):=zA (heap_alloc_new w _) a1 (by simp;omega)
 go_wp2_with fail
 refine(uK B tb _ 4 (by omega) ((b3.kept (Ga _ _ none) (by simp)).kept (Ga _ _ none) (by simp))).mono ?_
 rintro e w2 ⟨r0,rfl,a5,a4,a8,H3⟩
 replace a4:=a4 (by omega)
 have b0:=H3.size
 simp only[zM]at b0
 have b4:w2.heap[w.heap.size]?=some (.cells #[.slice none 0 0] 28 (0,0)) :=
  zA (zA (zA e4 (Ga _ _ none) (by simp)) (Ga _ _ none) (by simp)) H3 (by simp;omega)
 have bp:w2.heap[w1.heap.size+1]?=some (.cells #[.slice (some ⟨w1.heap.size,0,none⟩) 1 1] 28 (0,0)) :=
  zA (by simpa using heap_alloc_new (w1.alloc (.cells #[.string (strOfNums l0)] 9)) (.cells #[.slice (some ⟨w1.heap.size,0,none⟩) 1 1] 28)) H3 (by simp;omega)
 have ho:w2.ownsRow w1.heap.size 9 1 (.slice (some ⟨w1.heap.size,0,none⟩) 1 1) 1 (strs [l0]) :=
  wD ((World.ownsRow_lit w1 #[.string (strOfNums l0)] 1 (Nat.le_refl _) (by unfold maxLen;omega) (by simp)).alloc _) H3 (by simp;omega)
 have a7:w.grownBy w2 (some tb):=zD (xO (xO (zD (Ga _ _ _) a1) _) _) H3
 have E4:=Kh e4;have B4:=Kh b4;have BP:=Kh bp;clear e4 b4 bp
 go_wp2
 go_loopw [6] (fun i wr=>∃ (sa:Option Addr) (sc:Nat) (bs:List (List Int)) (r:Int),i=.int .i64 r/\0<=r/\(bs.length:Int)+r<=4/\qW letters r bs /\
   wr.heap[w.heap.size]?=some (.cells #[.slice none 0 0] 28 (0,0))/\wr.heap[w1.heap.size+1]?=some (.cells #[.slice sa bs.length sc] 28 (0,0)) /\
   wr.ownsRow w1.heap.size 9 1 (.slice sa bs.length sc) bs.length (strs bs)/\xB B wr tb/\w.grownBy wr (some tb))
  (fun i _=>(intOf i).toNat)
 case atStart=>exact⟨some ⟨w1.heap.size,0,none⟩,1,[l0],r0,rfl,a5,by simp;omega,goodSoFar_one letters r0 l0 (by omega) a0,B4.out,BP.out,ho,a8,a7⟩
 case round =>
  clear ho a7 a8 H3
  obtain⟨sa,sc,bs,r,rfl,a5,c0,h5,b4,bp,h9,a3,H8⟩:=hrel
  have b9:=zH bp
  have H4:=zK bp 0 (by simp)
  have H9:=zE bp 0
  have a2:=zK b4 0 (by simp)
  have b2:=zE b4 0
  simp only[List.getElem_toArray,List.getElem_cons_zero]at H4 a2
  have B4:=Kh b4;have BP:=Kh bp;clear b4 bp
  have b7:=H8.size
  by_cases hp:0 < r
  ·go_wp2_with fail
   refine(gM B tb _ letters 2 h1 h6 (by omega) (by omega) a3).mono ?_
   rintro e w3 ⟨l,rfl,hl,a6,H5,H2⟩
   have b8:=H2.size
   have B4':=Kh (zA B4.out H2 (by simp;omega))
   have BP':=Kh (zA BP.out H2 (by simp;omega))
   have H4:=zK BP'.out 0 (by simp)
   have H9:=zE BP'.out 0
   simp only[List.getElem_toArray,List.getElem_cons_zero]at H4
   have h0:=wD h9 H2 (by simp;omega)
   have h7:=zD H8 H2
   clear h9 a3 H8 H2 B4 BP a2 b2
   by_cases H0:l=[]
   ·have hE:(strOfNums l).toList.isEmpty=true:=by rw[ByteArray.toList_eq,H0];rfl
    have HL:=Kh H0;clear H0
    by_cases h1r:1 < r
    ·go_wp2_with (at_builtin;refine app1 rfl _ _ _ rfl pR w1.heap.size _ bs.length (strs bs) rfl h0 _ rfl rfl ?c1 ?c2 ?c3 ?_)
     case c1=>unfold maxLen;omega
     case c2=>omega
     case c3=>omega
     intro sa' sc' w4 h2 h3 H6
     have hb:=fun k (e:(Value.slice sa bs.length sc).ownBlock=some k)=>(h0.lt k e).1
     have H1:=H5.kept h3 (fun k e=>by have:=hb k e;omega)
     have h4:=zB h7 h3 (fun k e=>by have:=hb k e;omega)
     have B5:=Kh (zA B4'.out h3 (fun e=>by have:=hb _ e;omega))
     have BP5:=Kh (zA BP'.out h3 (zS h0 BP'.out (by decide)))
     have h8:=zK BP5.out 0 (by simp)
     have H7:=zE BP5.out 0
     simp only[List.getElem_toArray,List.getElem_cons_zero]at h8
     clear h0 H5 h7 h3 B4' BP' hb H4 H9
     go_wp2
     go_roundw
     case rel =>
      refine⟨sa',sc',bs ++ [[97]],r - 1,by go_num,by omega,by simp;omega,sY h5 hp (by simp) (fun n hn=>by simp at hn;subst hn;exact⟨by omega,by omega⟩) (fun _=>by simp),?_,?_,?_,H1.kept (zC _ _ _) (by simp;omega),zB h4 (zC _ _ _) (by simp;omega)⟩
      ·exact zA B5.out (zC _ _ _) (by simp;omega)
      ·exact by rw[List.length_append];exact heap_setCell_same _ _ 0 _ _ _ BP5.out
      ·rw[List.length_append]
       have hk:=h2.kept (zC w4 ⟨w1.heap.size+1,0,none⟩ (.slice sa' (bs.length+1) sc')) (.inr (zS h2 BP5.out (by decide)))
       simpa [strs,strOfNums] using hk
     case measure=>simp[intOf];omega
    ·go_wp2_with (at_builtin;refine app1 rfl _ _ _ rfl pR w1.heap.size _ bs.length (strs bs) rfl h0 _ rfl rfl ?c1 ?c2 ?c3 ?_)
     case c1=>unfold maxLen;omega
     case c2=>omega
     case c3=>omega
     intro sa' sc' w4 h2 h3 H6
     have hb:=fun k (e:(Value.slice sa bs.length sc).ownBlock=some k)=>(h0.lt k e).1
     have H1:=H5.kept h3 (fun k e=>by have:=hb k e;omega)
     have h4:=zB h7 h3 (fun k e=>by have:=hb k e;omega)
     have B5:=Kh (zA B4'.out h3 (fun e=>by have:=hb _ e;omega))
     have BP5:=Kh (zA BP'.out h3 (zS h0 BP'.out (by decide)))
     have h8:=zK BP5.out 0 (by simp)
     have H7:=zE BP5.out 0
     simp only[List.getElem_toArray,List.getElem_cons_zero]at h8
     clear h0 H5 h7 h3 B4' BP' hb H4 H9
     go_wp2
     go_roundw
     case rel =>
      refine⟨sa',sc',bs ++ [l],r - 1,by go_num,by omega,by simp;omega,sY h5 hp (by omega) a6 (fun h=>by omega),?_,?_,?_,H1.kept (zC _ _ _) (by simp;omega),zB h4 (zC _ _ _) (by simp;omega)⟩
      ·exact zA B5.out (zC _ _ _) (by simp;omega)
      ·exact by rw[List.length_append];exact heap_setCell_same _ _ 0 _ _ _ BP5.out
      ·rw[List.length_append]
       have hk:=h2.kept (zC w4 ⟨w1.heap.size+1,0,none⟩ (.slice sa' (bs.length+1) sc')) (.inr (zS h2 BP5.out (by decide)))
       simpa [strs] using hk
     case measure=>simp[intOf];omega
   ·have hE:(strOfNums l).toList.isEmpty=false:=by
     rw[ByteArray.toList_eq,strOfNums_data,List.isEmpty_eq_false_iff];simpa using H0
    have HL:=Kh H0;clear H0
    by_cases h1r:1 < r
    all_goals
     go_wp2_with (at_builtin;refine app1 rfl _ _ _ rfl pR w1.heap.size _ bs.length (strs bs) rfl h0 _ rfl rfl ?c1 ?c2 ?c3 ?_)
     case c1=>unfold maxLen;omega
     case c2=>omega
     case c3=>omega
     intro sa' sc' w4 h2 h3 H6
     have hb:=fun k (e:(Value.slice sa bs.length sc).ownBlock=some k)=>(h0.lt k e).1
     have H1:=H5.kept h3 (fun k e=>by have:=hb k e;omega)
     have h4:=zB h7 h3 (fun k e=>by have:=hb k e;omega)
     have B5:=Kh (zA B4'.out h3 (fun e=>by have:=hb _ e;omega))
     have BP5:=Kh (zA BP'.out h3 (zS h0 BP'.out (by decide)))
     have h8:=zK BP5.out 0 (by simp)
     have H7:=zE BP5.out 0
     simp only[List.getElem_toArray,List.getElem_cons_zero]at h8
     clear h0 H5 h7 h3 B4' BP' hb H4 H9
     go_wp2
     go_roundw
     case rel =>
      refine⟨sa',sc',bs ++ [l],r - 1,by go_num,by omega,by simp;omega,sY h5 hp (by omega) a6 (fun _=>HL.out),?_,?_,?_,H1.kept (zC _ _ _) (by simp;omega),zB h4 (zC _ _ _) (by simp;omega)⟩
      ·exact zA B5.out (zC _ _ _) (by simp;omega)
      ·exact by rw[List.length_append];exact heap_setCell_same _ _ 0 _ _ _ BP5.out
      ·rw[List.length_append]
       have hk:=h2.kept (zC w4 ⟨w1.heap.size+1,0,none⟩ (.slice sa' (bs.length+1) sc')) (.inr (zS h2 BP5.out (by decide)))
       simpa [strs] using hk
     case measure=>simp[intOf];omega
  ·have h3:wr.grownBy (wr.setCell ⟨w.heap.size,0,none⟩ (.slice sa bs.length sc)) (some w.heap.size):=zC _ _ _
   have h2:=h9.kept h3 (.inr (zS h9 B4.out (by decide)))
   have h4:=zB H8 h3 (by simp)
   have H1:=a3.kept h3 (by simp;omega)
   have a9:=h3.size
   go_wp2
   refine bodyPost_ret (v:=.agg #[.slice sa bs.length sc]) (by simp[results,Try.results67,go_sem,a2]) rfl ⟨_,bs,rfl,RowT.of_owns h2,goodSoFar_done (by omega) (by omega) h5,H1,h4⟩
theorem allWords_upto (letters k:Nat):(List.range (k+1)).flatMap (lex letters)=(List.range k).flatMap (lex letters) ++ lex letters k:=by
 rw[List.range_succ,List.flatMap_append];simp
def upTo (letters n:Nat):List (List Int):=(List.range n).flatMap (lex letters)
theorem xH (letters n:Nat):upTo letters (n+1)=upTo letters n ++ lex letters n:=allWords_upto letters n
theorem oE (letters:Nat) (h:letters<=6):∀ n,n<=9->(upTo letters n).length<=2000000 * n
 | 0,_=>by simp[upTo]
 | n+1,hn=>by
  have h1:=oE letters h n (by omega)
  rw[xH,List.length_append,vD]
  have h2:letters ^ n<=6 ^ n:=Nat.pow_le_pow_left h n
  have h3:6 ^ n<=6 ^ 8:=Nat.pow_le_pow_right (by omega) (by omega)
  have h4:(6:Nat) ^ 8=1679616:=by decide
  omega
theorem oH (a b:List (List Int)):strs (a ++ b)=strs a ++ strs b:=by simp[strs]
theorem wE (a:List (List Int)):(strs a).length=a.length:=by simp[strs]
def qCC (w:World) (ls:List (List Int)) (e:Ending) (w':World):Prop :=
 ∃ (sa:Option Addr) (sc:Nat),e=.returned (.slice sa ls.length sc)/\RowT w'.heap.size 9 w' (.slice sa ls.length sc) (strs ls)/\w.grownBy w' none
theorem uN:ElemOk Try.prog 22 28 (.agg #[.slice none 0 0]) 24:=⟨Try.underlying22,by kernel_rfl,rfl⟩
def tC (u:List Int):List (List Int):=[[]] ++ u.map (fun c=>[c]) ++ [[]]
def qA (u:List Int) (j:Nat):List (List Int):=[[]] ++ (u.take j).map (fun c=>[c])
theorem extract_one (l:List Int) (j:Nat) (hj:j < l.length):(strOfNums l).extract j (j+1)=strOfNums [l[j]]:=by
 have h:((strOfNums l).extract j (j+1)).data.toList=(strOfNums [l[j]]).data.toList:=by
  rw[ByteArray.data_extract,strOfNums_data,Array.toList_extract,strOfNums_data,List.extract_eq_take_drop]
  rw[List.drop_eq_getElem_cons (by simpa using hj)]
  simp
 have h2:=Array.toList_inj.1 h
 cases h3:(strOfNums l).extract j (j+1)
 cases h4:strOfNums [l[j]]
 simp_all
def PatListed (w:World) (ps:List (List (List Int))) (e:Ending) (w':World):Prop :=
 ∃ (sa:Option Addr) (sc:Nat) (svs:List Value),e=.returned (.slice sa ps.length sc)/\RowT w'.heap.size 28 w' (.slice sa ps.length sc) svs/\xS w'.heap.size 9 strs w' svs ps/\w.grownBy w' none
structure PatsUp (base:Nat) (w:World) (v:Value) (n:Nat) (svs:List Value) (ps:List (List (List Int))):Prop where
 own:w.ownsRow base 28 1 v n svs
 rows:xS w.heap.size 9 strs w svs ps
theorem RowT.lit {w w':World} {cs:Array Value} {e:TypeId} {row:Option Nat} {q:Nat} {xs:List Value} (hc:cs.toList=xs) (hq:cs.size=q) (hm:q<=maxLen) (hg:(w.alloc (.cells cs e)).grownBy w' row) (hr:row≠some w.heap.size):RowT w'.heap.size e w' (.slice (some ⟨w.heap.size,0,none⟩) q q) xs:=by
 have hb:=zA (heap_alloc_new w (.cells cs e)) hg hr
 have hl:xs.length=q:=by rw[<- hc,<- hq];simp
 refine .inr ⟨w.heap.size,0,q,cs,(0,0),by rw[hl],zH hb,by omega,hm,hb,fun i hi=>?_⟩
 rw[Nat.zero_add,<- Array.getElem?_toList,hc,List.getElem?_eq_getElem hi]
theorem PatsUp.push {base n q:Nat} {w w':World} {v v':Value} {svs:List Value} {ps:List (List (List Int))} {us:List (List Int)} {cs:Array Value} (h:PatsUp base w v n svs ps) (hc:cs.toList=strs us) (hq:cs.size=q) (hm:q<=maxLen)
  (hown:w'.ownsRow base 28 1 v' (n+1) (svs ++ [.slice (some ⟨w.heap.size,0,none⟩) q q])) (hg:(w.alloc (.cells cs 9)).grownBy w' v.ownBlock) :
  PatsUp base w' v' (n+1) (svs ++ [.slice (some ⟨w.heap.size,0,none⟩) q q]) (ps ++ [us])/\w.grownBy w' v.ownBlock:=by
 have h4:∀ k,v.ownBlock=some k->k < w.heap.size:=fun k hk=>(h.own.lt k hk).2
 have hA:=Ga w (.cells cs 9) none
 have h3:=h.own.alloc (.cells cs 9)
 have h0:=yI h3 (e':=9) (by decide)
 refine⟨⟨hown,?_⟩,zD (Ga w _ _) hg⟩
 have h1:=h.rows.kept hA (by simp)
 have h2:=(h1.kept hg (fun k e=>.inr (h0 k e))).mono (Nat.le_trans hA.size hg.size)
 exact h2.snoc (RowT.lit hc hq hm hg (fun e=>by have:=h4 _ e;omega))
theorem PatsUp.nil (base:Nat) (w:World):PatsUp base w (.slice none 0 0) 0 [] []:=⟨World.ownsRow_nil _ _ _ _,xS.nil⟩
theorem PatsUp.kept {base n:Nat} {w w':World} {v:Value} {svs:List Value} {ps:List (List (List Int))} {row:Option Nat} (h:PatsUp base w v n svs ps) (hg:w.grownBy w' row) (hr:∀ k,row=some k->w.heap.size<=k):PatsUp base w' v n svs ps:=by
 refine⟨h.own.kept hg ?_,(h.rows.kept hg (fun k e=>.inl (hr k e))).mono hg.size⟩
 rcases hv:v.ownBlock with _|k
 ·exact .inl rfl
 ·exact .inr fun e=>by have:=hr k e.symm;have:=(h.own.lt k hv).2;omega
theorem PatsUp.listed {base n:Nat} {w w0:World} {sa:Option Addr} {sc:Nat} {svs:List Value} {ps:List (List (List Int))} (h:PatsUp base w (.slice sa n sc) n svs ps) (hg:w0.grownBy w none) (hn:ps.length=n):PatListed w0 ps (.returned (.slice sa n sc)) w :=
 ⟨sa,sc,svs,by rw[hn],by rw[hn];exact RowT.of_owns h.own,h.rows,hg⟩
theorem eN {B b off sc:Nat} {w:World} {ws:List (List Int)} (h:RowT B 9 w (.slice (some ⟨b,off,none⟩) ws.length sc) (strs ws)) {i:Nat} (hi:i < ws.length):w.cell? ⟨b,off+i,none⟩=some (.string (strOfNums ws[i])):=by
 rcases h.row with ⟨_,_,h,_⟩|⟨b',off',cap',hv,_,_,_,hra⟩
 ·have h2:ws.length=0:=by injection h
  omega
 ·simp only[Value.slice.injEq,Option.some.injEq,Addr.mk.injEq,and_true]at hv
  obtain⟨⟨rfl,rfl⟩,_⟩:=hv
  have:=hra.map i hi
  exact this
theorem iE {B:Nat} {w:World} {sa:Option Addr} {sc:Nat} {ws:List (List Int)} (h:RowT B 9 w (.slice sa ws.length sc) (strs ws)) (hp:0 < ws.length):∃ b off,sa=some ⟨b,off,none⟩/\ws.length<=sc/\sc<=maxLen:=by
 rcases h with ⟨hn,hn2⟩|⟨b,off,cap,cur,m,hv,hb,hc1,hc2,hblk,hcell⟩
 ·have:=congrArg List.length hn2;rw[wE]at this;simp at this;simp[this]at hp
 ·simp only[Value.slice.injEq]at hv
  obtain⟨rfl,_,rfl⟩:=hv
  rw[wE]at hc1
  exact⟨b,off,rfl,hc1,hc2⟩
end Go.Proofs.Ytjfdomfendbhfaa
