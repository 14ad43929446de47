/- Part 30 of the proof: MapStr, EProcS. -/
import Derived.Test.YtdjhoadoiknaoaaDoorZC29
import Derived.StringKeys
set_option linter.unusedVariables false
set_option linter.unusedSimpArgs false
namespace Go.Proofs.YtdjhoadoiknaoaaDoor
open Go.RowKit Go.Maps
theorem mapstr_under:Tryd.prog.underlying 141=some (.map 9 3):=by kernel_rfl
theorem mF:Tryd.prog.underlying 9=some .string:=by kernel_rfl
theorem key_string:Keyed Tryd.prog 9:=string_keyed mF
def wX (w:World) (b n:Nat):Prop:=∃ D:DataW Unit,w.ownsMap Tryd.prog 9 (plainElem Tryd.prog 3) b n D
theorem wX.made (w:World):wX (w.alloc (.map #[] 0)) w.heap.size 0:=⟨.map [],World.ownsMap_made _ _ _ _⟩
theorem wX.kept {w w':World} {b n:Nat} {row:Option Nat} (h:wX w b n) (hg:w.grownBy w' row) (hne:row≠some b):wX w' b n:=by
 obtain ⟨D,h1⟩:=h
 exact ⟨D,h1.kept hg (fun e=>hne e.symm)⟩
theorem wX.mono {w:World} {b n n':Nat} (h:wX w b n) (hn:n≤n'):wX w b n':=by
 obtain ⟨D,h1⟩:=h
 exact ⟨D,h1.mono hn⟩
theorem wX.lt {w:World} {b n:Nat} (h:wX w b n):b < w.heap.size:=by
 obtain ⟨D,h1⟩:=h
 exact h1.lt
theorem wX.lookup {w:World} {b n:Nat} (h:wX w b n) {s:ByteArray} (hs:s.size≤maxLen):∃ (c:Int) (ok:Bool),(Instr.lookup 141 (.map (some b)) (.string s) true).run Tryd.prog w=.ok (.tuple #[.int .i64 c,.bool ok]) w:=by
 obtain ⟨D,h1⟩:=h
 obtain ⟨v,ps,hrun,hv⟩:=h1.look_ok key_string mapstr_under (zero_int w) (plainElem_int pE (by decide)) (Go.WideMaps.keyOf_string_mk mF hs)
 obtain ⟨c,rfl,hc,_⟩:=plainElem_int_inv pE hv
 exact ⟨c,_,hrun⟩
set_option maxRecDepth 100000 in
theorem step_putStr {w:World} {ops:Array Oper} {rest:List Oper} {o:Oper} {a:Act} {Q:Exit→Act→World→Prop} (hg:o.guard=none) (m x v:Operand) (hop:o.op=Op.mapUpdate 141 m x v)
  (b n:Nat) (s:ByteArray) (z:Int) (hm:a.eval m=.map (some b)) (hx:a.eval x=.string s) (hv:a.eval v=.int .i64 z) (h:wX w b n) (hn:n < maxLen) (hs:s.size≤maxLen) (hz:Mid z)
  (hK:∀ w',wX w' b (n+1)→w.grownBy w' (some b)→wpList Tryd.prog ops Q rest (a.put o.dst undef) w') :
  wpList Tryd.prog ops Q (o :: rest) a w:=by
 obtain ⟨D,h1⟩:=h
 obtain ⟨w',hrun,hown,hgr⟩:=h1.update key_string mapstr_under hn (Go.WideMaps.keyOf_string_mk mF hs) (plainElem_int pE (iW (x:=z) hz))
 refine wpList_plain hg fun K' hK'=>?_
 unfold Oper.wp
 simp [execOp,hop,hm,hx,hv,hrun,Result.andThen]
 exact hK' _ _ (hK w' ⟨_,hown⟩ hgr)
end Go.Proofs.YtdjhoadoiknaoaaDoor
namespace Go.Proofs.YtdjhoadoiknaoaaDoor
open Go.RowKit
theorem lU {w W:World} {sz m:Nat} {v:Value} {xs:List Value} (h:uJ w sz v m xs) (hg:w.grownBy W none):uJ W sz v m xs:=by
 rcases h with h|⟨b,off,cap,h1,h2,h3,h4⟩
 ·exact .inl h
 ·exact .inr ⟨b,off,cap,h1,h2,h3,fun j u hj=>zZ (h4 j u hj) hg⟩
theorem nQ {w W:World} (h:GrownBut w W (fun _=>False)):w.grownBy W none:=h.grown (zX w none) (fun k hk=>hk.elim)
theorem wX.ne_own {w:World} {mb q base e sz n:Nat} {v:Value} {xs:List Value} (h:wX w mb q) (ho:w.ownsRow base e sz v n xs):v.ownBlock≠some mb:=by
 obtain ⟨D,es,clock,hb,_⟩:=h
 rcases ho.2 with ⟨hv,_⟩|⟨g,cap,cur,hv,_,hg,_⟩
 ·rw [hv];simp [Value.ownBlock]
 ·rw [hv]
  intro e
  have e:g=mb:=by simpa [Value.ownBlock] using e
  subst e
  rw [hb] at hg
  simp at hg
theorem wX.ne_cells {w:World} {mb q b e:Nat} {c:Array Value} {m:Nat × Nat} (h:wX w mb q) (hb:w.heap[b]?=some (.cells c e m)):b≠mb:=by
 obtain ⟨D,es,clock,hm,_⟩:=h
 intro e;subst e
 rw [hm] at hb;simp at hb
theorem EMem.appLast {X:Nat→Prop} {W W':World} {rows:List RowS} {r r':RowS} (h:EMem X W (rows ++ [r])) (hg:W.grownBy W' r.v.ownBlock) (ho:W'.ownsRow r'.base r'.e r'.sz r'.v r'.n r'.xs) (hm:Moved W W' r.v r'.v):EMem X W' (rows ++ [r']):=by
 obtain ⟨hp1,hp2,hp3⟩:=List.pairwise_append.1 h.apart
 have hnew:∀ k,r'.v.ownBlock=some k→r.v.ownBlock=some k∨W.heap.size≤k:=fun k hk=>by
  rcases hm with hm|⟨_,hm⟩
  ·exact .inl (by rw [← hm];exact hk)
  ·exact .inr (hm k hk)
 refine ⟨fun s hs=>?_,?_,fun s hs k hk hx=>?_,fun k hk=>Nat.lt_of_lt_of_le (h.lt k hk) hg.size⟩
 ·rcases List.mem_append.1 hs with hs|hs
  ·refine (h.own s (List.mem_append_left _ hs)).kept hg ?_
   rcases hb:s.v.ownBlock with _|k
   ·exact .inl rfl
   ·exact .inr (fun e=>hp3 s hs r (by simp) k hb e.symm)
  ·rw [List.mem_singleton] at hs;subst hs;exact ho
 ·rw [List.pairwise_append]
  refine ⟨hp1,by simp,fun s hs t ht k hk e=>?_⟩
  rw [List.mem_singleton] at ht
  subst ht
  rcases hnew k e with e2|e2
  ·exact hp3 s hs r (by simp) k hk e2
  ·have:=((h.own s (List.mem_append_left _ hs)).lt k hk).2;omega
 ·rcases List.mem_append.1 hs with hs|hs
  ·exact h.offX s (List.mem_append_left _ hs) k hk hx
  ·rw [List.mem_singleton] at hs;subst hs
   rcases hnew k hk with e2|e2
   ·exact h.offX r (by simp) k e2 hx
   ·have:=h.lt k hx;omega
def bstrs (l:List ByteArray):List Value:=l.map .string
inductive WordsS (X:Nat→Prop) (w0:World) (P o mb:Nat) (rows:List RowS) (box:Array Value) (m q:Nat) (sW:Option Addr) (cW:Nat) (w:World):Prop
 | mk (ws:List ByteArray) (hl:ws.length=q) (hsz:∀ i,(ws.getD i ⟨#[]⟩).size≤i) (hM:EMem X w (rows ++ [⟨P,9,.slice sW q cW,q,bstrs ws,1⟩])) (hMap:wX w mb q) (hB:w.heap[o]?=some (.cells box 106 (0,0)))
  (hBP:w.heap[P+1]?=some (.cells #[.int .i64 0,.bool false,.slice none 0 0,.slice none 0 0,.slice none 0 0,.slice none 0 0,.slice none 0 0,.slice none 0 0,.int .i64 0] 106 (0,0))) (hX:KeepX X w0 w) (hg:w0.grownBy w none)
theorem EMem.appAt {X:Nat→Prop} {W W':World} {rs:List RowS} (h:EMem X W rs) {j:Nat} {r:RowS} (hr:rs[j]?=some r) {v':Value} {n':Nat} {us:List Value} (ho:W'.ownsRow r.base r.e r.sz v' n' (r.xs ++ us)) (hg:W.grownBy W' r.v.ownBlock) (hm:Moved W W' r.v v'):EMem X W' (rs.set j ⟨r.base,r.e,v',n',r.xs ++ us,r.sz⟩) :=
 h.after ((h.many (sS rs) (fun _ h=>h)).append hr ho hg hm) (fun k hk=>by obtain ⟨r,hr,hk⟩:=hk;exact h.offX r hr k hk)
def stepX (gs:List (List Nat)) (d x:Nat) (s:List (List Nat) × List Int × List Int × List Nat):List (List Nat) × List Int × List Int × List Nat :=
 if compT (s.1.getD d []) (gs.getD x [])∈s.1 then (s.1,s.2.1,s.2.2.1,s.2.2.2 ++ [s.1.idxOf (compT (s.1.getD d []) (gs.getD x []))])
 else (s.1 ++ [compT (s.1.getD d []) (gs.getD x [])],s.2.1 ++ [(d:Int)],s.2.2.1 ++ [(x:Int)],s.2.2.2 ++ [s.1.length])
def rowTo (gs:List (List Nat)) (d:Nat) (s:List (List Nat) × List Int × List Int):Nat→List (List Nat) × List Int × List Int × List Nat
 | 0=>(s.1,s.2.1,s.2.2,[])
 | x+1=>stepX gs d x (rowTo gs d s x)
def wJ (gs:List (List Nat)) (s:List (List Nat) × List Int × List Int):Nat→(List (List Nat) × List Int × List Int) × List (List Nat)
 | 0=>(s,[])
 | d+1=>(((rowTo gs d (wJ gs s d).1 gs.length).1,(rowTo gs d (wJ gs s d).1 gs.length).2.1,(rowTo gs d (wJ gs s d).1 gs.length).2.2.1),(wJ gs s d).2 ++ [(rowTo gs d (wJ gs s d).1 gs.length).2.2.2])
inductive ProcS (w0:World) (P o mb n:Nat) (gA:Option Addr) (gN gC:Nat) (gs els:List (List Nat)) (pre las:List Int) (right:List (List Nat)) (m d ub:Nat) (sW:Option Addr) (cW:Nat) (tl:List RowS) (w:World):Prop
 | mk (X:Nat→Prop) (u:Nat) (us hsE hsR:List Value) (ws:List ByteArray) (sE:Option Addr) (cE:Nat) (sP:Option Addr) (cP:Nat) (sL:Option Addr) (cL:Nat) (sR:Option Addr) (cR:Nat) (sU:Option Addr) (cU:Nat)
  (hl:els.length=m) (hpl:pre.length=m) (hll:las.length=m) (hrl:right.length=d) (hit:∀ f∈els,IsT n f) (hu:u≤ub) (hwl:ws.length=m) (hwz:∀ i,(ws.getD i ⟨#[]⟩).size≤i)
  (hM:EMem X w ([⟨P,22,.slice sE m cE,m,hsE,1⟩,⟨P,3,.slice sP m cP,m,ints pre,1⟩,⟨P,3,.slice sL m cL,m,ints las,1⟩,⟨P,22,.slice sR d cR,d,hsR,1⟩,⟨P,140,.slice sU u cU,u,us,2⟩,⟨P,9,.slice sW m cW,m,bstrs ws,1⟩] ++ tl))
  (hE:RowsX X 3 nats w hsE els) (hR:RowsX X 3 nats w hsR right) (hG:TX X w (.slice gA gN gC) gs) (hX:¬ X o∧¬ X (P+1)∧¬ X mb) (hMap:wX w mb m)
  (hB:w.heap[o]?=some (.cells #[.int .i64 n,.bool true,.slice gA gN gC,.slice sE m cE,.slice sP m cP,.slice sL m cL,.slice sR d cR,.slice sU u cU,.int .i64 d] 106 (0,0)))
  (hBP:w.heap[P+1]?=some (.cells #[.int .i64 0,.bool false,.slice none 0 0,.slice none 0 0,.slice none 0 0,.slice none 0 0,.slice none 0 0,.slice none 0 0,.int .i64 0] 106 (0,0))) (hg:w0.grownBy w none)
theorem EMem.dropLast {X:Nat→Prop} {W:World} {rs:List RowS} {r:RowS} (h:EMem X W (rs ++ [r])):EMem X W rs:=⟨fun s hs=>h.own s (List.mem_append_left _ hs),(List.pairwise_append.1 h.apart).1,fun s hs=>h.offX s (List.mem_append_left _ hs),h.lt⟩
def jP (gs:List (List Nat)) (s:List (List Nat) × List Int × List Int) (n:Nat):Prop:=∃ d x,d < (wJ gs s d).1.1.length∧x≤gs.length∧(rowTo gs d (wJ gs s d).1 x).1.length=2000∧∀ f∈(rowTo gs d (wJ gs s d).1 x).1,IsT n f
def ProcOk (gs els:List (List Nat)) (pre las:List Int) (n bd:Nat) (gv:Value) (w:World) (e:Ending) (w':World):Prop :=
 (e=.returned (.tuple #[.agg #[.int .i64 0,.bool false,.slice none 0 0,.slice none 0 0,.slice none 0 0,.slice none 0 0,.slice none 0 0,.slice none 0 0,.int .i64 0],.int .i64 3])∧jP gs (els,pre,las) n∧w.grownBy w' none) ∨
 ∃ (X:Nat→Prop) (el:List (List Nat)) (pr la:List Int) (ri:List (List Nat)) (m d u:Nat) (us hsE hsR:List Value) (sE:Option Addr) (cE:Nat) (sP:Option Addr) (cP:Nat) (sL:Option Addr) (cL:Nat) (sR:Option Addr) (cR:Nat) (sU:Option Addr) (cU:Nat),
  e=.returned (.tuple #[.agg #[.int .i64 n,.bool true,gv,.slice sE m cE,.slice sP m cP,.slice sL m cL,.slice sR d cR,.slice sU u cU,.int .i64 d],.int .i64 0])∧wJ gs (els,pre,las) d=((el,pr,la),ri)∧(d=m∨d=bd)∧m≤2000∧d≤m∧el.length=m∧pr.length=m∧la.length=m∧ri.length=d∧(∀ f∈el,IsT n f) ∧
  EMem X w' [⟨w.heap.size,22,.slice sE m cE,m,hsE,1⟩,⟨w.heap.size,3,.slice sP m cP,m,ints pr,1⟩,⟨w.heap.size,3,.slice sL m cL,m,ints la,1⟩,⟨w.heap.size,22,.slice sR d cR,d,hsR,1⟩,⟨w.heap.size,140,.slice sU u cU,u,us,2⟩]∧RowsX X 3 nats w' hsE el∧RowsX X 3 nats w' hsR ri∧TX X w' gv gs∧w.grownBy w' none
theorem bstrs_snoc (ws:List ByteArray) (s:ByteArray):bstrs (ws ++ [s])=bstrs ws ++ [.string s]:=by simp [bstrs]
theorem words_snoc {ws:List ByteArray} {s:ByteArray} {q:Nat} (hl:ws.length=q) (hz:∀ i,(ws.getD i ⟨#[]⟩).size≤i) (hs:s.size≤q) (i:Nat):((ws ++ [s]).getD i ⟨#[]⟩).size≤i:=by
 rcases Nat.lt_or_ge i q with h|h
 ·rw [List.getD_eq_getElem?_getD,List.getElem?_append_left (by rw [hl];exact h),← List.getD_eq_getElem?_getD]
  exact hz i
 ·rcases Nat.eq_or_lt_of_le h with e|h
  ·subst e
   rw [List.getD_eq_getElem?_getD,List.getElem?_append_right (by rw [hl];exact Nat.le_refl _),hl]
   simpa using hs
  ·rw [List.getD_eq_getElem?_getD,List.getElem?_eq_none (by simp [hl];omega)]
   simp [ByteArray.size]
inductive MidS (w0:World) (P o mb n:Nat) (gA:Option Addr) (gN gC:Nat) (gs els:List (List Nat)) (pre las:List Int) (right:List (List Nat)) (m q c d ub:Nat) (sW:Option Addr) (cW:Nat) (tl:List RowS) (w:World):Prop
 | mk (X:Nat→Prop) (u:Nat) (us hsE hsR:List Value) (ws:List ByteArray) (sE:Option Addr) (cE:Nat) (sP:Option Addr) (cP:Nat) (sL:Option Addr) (cL:Nat) (sR:Option Addr) (cR:Nat) (sU:Option Addr) (cU:Nat)
  (hl:els.length=m) (hpl:pre.length=m) (hll:las.length=m) (hrl:right.length=d) (hit:∀ f∈els,IsT n f) (hu:u≤ub) (hwl:ws.length=q) (hwz:∀ i,(ws.getD i ⟨#[]⟩).size≤i)
  (hM:EMem X w ([⟨P,22,.slice sE m cE,m,hsE,1⟩,⟨P,3,.slice sP m cP,m,ints pre,1⟩,⟨P,3,.slice sL m cL,m,ints las,1⟩,⟨P,22,.slice sR d cR,d,hsR,1⟩,⟨P,140,.slice sU u cU,u,us,2⟩,⟨P,9,.slice sW q cW,q,bstrs ws,1⟩] ++ tl))
  (hE:RowsX X 3 nats w hsE els) (hR:RowsX X 3 nats w hsR right) (hG:TX X w (.slice gA gN gC) gs) (hX:¬ X o∧¬ X (P+1)∧¬ X mb) (hMap:wX w mb c)
  (hB:w.heap[o]?=some (.cells #[.int .i64 n,.bool true,.slice gA gN gC,.slice sE m cE,.slice sP m cP,.slice sL m cL,.slice sR d cR,.slice sU u cU,.int .i64 d] 106 (0,0)))
  (hBP:w.heap[P+1]?=some (.cells #[.int .i64 0,.bool false,.slice none 0 0,.slice none 0 0,.slice none 0 0,.slice none 0 0,.slice none 0 0,.slice none 0 0,.int .i64 0] 106 (0,0))) (hg:w0.grownBy w none)
section
variable {w0 w:World} {P o mb n gN gC m q c d ub cW:Nat} {gA sW:Option Addr} {gs els right:List (List Nat)} {pre las:List Int} {tl:List RowS}
theorem MidS.app (h:MidS w0 P o mb n gA gN gC gs els pre las right m q c d ub sW cW tl w) (hP0:w0.heap.size≤P):∃ ws,w.ownsRow P 9 1 (.slice sW q cW) q (bstrs ws)∧∀ (s:ByteArray) (sW':Option Addr) (cW':Nat) (w':World),s.size≤q→w'.ownsRow P 9 1 (.slice sW' (q+1) cW') (q+1) (bstrs ws ++ [.string s])→w.grownBy w' (Value.slice sW q cW).ownBlock→Moved w w' (.slice sW q cW) (.slice sW' (q+1) cW')→MidS w0 P o mb n gA gN gC gs els pre las right m (q+1) c d ub sW' cW' tl w':=by
 obtain ⟨X,u,us,hsE,hsR,ws,sE,cE,sP,cP,sL,cL,sR,cR,sU,cU,hl,hpl,hll,hrl,hit,hu,hwl,hwz,hM,hE,hR,hG,hX,hMap,hB,hBP,hg⟩:=h
 have ho:w.ownsRow P 9 1 (.slice sW q cW) q (bstrs ws):=hM.own ⟨P,9,.slice sW q cW,q,bstrs ws,1⟩ (by simp)
 refine ⟨ws,ho,fun s sW' cW' w' hs ho' hg' hm'=>?_⟩
 have k:=KeepX.of_grown hM.lt hg' (fun j e hx=>hM.offX ⟨P,9,.slice sW q cW,q,bstrs ws,1⟩ (by simp) j e hx)
 refine .mk X u us hsE hsR (ws ++ [s]) sE cE sP cP sL cL sR cR sU cU hl hpl hll hrl hit hu (by simp [hwl]) (words_snoc hwl hwz hs) ?_ (hE.kept k hg'.size) (hR.kept k hg'.size) (hG.kept k hg'.size) hX (hMap.kept hg' (hMap.ne_own ho)) (zE hB hg' (zS ho hB (by decide))) (zE hBP hg' (zS ho hBP (by decide))) (zF hg hg' (fun j e=>by have:=(ho.lt j e).1;omega))
 rw [bstrs_snoc]
 exact hM.appAt (j:=5) rfl (us:=[.string s]) ho' hg' hm'
theorem MidS.put (h:MidS w0 P o mb n gA gN gC gs els pre las right m q c d ub sW cW tl w) (hP0:w0.heap.size≤mb):wX w mb c∧∀ w',wX w' mb (c+1)→w.grownBy w' (some mb)→q=m→c+1=m→ProcS w0 P o mb n gA gN gC gs els pre las right m d ub sW cW tl w':=by
 obtain ⟨X,u,us,hsE,hsR,ws,sE,cE,sP,cP,sL,cL,sR,cR,sU,cU,hl,hpl,hll,hrl,hit,hu,hwl,hwz,hM,hE,hR,hG,hX,hMap,hB,hBP,hg⟩:=h
 refine ⟨hMap,fun w' hMap' hg' e1 e2=>?_⟩
 subst e1;subst e2
 have k:=KeepX.of_grown hM.lt hg' (fun j e hx=>by have e:mb=j:=Oj e;subst e;exact hX.2.2 hx)
 exact .mk X u us hsE hsR ws sE cE sP cP sL cL sR cR sU cU hl hpl hll hrl hit hu hwl hwz (hM.far hg' (fun r hr=>hMap.ne_own (hM.own r hr))) (hE.kept k hg'.size) (hR.kept k hg'.size) (hG.kept k hg'.size) hX hMap' (zE hB hg' (fun e=>hMap.ne_cells hB (Oj e).symm)) (zE hBP hg' (fun e=>hMap.ne_cells hBP (Oj e).symm)) (zF hg hg' (fun j e=>by have e:mb=j:=Oj e;omega))
theorem ProcS.row {x:Nat} {sr:Option Addr} {cr:Nat} {ro:List Nat} (h:ProcS w0 P o mb n gA gN gC gs els pre las right m d ub sW cW [⟨P,3,.slice sr x cr,x,nats ro,1⟩] w) (hP0:w0.heap.size≤P):w.ownsRow P 3 1 (.slice sr x cr) x (nats ro)∧∀ (i:Nat) (sr':Option Addr) (cr':Nat) (w':World),w'.ownsRow P 3 1 (.slice sr' (x+1) cr') (x+1) (nats ro ++ [.int .i64 (i:Int)])→w.grownBy w' (Value.slice sr x cr).ownBlock→Moved w w' (.slice sr x cr) (.slice sr' (x+1) cr')→ProcS w0 P o mb n gA gN gC gs els pre las right m d ub sW cW [⟨P,3,.slice sr' (x+1) cr',x+1,nats (ro ++ [i]),1⟩] w':=by
 obtain ⟨X,u,us,hsE,hsR,ws,sE,cE,sP,cP,sL,cL,sR,cR,sU,cU,hl,hpl,hll,hrl,hit,hu,hwl,hwz,hM,hE,hR,hG,hX,hMap,hB,hBP,hg⟩:=h
 have ho:w.ownsRow P 3 1 (.slice sr x cr) x (nats ro):=hM.own ⟨P,3,.slice sr x cr,x,nats ro,1⟩ (by simp)
 refine ⟨ho,fun i sr' cr' w' ho' hg' hm'=>?_⟩
 have k:=KeepX.of_grown hM.lt hg' (fun j e hx=>hM.offX ⟨P,3,.slice sr x cr,x,nats ro,1⟩ (by simp) j e hx)
 refine .mk X u us hsE hsR ws sE cE sP cP sL cL sR cR sU cU hl hpl hll hrl hit hu hwl hwz ?_ (hE.kept k hg'.size) (hR.kept k hg'.size) (hG.kept k hg'.size) hX (hMap.kept hg' (hMap.ne_own ho)) (zE hB hg' (zS ho hB (by decide))) (zE hBP hg' (zS ho hBP (by decide))) (zF hg hg' (fun j e=>by have:=(ho.lt j e).1;omega))
 rw [show nats (ro ++ [i])=nats ro ++ [.int .i64 (i:Int)] by simp [nats]]
 exact hM.appAt (j:=6) rfl (us:=[.int .i64 (i:Int)]) ho' hg' hm'
theorem ProcS.more {ub':Nat} (h:ProcS w0 P o mb n gA gN gC gs els pre las right m d ub sW cW tl w) (hu':ub≤ub'):ProcS w0 P o mb n gA gN gC gs els pre las right m d ub' sW cW tl w:=by
 obtain ⟨X,u,us,hsE,hsR,ws,sE,cE,sP,cP,sL,cL,sR,cR,sU,cU,hl,hpl,hll,hrl,hit,hu,hwl,hwz,hM,hE,hR,hG,hX,hMap,hB,hBP,hg⟩:=h
 exact .mk X u us hsE hsR ws sE cE sP cP sL cL sR cR sU cU hl hpl hll hrl hit (Nat.le_trans hu hu') hwl hwz hM hE hR hG hX hMap hB hBP hg
theorem ProcS.grow {w':World} (h:ProcS w0 P o mb n gA gN gC gs els pre las right m d ub sW cW tl w) (hg':w.grownBy w' none):ProcS w0 P o mb n gA gN gC gs els pre las right m d ub sW cW tl w':=by
 obtain ⟨X,u,us,hsE,hsR,ws,sE,cE,sP,cP,sL,cL,sR,cR,sU,cU,hl,hpl,hll,hrl,hit,hu,hwl,hwz,hM,hE,hR,hG,hX,hMap,hB,hBP,hg⟩:=h
 have k:=hM.keep hg'
 exact .mk X u us hsE hsR ws sE cE sP cP sL cL sR cR sU cU hl hpl hll hrl hit hu hwl hwz (hM.grow hg') (hE.kept k hg'.size) (hR.kept k hg'.size) (hG.kept k hg'.size) hX (hMap.kept hg' (by simp)) (zE hB hg' (by simp)) (zE hBP hg' (by simp)) (zF hg hg' (by simp))
theorem wX.same {w w':World} {b q:Nat} (h:wX w b q) (e:w'.heap[b]?=w.heap[b]?):wX w' b q:=by
 obtain ⟨D,es,clock,hb,h2⟩:=h
 exact ⟨D,es,clock,e.trans hb,h2⟩
theorem ProcS.new24 {w4:World} {gf x:Nat} {f:List Nat} (h:ProcS w0 P o mb n gA gN gC gs els pre las right m d ub sW cW tl w) (hP0:w0.heap.size≤P) (hoP:P+1 < o) (hg4:w.grownBy w4 none) (hgf:w.heap.size≤gf) (hAf:Arr w4 gf 3 (nats f)) (hfl:f.length=n) (hn:n≤maxLen) (hfi:IsT n f) (htl:∀ r∈tl,r.base=P∧r.e≠106) :
  ∃ (FF:Nat→Prop) (u:Nat) (hsE:List Value) (rest:List RowS) (sE:Option Addr) (cE:Nat) (sP:Option Addr) (cP:Nat) (sL:Option Addr) (cL:Nat) (sR:Option Addr) (cR:Nat) (sU:Option Addr) (cU:Nat),FF o∧P≤w4.heap.size∧o < w4.heap.size∧(∀ r∈rest,r.e≠106) ∧
   w4.heap[o]?=some (.cells #[.int .i64 n,.bool true,.slice gA gN gC,.slice sE m cE,.slice sP m cP,.slice sL m cL,.slice sR d cR,.slice sU u cU,.int .i64 d] 106 (0,0)) ∧
   Many w4 FF w4 (⟨P,22,.slice sE m cE,m,hsE,1⟩ :: ⟨P,3,.slice sP m cP,m,ints pre,1⟩ :: ⟨P,3,.slice sL m cL,m,ints las,1⟩ :: rest) [] [] ∧
   ∀ (w6:World) (s1:Option Addr) (c1:Nat) (s2:Option Addr) (c2:Nat) (s3:Option Addr) (c3:Nat) (ls:List (Nat × Obj)),Many w4 FF w6 (⟨P,22,.slice s1 (m+1) c1,m+1,hsE ++ [.slice (some ⟨gf,0,none⟩) n n],1⟩ :: ⟨P,3,.slice s2 (m+1) c2,m+1,ints pre ++ [.int .i64 (d:Int)],1⟩ :: ⟨P,3,.slice s3 (m+1) c3,m+1,ints las ++ [.int .i64 (x:Int)],1⟩ :: rest) ls [] →
    w6.heap[o]?=some (.cells #[.int .i64 n,.bool true,.slice gA gN gC,.slice s1 (m+1) c1,.slice s2 (m+1) c2,.slice s3 (m+1) c3,.slice sR d cR,.slice sU u cU,.int .i64 d] 106 (0,0)) →
    MidS w0 P o mb n gA gN gC gs (els ++ [f]) (pre ++ [(d:Int)]) (las ++ [(x:Int)]) right (m+1) m m d ub sW cW tl w6:=by
 obtain ⟨X,u,us,hsE,hsR,ws,sE,cE,sP,cP,sL,cL,sR,cR,sU,cU,hl,hpl,hll,hrl,hit,hu,hwl,hwz,hM,hE,hR,hG,hX,hMap,hB,hBP,hg⟩:=h
 have hM4:=hM.fresh (W':=w4) hg4 (Y:=fun j=>j=gf) (fun k e=>by subst e;exact ⟨hgf,hAf.lt⟩)
 have k4:=hM.keep hg4
 have hB4:=zE hB hg4 (by simp)
 have hBP4:=zE hBP hg4 (by simp)
 have hMap4:=hMap.kept hg4 (by simp)
 have ho4:=zQ hB4
 have hXo:¬ (X o∨o=gf):=fun h=>h.elim hX.1 (fun e=>by have:=zQ hB;omega)
 have hXp:¬ (X (P+1)∨P+1=gf):=fun h=>h.elim hX.2.1 (fun e=>by have:=zQ hBP;omega)
 have hXm:¬ (X mb∨mb=gf):=fun h=>h.elim hX.2.2 (fun e=>by have:=hMap.lt;omega)
 have hty:∀ r∈([⟨P,22,.slice sE m cE,m,hsE,1⟩,⟨P,3,.slice sP m cP,m,ints pre,1⟩,⟨P,3,.slice sL m cL,m,ints las,1⟩,⟨P,22,.slice sR d cR,d,hsR,1⟩,⟨P,140,.slice sU u cU,u,us,2⟩,⟨P,9,.slice sW m cW,m,bstrs ws,1⟩] ++ tl),r.base=P∧r.e≠106:=by
  intro r hr
  rcases List.mem_append.1 hr with hr|hr
  ·simp only [List.mem_cons,List.not_mem_nil,or_false] at hr
   rcases hr with rfl|rfl|rfl|rfl|rfl|rfl <;> simp
  ·exact htl r hr
 obtain ⟨rows,hrows⟩:∃ rows:List RowS,rows=[⟨P,22,.slice sE m cE,m,hsE,1⟩,⟨P,3,.slice sP m cP,m,ints pre,1⟩,⟨P,3,.slice sL m cL,m,ints las,1⟩,⟨P,22,.slice sR d cR,d,hsR,1⟩,⟨P,140,.slice sU u cU,u,us,2⟩,⟨P,9,.slice sW m cW,m,bstrs ws,1⟩] ++ tl:=⟨_,rfl⟩
 rw [← hrows] at hM4 hty
 have hfo:∀ k,sS rows k→w0.heap.size≤k∧k≠o∧k≠P+1∧k≠mb∧¬ (X k∨k=gf):=by
  intro k hk
  obtain ⟨r,hr,hk⟩:=hk
  have hown:=hM4.own r hr
  have hr2:=hty r hr
  refine ⟨?_,fun e=>?_,fun e=>?_,fun e=>?_,hM4.offX r hr k hk⟩
  ·have:=(hown.lt k hk).1
   rw [hr2.1] at this;omega
  ·subst e;exact zS hown hB4 hr2.2 hk
  ·subst e;exact zS hown hBP4 hr2.2 hk
  ·subst e;exact hMap4.ne_own hown hk
 have hmo:mb≠o:=fun e=>hMap4.ne_cells hB4 e.symm
 have hFX:∀ k,(sS rows k∨k=o)→¬ (X k∨k=gf):=fun k hk=>hk.elim (fun h=>(hfo k h).2.2.2.2) (fun e=>by subst e;exact hXo)
 refine ⟨fun k=>sS rows k∨k=o,u,hsE,[⟨P,22,.slice sR d cR,d,hsR,1⟩,⟨P,140,.slice sU u cU,u,us,2⟩,⟨P,9,.slice sW m cW,m,bstrs ws,1⟩] ++ tl,sE,cE,sP,cP,sL,cL,sR,cR,sU,cU,.inr rfl,Nat.le_of_lt (Nat.lt_of_succ_lt (zQ hBP4)),ho4,?_,hB4,?_,?_⟩
 ·intro r hr
  exact (hty r (by rw [hrows];exact List.Mem.tail _ (List.Mem.tail _ (List.Mem.tail _ hr)))).2
 ·have:=hM4.many (fun k=>sS rows k∨k=o) (fun k hk=>.inl hk)
  rw [hrows] at this ⊢
  exact this
 ·intro w6 s1 c1 s2 c2 s3 c3 ls hM6 hB6
  have hEM6:=hM4.after hM6 hFX
  have k6:=hM4.keepMany hM6 hFX
  have hBP6:=hM6.but.heap hBP4 (fun h=>h.elim (fun h=>(hfo _ h).2.2.1 rfl) (fun e=>by omega))
  have hMap6:=hMap4.same (hM6.but.block mb hMap4.lt (fun h=>h.elim (fun h=>(hfo _ h).2.2.2.1 rfl) hmo))
  have hg6:=hM6.but.grown (zF hg hg4 (by simp)) (fun k hk=>.inr (hk.elim (fun h=>(hfo k h).1) (fun e=>by omega)))
  have hrf:RowX (fun k=>X k∨k=gf) 3 w4 (.slice (some ⟨gf,0,none⟩) n n) (nats f):=by
   refine ⟨?_,fun j e=>?_⟩
   ·have:=hAf.rowT' (cap:=n) (by rw [zN,hfl];exact Nat.le_refl _) hn
    rwa [zN,hfl] at this
   ·have e:gf=j:=by simpa [Value.ownBlock] using e
    exact .inr e.symm
  refine .mk (fun k=>X k∨k=gf) u us (hsE ++ [.slice (some ⟨gf,0,none⟩) n n]) hsR ws s1 c1 s2 c2 s3 c3 sR cR sU cU (by simp [hl]) (by simp [hpl]) (by simp [hll]) hrl ?_ hu hwl hwz ?_ ((((hE.kept k4 hg4.size).mono (fun k hk=>.inl hk)).snoc hrf).kept k6 hM6.but.size) (((hR.kept k4 hg4.size).mono (fun k hk=>.inl hk)).kept k6 hM6.but.size) (((hG.kept k4 hg4.size).mono (fun k hk=>.inl hk)).kept k6 hM6.but.size) ⟨hXo,hXp,hXm⟩ hMap6 hB6 hBP6 hg6
  ·intro g hg
   rcases List.mem_append.1 hg with h|h
   ·exact hit g h
   ·rw [List.mem_singleton] at h;subst h;exact hfi
  ·rw [show ints (pre ++ [(d:Int)])=ints pre ++ [.int .i64 (d:Int)] by simp [ints],show ints (las ++ [(x:Int)])=ints las ++ [.int .i64 (x:Int)] by simp [ints]]
   exact hEM6
theorem ProcS.word (h:ProcS w0 P o mb n gA gN gC gs els pre las right m d ub sW cW tl w) {i:Nat} (hi:i < m):∃ (lb:Nat) (V:ByteArray),sW=some ⟨lb,0,none⟩∧m≤cW∧cW≤maxLen∧w.cell? ⟨lb,i,none⟩=some (.string V)∧V.size≤i:=by
 obtain ⟨X,u,us,hsE,hsR,ws,sE,cE,sP,cP,sL,cL,sR,cR,sU,cU,hl,hpl,hll,hrl,hit,hu,hwl,hwz,hM,hE,hR,hG,hX,hMap,hB,hBP,hg⟩:=h
 have ho:w.ownsRow P 9 1 (.slice sW m cW) m (bstrs ws):=hM.own ⟨P,9,.slice sW m cW,m,bstrs ws,1⟩ (by simp)
 obtain ⟨lb,rfl,hl1,hl2,hLA⟩:=yQ ho (by omega)
 have hcell:=hLA.cell i (by simp [bstrs,hwl];exact hi)
 have hcd:(bstrs ws)[i]'(by simp [bstrs,hwl];exact hi)=.string (ws.getD i ⟨#[]⟩):=by
  simp [bstrs,List.getD_eq_getElem?_getD,hwl,hi]
 rw [hcd] at hcell
 exact ⟨lb,_,rfl,hl1,hl2,hcell,hwz i⟩
theorem cell_owned {w w':World} {b e n lb c i:Nat} {xs:List Value} {u:Value} (h:w.ownsRow b e 1 (.slice (some ⟨lb,0,none⟩) n c) n xs) (h':w'.ownsRow b e 1 (.slice (some ⟨lb,0,none⟩) n c) n xs) (hi:i < n) (hc:w.cell? ⟨lb,i,none⟩=some u):w'.cell? ⟨lb,i,none⟩=some u:=by
 have hl:xs.length=n:=by have:=h.1;omega
 obtain ⟨k,e1,_,_,hA⟩:=yQ h (by omega)
 obtain ⟨k',e2,_,_,hA'⟩:=yQ h' (by omega)
 have e1:lb=k:=by simpa using e1
 have e2:lb=k':=by simpa using e2
 subst e1;subst e2
 rw [hA.cell i (by omega)] at hc
 rw [hA'.cell i (by omega),hc]
theorem ProcS.new30 {lb:Nat} (h:ProcS w0 P o mb n gA gN gC gs els pre las right m d ub (some ⟨lb,0,none⟩) cW tl w) (hP0:w0.heap.size≤P) (hoP:P+1 < o) (htl:∀ r∈tl,r.base=P∧r.e≠106) :
  ∃ (u:Nat) (us:List Value) (sU:Option Addr) (cU:Nat) (rs:List RowS),w.cell? ⟨o,7,none⟩=some (.slice sU u cU)∧u≤ub∧rs[4]?=some ⟨P,140,.slice sU u cU,u,us,2⟩∧∀ w9,w.grownBy w9 none→Many w9 (sS rs) w9 rs [] []∧P≤w9.heap.size ∧
   ∀ (wM:World) (sU':Option Addr) (cU':Nat) (us2:List Value),Many w9 (sS rs) wM (rs.set 4 ⟨P,140,.slice sU' (u+1) cU',u+1,us ++ us2,2⟩) [] [] →
    wM.cell? ⟨o,7,none⟩=some (.slice sU u cU)∧wM.frozen? ⟨o,7,none⟩=false∧(∀ (i:Nat) (V:Value),i < m→w.cell? ⟨lb,i,none⟩=some V→wM.cell? ⟨lb,i,none⟩=some V) ∧
    ProcS w0 P o mb n gA gN gC gs els pre las right m d (ub+1) (some ⟨lb,0,none⟩) cW tl (wM.setCell ⟨o,7,none⟩ (.slice sU' (u+1) cU')):=by
 obtain ⟨X,u,us,hsE,hsR,ws,sE,cE,sP,cP,sL,cL,sR,cR,sU,cU,hl,hpl,hll,hrl,hit,hu,hwl,hwz,hM,hE,hR,hG,hX,hMap,hB,hBP,hg⟩:=h
 refine ⟨u,us,sU,cU,[⟨P,22,.slice sE m cE,m,hsE,1⟩,⟨P,3,.slice sP m cP,m,ints pre,1⟩,⟨P,3,.slice sL m cL,m,ints las,1⟩,⟨P,22,.slice sR d cR,d,hsR,1⟩,⟨P,140,.slice sU u cU,u,us,2⟩,⟨P,9,.slice (some ⟨lb,0,none⟩) m cW,m,bstrs ws,1⟩] ++ tl,(zW hB).2.2.2.2.2.2.2.1,hu,rfl,fun w9 hg9=>?_⟩
 have hM9:=hM.grow hg9
 have k9:=hM.keep hg9
 have hB9:=zE hB hg9 (by simp)
 have hBP9:=zE hBP hg9 (by simp)
 have hMap9:=hMap.kept hg9 (by simp)
 refine ⟨hM9.many (sS _) (fun _ h=>h),by have:=zQ hBP9;omega,fun wM sU' cU' us2 hMM=>?_⟩
 have hty:∀ r∈([⟨P,22,.slice sE m cE,m,hsE,1⟩,⟨P,3,.slice sP m cP,m,ints pre,1⟩,⟨P,3,.slice sL m cL,m,ints las,1⟩,⟨P,22,.slice sR d cR,d,hsR,1⟩,⟨P,140,.slice sU u cU,u,us,2⟩,⟨P,9,.slice (some ⟨lb,0,none⟩) m cW,m,bstrs ws,1⟩] ++ tl),r.base=P∧r.e≠106:=by
  intro r hr
  rcases List.mem_append.1 hr with hr|hr
  ·simp only [List.mem_cons,List.not_mem_nil,or_false] at hr
   rcases hr with rfl|rfl|rfl|rfl|rfl|rfl <;> simp
  ·exact htl r hr
 have hfo:∀ k,sS ([⟨P,22,.slice sE m cE,m,hsE,1⟩,⟨P,3,.slice sP m cP,m,ints pre,1⟩,⟨P,3,.slice sL m cL,m,ints las,1⟩,⟨P,22,.slice sR d cR,d,hsR,1⟩,⟨P,140,.slice sU u cU,u,us,2⟩,⟨P,9,.slice (some ⟨lb,0,none⟩) m cW,m,bstrs ws,1⟩] ++ tl) k→w0.heap.size≤k∧k≠o∧k≠P+1∧k≠mb∧¬ X k:=by
  intro k hk
  obtain ⟨r,hr,hk⟩:=hk
  have hown:=hM9.own r hr
  have hr2:=hty r hr
  refine ⟨?_,fun e=>?_,fun e=>?_,fun e=>?_,hM9.offX r hr k hk⟩
  ·have:=(hown.lt k hk).1
   rw [hr2.1] at this;omega
  ·subst e;exact zS hown hB9 hr2.2 hk
  ·subst e;exact zS hown hBP9 hr2.2 hk
  ·subst e;exact hMap9.ne_own hown hk
 have hEM:=hM9.after hMM (fun k hk=>(hfo k hk).2.2.2.2)
 have kM:=hM9.keepMany hMM (fun k hk=>(hfo k hk).2.2.2.2)
 have hBM:=hMM.but.heap hB9 (fun hj=>(hfo o hj).2.1 rfl)
 have hBPM:=hMM.but.heap hBP9 (fun hj=>(hfo _ hj).2.2.1 rfl)
 have hMapM:=hMap9.same (hMM.but.block mb hMap9.lt (fun hj=>(hfo _ hj).2.2.2.1 rfl))
 have hgM:=hMM.but.grown (zF hg hg9 (by simp)) (fun k hk=>.inr (hfo k hk).1)
 have hsS:=heap_setCell_same wM o 7 _ _ (.slice sU' (u+1) cU') hBM
 have hgS:=zH wM ⟨o,7,none⟩ (.slice sU' (u+1) cU')
 have kS:KeepX X wM _:=KeepX.of_grown hEM.lt hgS (fun j e hx=>by have e:o=j:=Oj e;subst e;exact hX.1 hx)
 refine ⟨(zW hBM).2.2.2.2.2.2.2.1,zD hBM 7,fun i V hi hc=>?_,?_⟩
 ·have h1:w.ownsRow P 9 1 (.slice (some ⟨lb,0,none⟩) m cW) m (bstrs ws):=hM.own ⟨P,9,.slice (some ⟨lb,0,none⟩) m cW,m,bstrs ws,1⟩ (by simp)
  have h2:wM.ownsRow P 9 1 (.slice (some ⟨lb,0,none⟩) m cW) m (bstrs ws):=hMM.own 5 ⟨P,9,.slice (some ⟨lb,0,none⟩) m cW,m,bstrs ws,1⟩ rfl
  exact cell_owned h1 h2 hi hc
 ·refine .mk X (u+1) (us ++ us2) hsE hsR ws sE cE sP cP sL cL sR cR sU' cU' hl hpl hll hrl hit (by omega) hwl hwz (hEM.far hgS (fun r hr=>zS (hEM.own r hr) hBM ?_)) ((hE.kept k9 hg9.size).kept kM hMM.but.size |>.kept kS hgS.size) ((hR.kept k9 hg9.size).kept kM hMM.but.size |>.kept kS hgS.size) ((hG.kept k9 hg9.size).kept kM hMM.but.size |>.kept kS hgS.size) hX (hMapM.kept hgS (fun e=>hMapM.ne_cells hBM (Oj e))) (by simpa using hsS) (zE hBPM hgS (by simp;omega)) (zF hgM hgS (fun j e=>by have e:o=j:=Oj e;omega))
  simp only [List.cons_append,List.nil_append,List.set_cons_zero,List.set_cons_succ,List.mem_cons] at hr
  rcases hr with rfl|rfl|rfl|rfl|rfl|rfl|hr
  ·simp
  ·simp
  ·simp
  ·simp
  ·simp
  ·simp
  ·exact (htl r hr).2
end
end Go.Proofs.YtdjhoadoiknaoaaDoor
