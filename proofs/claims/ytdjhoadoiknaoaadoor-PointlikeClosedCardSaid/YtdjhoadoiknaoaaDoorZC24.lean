/- Part 24 of the proof: Half, App1, MDfa. -/
import Derived.Test.YtdjhoadoiknaoaaDoorZC23
set_option linter.unusedVariables false
set_option linter.unusedSimpArgs false
namespace Go.Proofs.YtdjhoadoiknaoaaDoor
open Go.RowKit
structure OwnsT (base:Nat) (W:World) (hs:List Value) (t:List (List Int)):Prop where
 len:hs.length=t.length
 own:∀ i (h:i < hs.length) (h':i < t.length),W.ownsRow base 3 1 hs[i] t[i].length (ints t[i])
 dis:∀ i j (hi:i < hs.length) (hj:j < hs.length),i≠j→∀ k,hs[i].ownBlock=some k→hs[j].ownBlock≠some k
section
variable {base:Nat} {W W':World} {hs:List Value} {t:List (List Int)}
theorem OwnsT.nil:OwnsT base W [] []:=⟨rfl,fun i h=>by simp at h,fun i j h=>by simp at h⟩
theorem OwnsT.rowsT (h:OwnsT base W hs t):RowsT W.heap.size 3 ints W hs t:=⟨h.len,fun i h1 h2=>RowT.of_owns (h.own i h1 h2)⟩
theorem owns_keep {row:Option Nat} {v:Value} {n:Nat} {xs:List Value} (h:W.ownsRow base 3 1 v n xs) (hg:W.grownBy W' row) (hr:∀ k,row=some k→k < base∨wE W 3 k):W'.ownsRow base 3 1 v n xs:=by
 refine h.kept hg ?_
 rcases hv:v.ownBlock with _|k
 ·exact .inl rfl
 ·refine .inr fun e=>?_
  rcases hr k e.symm with hk|⟨c,e',m,hp,hne⟩
  ·have:=(h.lt k hv).1;omega
  ·exact zS h hp (Ne.symm hne) hv
theorem OwnsT.kept {row:Option Nat} (h:OwnsT base W hs t) (hg:W.grownBy W' row) (hr:∀ k,row=some k→k < base∨wE W 3 k):OwnsT base W' hs t :=
 ⟨h.len,fun i h1 h2=>owns_keep (h.own i h1 h2) hg hr,h.dis⟩
theorem OwnsT.snoc {v:Value} {r:List Int} (h:OwnsT base W hs t) (ho:W.ownsRow base 3 1 v r.length (ints r)) (hd:∀ i (hi:i < hs.length),∀ k,hs[i].ownBlock=some k→v.ownBlock≠some k):OwnsT base W (hs ++ [v]) (t ++ [r]):=by
 have hl:=h.len
 refine ⟨by simp [hl],fun i h1 h2=>?_,fun i j hi hj hij k hk=>?_⟩
 ·by_cases hi:i < hs.length
  ·have:=h.own i hi (by omega)
   rw [List.getElem_append_left hi]
   simp only [List.getElem_append_left (show i < t.length by omega)]
   exact this
  ·have e:i=hs.length:=by simp at h1;omega
   subst e
   rw [List.getElem_append_right (Nat.le_refl _)]
   simp only [List.getElem_append_right (show t.length≤hs.length by omega)]
   simpa [hl] using ho
 ·simp only [List.length_append,List.length_singleton] at hi hj
  by_cases h1:i < hs.length
  ·rw [List.getElem_append_left h1] at hk
   by_cases h2:j < hs.length
   ·rw [List.getElem_append_left h2];exact h.dis i j h1 h2 hij k hk
   ·have e:j=hs.length:=by omega
    subst e
    rw [List.getElem_append_right (Nat.le_refl _)]
    simpa using hd i h1 k hk
  ·have e:i=hs.length:=by omega
   subst e
   rw [List.getElem_append_right (Nat.le_refl _)] at hk
   have h2:j < hs.length:=by omega
   rw [List.getElem_append_left h2]
   intro e
   exact hd j h2 k e (by simpa using hk)
theorem OwnsT.lt (h:OwnsT base W hs t) {i:Nat} (hi:i < hs.length) {k:Nat} (hk:hs[i].ownBlock=some k):base≤k∧k < W.heap.size:=(h.own i hi (by rw [← h.len];exact hi)).lt k hk
theorem OwnsT.at (h:OwnsT base W hs t) {q:Nat} (hq:q < t.length) (hp:0 < (t.getD q []).length):∃ g c,hs[q]?=some (.slice (some ⟨g,0,none⟩) (t.getD q []).length c)∧(t.getD q []).length≤c∧c≤maxLen∧base≤g∧Arr W g 3 (ints (t.getD q [])):=by
 have hq':q < hs.length:=by rw [h.len];exact hq
 have ho:=h.own q hq' hq
 have e:t.getD q []=t[q]:=by simp [List.getD_eq_getElem?_getD,hq]
 rw [e] at hp ⊢
 obtain ⟨sa,sc,hv⟩:=tX ho
 rw [hv] at ho
 obtain ⟨kb,rfl,h1,h2,h3⟩:=yQ ho hp
 refine ⟨kb,sc,by rw [List.getElem?_eq_getElem hq',hv],h1,h2,(ho.lt kb rfl).1,h3⟩
theorem OwnsT.poke (h:OwnsT base W hs t) {q g a c n:Nat} (hv:hs[q]?=some (.slice (some ⟨g,0,none⟩) n c)) (ha:a < (t.getD q []).length) (x:Int):OwnsT base (W.setCell ⟨g,a,none⟩ (.int .i64 x)) hs (t.set q ((t.getD q []).set a x)):=by
 obtain ⟨hq,he⟩:=List.getElem?_eq_some_iff.1 hv
 have hl:=h.len
 have hg:=zH W ⟨g,a,none⟩ (.int .i64 x)
 refine ⟨by simp [hl],fun i h1 h2=>?_,h.dis⟩
 rw [List.length_set] at h2
 by_cases e:q=i
 ·subst e
  have ho:=h.own q h1 h2
  have e2:t.getD q []=t[q]:=by simp [List.getD_eq_getElem?_getD,h2]
  rw [e2] at ha
  simp only [List.getElem_set_self,e2]
  rw [he] at ho ⊢
  obtain ⟨hl1,ho⟩:=ho
  refine ⟨by simp [ints],?_⟩
  rcases ho with ⟨h7,_⟩|⟨g',cap,cur,hs',hb,hgc,hc1,hc2,hc3,hc4⟩
  ·simp at h7
  ·simp only [Value.slice.injEq,Option.some.injEq,Addr.mk.injEq,and_true] at hs'
   obtain ⟨rfl,hn,rfl⟩:=hs'
   subst hn
   refine .inr ⟨g,c,cur.setIfInBounds a (.int .i64 x),by simp,hb,heap_setCell_same W g a _ _ _ hgc,by simpa using hc1,hc2,by simpa using hc3,?_⟩
   simp only [List.length_set,Nat.mul_one] at hc4 ⊢
   rw [Array.toList_setIfInBounds,List.take_set,hc4]
   simp [ints,List.map_set]
 ·have ho:=h.own i h1 h2
  simp only [List.getElem_set_ne e]
  exact ho.kept hg (by
   rcases hv2:hs[i].ownBlock with _|k
   ·exact .inl rfl
   ·refine .inr fun e3=>?_
    have e3:=Oj e3
    subst e3
    exact h.dis i q h1 hq (fun e4=>e e4.symm) _ hv2 (by rw [he];rfl))
end
structure Half (base:Nat) (W:World) (o:Nat) (L S:Int) (fs:List Bool) (t:List (List Int)) (hs:List Value) (sf:Option Addr) (cf:Nat) (sn:Option Addr) (cn:Nat):Prop where
 box:W.heap[o]?=some (.cells #[.int .i64 L,.int .i64 S,.slice sf fs.length cf,.slice sn t.length cn] 28 (0,0))
 ownF:W.ownsRow base 4 1 (.slice sf fs.length cf) fs.length (bls fs)
 ownN:W.ownsRow base 22 1 (.slice sn t.length cn) t.length hs
 rows:OwnsT base W hs t
section
variable {base o:Nat} {W W':World} {L S:Int} {fs:List Bool} {t:List (List Int)} {hs:List Value} {sf sn:Option Addr} {cf cn:Nat}
theorem Half.built (h:Half base W o L S fs t hs sf cf sn cn) (hl:fs.length=t.length):Built base W o L S fs t hs sf cf sn cn:=⟨h.box,h.ownF,h.ownN,h.rows.rowsT,hl⟩
theorem Half.far {r:Nat} {cs:Array Value} {m:Nat × Nat} (h:Half base W o L S fs t hs sf cf sn cn) (hg:W.grownBy W' (some r)) (hr:W.heap[r]?=some (.cells cs 28 m)) (hne:r≠o):Half base W' o L S fs t hs sf cf sn cn where
 box:=zE h.box hg (fun e=>hne (Oj e))
 ownF:=h.ownF.kept hg (.inr (zS h.ownF hr (by decide)))
 ownN:=h.ownN.kept hg (.inr (zS h.ownN hr (by decide)))
 rows:=h.rows.kept hg (fun k hk=>.inr (by have:=Oj hk;subst this;exact ⟨_,_,_,hr,by decide⟩))
theorem Half.grow (h:Half base W o L S fs t hs sf cf sn cn) (hg:W.grownBy W' none):Half base W' o L S fs t hs sf cf sn cn where
 box:=zE h.box hg (by simp)
 ownF:=yB h.ownF hg (by simp)
 ownN:=yB h.ownN hg (by simp)
 rows:=h.rows.kept hg (by simp)
theorem Half.tape {B tb:Nat} (h:Half base W o L S fs t hs sf cf sn cn) (hT:xW B W tb) (hg:W.grownBy W' (some tb)):Half base W' o L S fs t hs sf cf sn cn:=by
 obtain ⟨sl,zs,n,hr,_⟩:=hT
 refine ⟨zE h.box hg (fun e=>?_),h.ownF.kept hg (.inr (zS h.ownF hr (by decide))),h.ownN.kept hg (.inr (zS h.ownN hr (by decide))),?_⟩
 ·have e:=Oj e
  have h1:=h.box
  rw [← e,hr] at h1
  simp at h1
 ·exact h.rows.kept hg (fun k hk=>.inr (by have:=Oj hk;subst this;exact ⟨_,_,_,hr,by decide⟩))
theorem owns_two {w:World} {base e e' n n':Nat} {v v':Value} {xs ys:List Value} (h:w.ownsRow base e 1 v n xs) (h':w.ownsRow base e' 1 v' n' ys) (hne:e≠e'):v.ownBlock=none∨v.ownBlock≠v'.ownBlock:=by
 rcases hv:v.ownBlock with _|k
 ·exact .inl rfl
 ·refine .inr (fun e2=>?_)
  obtain ⟨c,e3,m,hp,h3⟩:=tD h' (Ne.symm hne) k e2.symm
  exact zS h hp (Ne.symm h3) hv
theorem Half.pushF {b:Bool} {sf':Option Addr} {cf':Nat} (h:Half base W o L S fs t hs sf cf sn cn) (ho:W'.ownsRow base 4 1 (.slice sf' (fs.length+1) cf') (fs.length+1) (bls fs ++ [.bool b])) (hg:W.grownBy W' (Value.slice sf fs.length cf).ownBlock) {W2:World} (hW2:W2=W'.setCell ⟨o,2,none⟩ (.slice sf' (fs.length+1) cf')) :
  Half base W2 o L S (fs ++ [b]) t hs sf' cf' sn cn∧∀ w0:World,w0.grownBy W (some o)→w0.heap.size≤base→w0.grownBy W2 (some o):=by
 have hbox:=zE h.box hg (fun e=>zS h.ownF h.box (by decide) e)
 have s1:=heap_setCell_same W' o 2 _ _ (.slice sf' (fs.length+1) cf') hbox
 have g1:W'.grownBy W2 (some o):=by rw [hW2];exact zH W' ⟨o,2,none⟩ _
 have hoth:wE W' 3 o:=⟨_,_,_,hbox,by decide⟩
 have hN:=h.ownN.kept hg (owns_two h.ownN h.ownF (by decide))
 have hR:=h.rows.kept hg (fun k hk=>.inr (tD h.ownF (by decide) k hk))
 refine ⟨⟨?_,?_,hN.kept g1 (.inr (zS hN hbox (by decide))),hR.kept g1 (fun k hk=>.inr (by have:=Oj hk;subst this;exact hoth))⟩,fun w0 hw0 hb=>?_⟩
 ·rw [hW2,s1];simp
 ·have:=ho.kept g1 (.inr (zS ho hbox (by decide)))
  rw [List.length_append]
  simpa [bls] using this
 ·exact zG (zF hw0 hg (fun k hk=>Nat.le_trans hb (h.ownF.lt k hk).1)) g1
theorem Half.pushN {row:List Int} {rv:Value} {sn':Option Addr} {cn':Nat} (h:Half base W o L S fs t hs sf cf sn cn) (ho:W'.ownsRow base 22 1 (.slice sn' (t.length+1) cn') (t.length+1) (hs ++ [rv])) (hg:W.grownBy W' (Value.slice sn t.length cn).ownBlock)
  (hrow:W.ownsRow base 3 1 rv row.length (ints row)) (hdis:∀ i (hi:i < hs.length),∀ k,hs[i].ownBlock=some k→rv.ownBlock≠some k) {W2:World} (hW2:W2=W'.setCell ⟨o,3,none⟩ (.slice sn' (t.length+1) cn')) :
  Half base W2 o L S fs (t ++ [row]) (hs ++ [rv]) sf cf sn' cn'∧∀ w0:World,w0.grownBy W (some o)→w0.heap.size≤base→w0.grownBy W2 (some o):=by
 have hbox:=zE h.box hg (fun e=>zS h.ownN h.box (by decide) e)
 have s1:=heap_setCell_same W' o 3 _ _ (.slice sn' (t.length+1) cn') hbox
 have g1:W'.grownBy W2 (some o):=by rw [hW2];exact zH W' ⟨o,3,none⟩ _
 have hoth:wE W' 3 o:=⟨_,_,_,hbox,by decide⟩
 have hF:=h.ownF.kept hg (owns_two h.ownF h.ownN (by decide))
 have hR:=(h.rows.snoc hrow hdis).kept hg (fun k hk=>.inr (tD h.ownN (by decide) k hk))
 refine ⟨⟨?_,hF.kept g1 (.inr (zS hF hbox (by decide))),?_,hR.kept g1 (fun k hk=>.inr (by have:=Oj hk;subst this;exact hoth))⟩,fun w0 hw0 hb=>?_⟩
 ·rw [hW2,s1];simp
 ·have:=ho.kept g1 (.inr (zS ho hbox (by decide)))
  rw [List.length_append]
  exact this
 ·exact zG (zF hw0 hg (fun k hk=>Nat.le_trans hb (h.ownN.lt k hk).1)) g1
end
def iT (w w':World) (v:Value) (m:DfaV):Prop:=∃ (o:Nat) (hs:List Value) (sf:Option Addr) (cf:Nat) (sn:Option Addr) (cn:Nat),
 v=.agg #[.int .i64 m.letters,.int .i64 m.start,.slice sf m.final.length cf,.slice sn m.next.length cn]∧w.heap.size≤o∧Half w.heap.size w' o m.letters m.start m.final m.next hs sf cf sn cn
theorem Half.base {base base' o:Nat} {W:World} {L S:Int} {fs:List Bool} {t:List (List Int)} {hs:List Value} {sf sn:Option Addr} {cf cn:Nat} (h:Half base W o L S fs t hs sf cf sn cn) (hb:base'≤base):Half base' W o L S fs t hs sf cf sn cn :=
 ⟨h.box,yK h.ownF hb,yK h.ownN hb,⟨h.rows.len,fun i h1 h2=>yK (h.rows.own i h1 h2) hb,h.rows.dis⟩⟩
theorem Half.at {base o:Nat} {W:World} {L S:Int} {fs:List Bool} {t:List (List Int)} {hs:List Value} {sf sn:Option Addr} {cf cn:Nat} (h:Half base W o L S fs t hs sf cf sn cn) {q:Nat} (hq:q < t.length) (hp:0 < (t.getD q []).length) :
  ∃ kb g c,sn=some ⟨kb,0,none⟩∧t.length≤cn∧cn≤maxLen∧hs[q]?=some (.slice (some ⟨g,0,none⟩) (t.getD q []).length c)∧W.cell? ⟨kb,q,none⟩=some (.slice (some ⟨g,0,none⟩) (t.getD q []).length c)∧(t.getD q []).length≤c∧c≤maxLen∧base≤g∧Arr W g 3 (ints (t.getD q [])):=by
 obtain ⟨kb,rfl,h1,h2,h3⟩:=yQ h.ownN (by omega)
 obtain ⟨g,c,h4,h5,h6,h7,h8⟩:=h.rows.at hq hp
 obtain ⟨hq',he⟩:=List.getElem?_eq_some_iff.1 h4
 exact ⟨kb,g,c,rfl,h1,h2,h4,by rw [h3.cell q hq',he],h5,h6,h7,h8⟩
theorem Half.poke {base o:Nat} {W:World} {L S:Int} {fs:List Bool} {t:List (List Int)} {hs:List Value} {sf sn:Option Addr} {cf cn:Nat} (h:Half base W o L S fs t hs sf cf sn cn) {q g a c n:Nat} (hv:hs[q]?=some (.slice (some ⟨g,0,none⟩) n c)) (hA:Arr W g 3 (ints (t.getD q []))) (ha:a < (t.getD q []).length) (x:Int) :
  Half base (W.setCell ⟨g,a,none⟩ (.int .i64 x)) o L S fs (t.set q ((t.getD q []).set a x)) hs sf cf sn cn:=by
 obtain ⟨cur,rest,hg,_⟩:=hA
 have hgr:=zH W ⟨g,a,none⟩ (.int .i64 x)
 refine ⟨?_,h.ownF.kept hgr (.inr (zS h.ownF hg (by decide))),?_,h.rows.poke hv ha x⟩
 ·rw [List.length_set]
  refine zE h.box hgr (fun e=>?_)
  have e:g=o:=Oj e
  subst e
  have:=h.box
  rw [hg] at this
  simp at this
 ·rw [List.length_set]
  exact h.ownN.kept hgr (.inr (zS h.ownN hg (by decide)))
theorem Half.move {base o o':Nat} {W:World} {L S L' S':Int} {fs:List Bool} {t:List (List Int)} {hs:List Value} {sf sn:Option Addr} {cf cn:Nat} (h:Half base W o L S fs t hs sf cf sn cn) (hb:W.heap[o']?=some (.cells #[.int .i64 L',.int .i64 S',.slice sf fs.length cf,.slice sn t.length cn] 28 (0,0))):Half base W o' L' S' fs t hs sf cf sn cn:=⟨hb,h.ownF,h.ownN,h.rows⟩
def qK (t:List (List Int)) (n k:Nat):Prop:=∀ r∈t,r.length=k∧∀ x∈r,0≤x∧x < n
theorem getDm {α:Type} {l:List α} {d:α} {q:Nat} (h:q < l.length):l.getD q d∈l:=by
 rw [List.getD_eq_getElem?_getD,List.getElem?_eq_getElem h];exact List.getElem_mem _
theorem qK.set {t:List (List Int)} {n k q a:Nat} {x:Int} (h:qK t n k) (hq:q < t.length) (h0:0≤x) (hx:x < n):qK (t.set q ((t.getD q []).set a x)) n k:=by
 intro r hr
 rcases List.mem_or_eq_of_mem_set hr with hr|rfl
 ·exact h r hr
 ·have:=h _ (getDm (d:=[]) hq)
  refine ⟨by rw [List.length_set];exact this.1,fun y hy=>?_⟩
  rcases List.mem_or_eq_of_mem_set hy with hy|rfl
  ·exact this.2 y hy
  ·exact ⟨h0,hx⟩
theorem qK.vd {t:List (List Int)} {n k:Nat} {S:Int} {fs:List Bool} (h:qK t n k) (h1:1≤k) (h6:k≤6) (hn:1≤n) (h512:n≤512) (hf:fs.length=n) (ht:t.length=n) (hs0:0≤S) (hs1:S < n):VD ⟨k,S,fs,t⟩ n k:=by
 refine ⟨rfl,h1,h6,hf,hn,h512,ht,hs0,hs1,fun q hq=>?_,fun q a hq ha=>?_,fun q a hq ha=>?_⟩
 ·have hq2:q < t.length:=by omega
  exact (h _ (getDm hq2)).1
 ·have hq2:q < t.length:=by omega
  have h:=h (t.getD q []) (getDm hq2)
  have ha2:a < (t.getD q []).length:=by omega
  exact (h.2 ((t.getD q []).getD a 0) (getDm ha2)).1
 ·have hq2:q < t.length:=by omega
  have h:=h (t.getD q []) (getDm hq2)
  have ha2:a < (t.getD q []).length:=by omega
  exact (h.2 ((t.getD q []).getD a 0) (getDm ha2)).2
theorem kB {P:Program} {ops:Array Oper} {o:Oper} {a:Act} {w:World} {K:Act→World→Prop} {Q:Exit→Act→World→Prop} {R:Prop} (hgd:o.guard=none) (s x:Operand) (t:TypeId)
  (ho:o.op=.call { callee:=.builtin .append,args:=#[s,x],argTypes:=#[t,t] })
  {e:TypeId} {z:Value} {bytes:Nat} (E:ElemOk P t e z bytes) (base:Nat) (v:Value) (n:Nat) (xs:List Value) (hs:a.eval s=v) (hown:w.ownsRow base e 1 v n xs)
  (u:Value) (blk:Nat) (m:Nat × Nat) (hx:a.eval x=.slice (some ⟨blk,0,none⟩) 1 1) (hblk:w.heap[blk]?=some (.cells #[u] e m)) (h1:u.oneCell'=true) (h63:n+1≤maxLen) (hbytes:(n+1) * bytes≤140737488355328) (hbase:base≤w.heap.size)
  (h:∀ sa sc w',w'.ownsRow base e 1 (.slice sa (n+1) sc) (n+1) (xs ++ [u])→w.grownBy w' v.ownBlock→K (a.put o.dst (.slice sa (n+1) sc)) w') :
  if Region.wanted o (yielded ops a.tmps)=true then Oper.wp P o a w K Q else R:=by
 have hw:Region.wanted o (yielded ops a.tmps)=true:=by simp [Region.wanted,hgd]
 rw [if_pos hw]
 obtain ⟨i,hi,hz,hsz,hby⟩:=info_parts E.hi
 refine wp_append_own w s x t ho base e i z 1 bytes E.ht hi hz hsz hby E.hz (by decide) v n xs hs hown ⟨blk,0,none⟩ 1 1 [u] hx rfl ?_ ?_ h63 hbytes hbase ?_
 ·intro j u' hj
  match j,hj with
  | 0,hj=>simp at hj;subst hj;simpa [Addr.add] using zI hblk 0 (by simp)
 ·intro u' hu;simp at hu;subst hu;exact h1
 ·intro v' w' h1 h2 _
  obtain ⟨sa,sc,rfl⟩:=tX h1
  exact h sa sc w' h1 h2
def jQ (B tb:Nat) (w:World) (letters most:Nat) (e:Ending) (w':World):Prop :=
 ∃ (v:Value) (m:DfaV) (n:Nat),e=.returned v∧iT w w' v m∧VD m n letters∧n≤most∧xW B w' tb∧w.grownBy w' (some tb)
set_option maxRecDepth 100000 in
set_option maxHeartbeats 1000000 in
theorem mdfa_any (B tb:Nat) (w:World) (letters most:Nat) (h1:1≤letters) (h6:letters≤6) (hm1:1≤most) (hm:most≤500) (hT:xW B w tb) :
  Calls Tryd.prog 42 #[.pointer (some ⟨tb,0,none⟩),.int .i64 (letters:Int),.int .i64 (most:Int)] w (jQ B tb w letters most):=by
 have htb:=hT.lt
 have hBt:=hT.ge
 obtain ⟨wA,hWA⟩:∃ wA,wA=(w.alloc (.cells #[.int .i64 0,.int .i64 0,.slice none 0 0,.slice none 0 0] 28)).alloc (.cells #[.int .i64 letters,.int .i64 0,.slice none 0 0,.slice none 0 0] 28):=⟨_,rfl⟩
 obtain ⟨hb1,hb2,hgA,hzA⟩:=qZ w #[.int .i64 0,.int .i64 0,.slice none 0 0,.slice none 0 0] #[.int .i64 letters,.int .i64 0,.slice none 0 0,.slice none 0 0] 28
 rw [← hWA] at hb1 hb2 hgA hzA
 obtain ⟨P,hP⟩:∃ P,P=w.heap.size:=⟨_,rfl⟩
 have HPE:=Kh hP
 rw [← hP] at hb1 hb2 hzA htb
 have hTA:=hT.kept hgA (by simp)
 have HB1:=Kh hb1;have HB2:=Kh hb2;have HGA:=Kh hgA;have HWA:=Kh hWA;have HTA:=Kh hTA
 clear hb1 hb2 hgA hWA hTA hT
 go_enter Tryd.func42,Tryd.ntmps42
 go_upto_region 2 with fail
 rw [← HWA.out,← HPE.out]
 clear hP
 go_wp2_with fail
 refine (uV B tb _ _ (by omega) HTA.out).mono ?_
 rintro e w1 ⟨r,rfl,hr0,hr1,hT1,hg1⟩
 replace hr1:=hr1 (by omega)
 obtain ⟨n,rfl⟩:∃ n:Nat,r=(n:Int) - 1:=⟨(r+1).toNat,by omega⟩
 have hn1:1≤n:=by omega
 have hn2:n≤most:=by omega
 have hn0:(1:Int)+((n:Int) - 1)=n:=by omega
 have HT1:=Kh hT1;have HG1:=Kh hg1;have HN0:=Kh hn0
 clear hr0 hr1 hT1 hg1
 go_wp2_with fail
 refine (uV B tb _ _ (by omega) HT1.out).mono ?_
 rintro e w2 ⟨s,rfl,hs0,hs1,hT2,hg2⟩
 replace hs1:=hs1 (by omega)
 obtain ⟨s,rfl⟩:∃ s':Nat,s=s':=⟨s.toNat,by omega⟩
 have hg12:=zG HG1.out hg2
 have hbo:=zE HB2.out hg12 (by simp;omega)
 obtain ⟨c0,c1,c2,c3⟩:=zR hbo
 have f1:=frozen_of_row w2 (P+1) 1 _ _ hbo
 have HT2:=Kh hT2;have HG2:=Kh hg12
 clear hT2 hg2 hg12 HT1 HG1
 go_wp2
 obtain ⟨w3,hw3⟩:∃ w3,w3=w2.setCell ⟨P+1,1,none⟩ (.int .i64 (s:Int)):=⟨_,rfl⟩
 have hb3:w3.heap[P+1]?=some (.cells #[.int .i64 (letters:Int),.int .i64 (s:Int),.slice none 0 0,.slice none 0 0] 28 (0,0)):=by rw [hw3,heap_setCell_same w2 (P+1) 1 _ _ _ hbo];simp
 have hg3:w2.grownBy w3 (some (P+1)):=by rw [hw3];exact zH w2 ⟨P+1,1,none⟩ _
 have hb31:=zE (zE HB1.out HG2.out (by simp;omega)) hg3 (by simp)
 have hT3:=HT2.out.kept hg3 (fun k e=>by have:=Oj e;subst this;omega)
 have hgw:w.grownBy w3 (some tb):=zF (zG (zF (zX w (some tb)) HGA.out (by simp)) HG2.out) hg3 (fun x e=>by have:=Oj e;have:=HPE.out;omega)
 have hH3:Half (P+1) w3 (P+1) letters s [] [] [] none 0 none 0:=⟨hb3,World.ownsRow_nil _ _ _ _,World.ownsRow_nil _ _ _ _,OwnsT.nil⟩
 have H3:=Kh hH3;have HB3:=Kh hb31;have HT3:=Kh hT3;have HG3:=Kh hgw
 rw [← hw3]
 clear hw3 hb3 hg3 hb31 hT3 hgw hH3 c0 c1 c2 c3 f1 hbo HT2 HG2
 go_loopg [9,10,11] n (fun gh i v10 v11 wr=>∃ (q:Nat) (fs:List Bool) (t:List (List Int)) (hs:List Value) (sf:Option Addr) (cf:Nat) (sn:Option Addr) (cn:Nat),gh+q=n∧i=.int .i64 q∧fs.length=q∧t.length=q∧qK t n letters∧Half (P+1) wr (P+1) letters s fs t hs sf cf sn cn∧xW B wr tb∧wr.heap[P]?=some (.cells #[.int .i64 0,.int .i64 0,.slice none 0 0,.slice none 0 0] 28 (0,0))∧w.grownBy wr (some tb))
 case atStart=>exact ⟨0,[],[],[],none,0,none,0,by omega,rfl,rfl,rfl,(fun r hr=>by simp at hr),H3.out,HT3.out,HB3.out,HG3.out⟩
 case round =>
  obtain ⟨q,fs,t,hs,sf,cf,sn,cn,hg,rfl,rfl,htl,hri,hH,hTr,hb1r,hgr⟩:=hrel
  have HG:=Kh hg;have HH:=Kh hH;have HTR:=Kh hTr;have HB1R:=Kh hb1r;have HGR:=Kh hgr;have HRI:=Kh hri
  clear hg hH hTr hb1r hgr hri H3 HB3 HT3 HG3
  by_cases hq:fs.length < n
  ·have hq':(fs.length:Int) < n:=by omega
   obtain ⟨w5,hw5⟩:∃ w5,w5=wr.drew:=⟨_,rfl⟩
   have hg5:wr.grownBy w5 none:=by rw [hw5];exact zU wr none
   have HW5:=Kh hw5
   have HH5:=Kh (HH.out.grow hg5);have HT5:=Kh (HTR.out.kept hg5 (by simp));have HG5:=Kh (zF HGR.out hg5 (by simp));have HB5:=Kh (zE HB1R.out hg5 (by simp))
   obtain ⟨d0,d1,d2,d3⟩:=zR HH5.out.box
   have C2:=Kh d2
   clear hw5 hg5 d0 d1 d2 d3 HH HTR HGR HB1R
   go_upto_region 7 with fail
   refine wp_region_noPanic ?_
   refine yT (G:=Until 8 (fun _=>True) (fun W=>W.cell? ⟨P+1,2,none⟩=some (.slice sf fs.length cf))) (by kernel_rfl) ?_
   rw [← HW5.out]
   refine takeC (i:=0) (v:=?_) rfl rfl (Or.inl ⟨by rfl,?_⟩) ⟨trivial,fun _=>C2.out⟩ ?_
   rotate_left
   ·(intro wz hz;(try dsimp only at hz);go_simp;(try with_reducible rfl))
   try simp only [Act.put,sPa,sPb,sPc]
   refine takeD (i:=1) (v:=?_) rfl rfl (Or.inl ⟨by rfl,?_⟩) ⟨trivial,fun _=>C2.out⟩ ?_
   rotate_left
   ·(rintro wz ⟨-,hz⟩;(try dsimp only at hz);go_simp;(try with_reducible rfl))
   try simp only [Act.put,sPa,sPb,sPc]
   refine takeC (i:=2) (v:=?_) rfl rfl (Or.inl ⟨by rfl,?_⟩) ⟨trivial,fun _=>C2.out⟩ ?_
   rotate_left
   ·(intro wz hz;(try dsimp only at hz);go_simp;(try with_reducible rfl))
   try simp only [Act.put,sPa,sPb,sPc]
   refine oneG (i:=3) (by kernel_rfl) rfl (fun K hK=>?_)
   go_simp
   go_at_call 43
   refine (uV B tb _ _ (by omega) HT5.out).mono ?_
   rintro e w6 ⟨b,rfl,hb0,hb1,hT6,hg6⟩
   have hH6:=HH5.out.tape HT5.out hg6
   obtain ⟨d0,d1,d2,d3⟩:=zR hH6.box
   have C2:=Kh d2
   refine hK.out _ _ ⟨trivial,fun _=>C2.out⟩ ?_
   clear hK K d0 d1 d2 d3
   try simp only [Act.put,sPa,sPb,sPc]
   refine takeC (i:=4) (v:=?_) rfl rfl (Or.inl ⟨by rfl,?_⟩) ⟨trivial,fun _=>C2.out⟩ ?_
   rotate_left
   ·(intro wz hz;(try dsimp only at hz);go_simp;(try with_reducible rfl))
   try simp only [Act.put,sPa,sPb,sPc]
   refine oneG (i:=5) (by kernel_rfl) rfl (fun K hK=>?_)
   go_simp
   have hH7:=hH6.grow (Ga w6 (.cells #[.bool (decide (b=1))] 4) none)
   have hgn:=heap_alloc_new w6 (.cells #[.bool (decide (b=1))] 4)
   obtain ⟨d0,d1,d2,d3⟩:=zR hH7.box
   refine hK.out _ _ ⟨trivial,fun _=>d2⟩ ?_
   clear hK K d0 d1 d2 d3
   try simp only [Act.put,sPa,sPb,sPc]
   have hz7:P+2≤w6.heap.size:=by have:=zQ hH6.box;omega
   refine oneG (i:=6) (by kernel_rfl) rfl (fun K hK=>?_)
   refine kB rfl (.tmp 28) (.tmp 32) 25 rfl wD (P+1) _ _ _ rfl hH7.ownF _ _ _ rfl hgn rfl ?g1 ?g2 ?g3 ?_
   case g1=>unfold maxLen;omega
   case g2=>omega
   case g3=>rw [zO];omega
   intro sa' sc' w8 hown8 hg8
   have hbx:=zE hH7.box hg8 (fun e=>zS hH7.ownF hH7.box (by decide) e)
   obtain ⟨d0,d1,d2,d3⟩:=zR hbx
   have f2:=zD hbx 2
   refine hK.out _ _ ⟨trivial,fun _=>d2⟩ ?_
   clear hK K
   try simp only [Act.put,sPa,sPb,sPc]
   have C2:=Kh d2
   refine takeC (i:=7) (v:=?_) rfl rfl (Or.inl ⟨by rfl,?_⟩) ⟨trivial,fun _=>C2.out⟩ ?_
   rotate_left
   ·(intro wz hz;(try dsimp only at hz);go_simp;(try with_reducible rfl))
   try simp only [Act.put,sPa,sPb,sPc]
   refine oneG (i:=8) (by kernel_rfl) rfl (fun K hK=>?_)
   go_simp
   refine hK.out _ _ ⟨trivial,fun h=>by simp at h⟩ ?_
   clear hK K d0 d1 d2 d3 f2 hbx
   try simp only [Act.put,sPa,sPb,sPc]
   refine doneG (by kernel_rfl) ?_ _
   refine NoPanic.normal ?_
   obtain ⟨hF,hgF⟩:=hH7.pushF hown8 hg8 rfl
   have hT9:=((hT6.kept (Ga w6 (.cells #[.bool (decide (b=1))] 4) none) (by simp)).kept hg8 (fun k e=>by have:=(hH7.ownF.lt k e).1;omega)).kept (zH w8 ⟨P+1,2,none⟩ (.slice sa' (fs.length+1) sc')) (fun k e=>by have e:P+1=k:=Oj e;omega)
   have hb9:=zE (zE (zE (zE HB5.out hg6 (by simp;omega)) (Ga w6 (.cells #[.bool (decide (b=1))] 4) none) (by simp)) hg8 (fun e=>by have:=(hH7.ownF.lt _ e).1;omega)) (zH w8 ⟨P+1,2,none⟩ (.slice sa' (fs.length+1) sc')) (by simp)
   have hg9:w.grownBy (w8.setCell ⟨P+1,2,none⟩ (.slice sa' (fs.length+1) sc')) (some tb):=zF (zF (zF (zG HG5.out hg6) (Ga w6 (.cells #[.bool (decide (b=1))] 4) none) (by simp)) hg8 (fun k e=>by have:=(hH7.ownF.lt k e).1;have:=HPE.out;omega)) (zH w8 ⟨P+1,2,none⟩ (.slice sa' (fs.length+1) sc')) (fun k e=>by have e:P+1=k:=Oj e;have:=HPE.out;omega)
   obtain ⟨w9,hw9⟩:∃ w9,w9=w8.setCell ⟨P+1,2,none⟩ (.slice sa' (fs.length+1) sc'):=⟨_,rfl⟩
   rw [← hw9] at hF hT9 hb9 hg9 ⊢
   have HF:=Kh hF;have HT9:=Kh hT9;have HB9:=Kh hb9;have HG9:=Kh hg9
   clear hw9 hgF hF hT9 hb9 hg9 hown8 hg8 hgn hH7 hH6 hT6 hg6 C2 HH5 HT5 HG5 HB5 HW5
   go_wp2
   go_loopg [10,11] letters (fun gh ov i wx=>∃ (a:Nat) (row:List Int) (sr:Option Addr) (cr:Nat),gh+a=letters∧i=.int .i64 a∧row.length=a∧ov=.slice sr row.length cr∧(∀ x∈row,0≤x∧x < n)∧wx.ownsRow w9.heap.size 3 1 (.slice sr row.length cr) row.length (ints row)∧xW B wx tb∧w9.grownBy wx (some tb))
   case atStart=>exact ⟨0,[],none,0,by omega,rfl,rfl,rfl,(fun x hx=>by simp at hx),World.ownsRow_nil _ _ _ _,HT9.out,zX _ _⟩
   case round =>
    obtain ⟨a,row,sr,cr,hg,rfl,rfl,rfl,hrl,hown,hTx,hgx⟩:=hrel
    have HGA2:=Kh hg;have HOWR:=Kh hown;have HTX:=Kh hTx;have HGX:=Kh hgx
    clear hg hown hTx hgx
    by_cases ha:row.length < letters
    ·have ha':(row.length:Int) < letters:=by omega
     have htx:=HTX.out.lt
     go_wp2_with fail
     refine (uV B tb _ _ (by omega) HTX.out).mono ?_
     rintro e wy ⟨x,rfl,hx0,hx1,hTy,hgy⟩
     replace hx1:=hx1 (by omega)
     have hzt:tb < w9.heap.size:=HT9.out.lt
     have hownY:=yB HOWR.out hgy (by simpa using hzt)
     have hzy:=(zG HGX.out hgy).size
     have HOY:=Kh hownY;have HTY:=Kh hTy;have HGY:=Kh (zG HGX.out hgy)
     clear hownY hTy hgy
     go_wp2_with (first|(at_builtin;refine app1 rfl _ _ _ rfl yG w9.heap.size _ row.length (ints row) rfl HOY.out _ rfl rfl ?c1 ?c2 ?c3 ?_)|fail)
     case c1=>unfold maxLen;omega
     case c2=>omega
     case c3=>exact hzy
     intro sr' cr' w10 hown10 hg10 hlt10
     have HO10:=Kh hown10
     have HT10:=Kh (HTY.out.kept hg10 (fun k e=>by have:=(HOY.out.lt k e).1;omega))
     have HG10:=Kh (zF HGY.out hg10 (fun k e=>(HOY.out.lt k e).1))
     clear hown10 hg10
     go_wp2
     go_roundg (letters - (row.length+1))
     case measure=>have:=HGA2.out;omega
     case rel =>
      refine ⟨row.length+1,row ++ [x],sr',cr',by omega,by go_num,by simp,by simp,?_,?_,HT10.out,HG10.out⟩
      ·intro y hy
       rcases List.mem_append.1 hy with hy|hy
       ·exact hrl y hy
       ·rw [List.mem_singleton] at hy;subst hy;exact ⟨hx0,hx1⟩
      ·rw [show ints (row ++ [x])=ints row ++ [.int .i64 x] by simp [ints],List.length_append,List.length_singleton]
       exact HO10.out
    ·have hrn:row.length=letters:=by have:=HGA2.out;omega
     have hH:=HF.out.tape HT9.out HGX.out
     have hzp:P+1≤w9.heap.size:=Nat.le_of_lt (zQ HF.out.box)
     have hrow:=yK HOWR.out hzp
     have hdis:∀ i (hi:i < hs.length),∀ k,hs[i].ownBlock=some k→(Value.slice sr row.length cr).ownBlock≠some k:=fun i hi k hk e=>by
      have h1:=(HF.out.rows.lt hi hk).2
      have h2:=(HOWR.out.lt k e).1
      omega
     have HDIS:=Kh hdis
     obtain ⟨d0,d1,d2,d3⟩:=zR hH.box
     have hzx:=zQ hH.box
     have hlt9:=HT9.out.lt
     have HHX:=Kh hH;have HRW:=Kh hrow;have HRN:=Kh hrn
     have HGW:=Kh (zG HG9.out HGX.out);have HBX:=Kh (zE HB9.out HGX.out (by simp;omega))
     clear hH hrow hrn hdis d0 d1 d2 HOWR HGX HF HT9 HG9 HB9
     have HON:=Kh HHX.out.ownN
     have HTL:=Kh htl
     clear htl
     go_wp2_with (first|(at_builtin;refine app1 rfl _ _ _ rfl wT (P+1) _ t.length hs rfl HON.out _ rfl rfl ?c1 ?c2 ?c3 ?_)|fail)
     case c1=>have:=HTL.out;unfold maxLen;omega
     case c2=>have:=HTL.out;omega
     case c3=>omega
     intro sn' cn' w11 hown11 hg11 hlt11
     have hbx:=zE HHX.out.box hg11 (fun e=>zS HHX.out.ownN HHX.out.box (by decide) e)
     obtain ⟨d0,d1,d2,d3⟩:=zR hbx
     have f2:=zD hbx 3
     obtain ⟨hN,hgN⟩:=HHX.out.pushN hown11 hg11 HRW.out HDIS.out rfl
     have hTN:=(HTX.out.kept hg11 (fun k e=>by have:=(HHX.out.ownN.lt k e).1;omega)).kept (zH w11 ⟨P+1,3,none⟩ (.slice sn' (t.length+1) cn')) (fun k e=>by have e:P+1=k:=Oj e;omega)
     have hbN:=zE (zE HBX.out hg11 (fun e=>by have:=(HHX.out.ownN.lt _ e).1;omega)) (zH w11 ⟨P+1,3,none⟩ (.slice sn' (t.length+1) cn')) (by simp)
     have hgN2:w.grownBy (w11.setCell ⟨P+1,3,none⟩ (.slice sn' (t.length+1) cn')) (some tb):=zF (zF HGW.out hg11 (fun k e=>by have:=(HHX.out.ownN.lt k e).1;have:=HPE.out;omega)) (zH w11 ⟨P+1,3,none⟩ (.slice sn' (t.length+1) cn')) (fun k e=>by have e:P+1=k:=Oj e;have:=HPE.out;omega)
     have HGK:=Kh hN;have HTN2:=Kh hTN;have HBN2:=Kh hbN;have HGN2:=Kh hgN2
     clear hgN hbx hN hTN hbN hgN2 hown11 hg11
     go_wp2
     go_roundg (n - (fs.length+1))
     case measure=>have:=HG.out;omega
     case rel =>
      refine ⟨fs.length+1,fs ++ [decide (b=1)],t ++ [row],_,sa',sc',sn',cn',by omega,by go_num,by simp,by simp [HTL.out],?_,HGK.out,HTN2.out,HBN2.out,HGN2.out⟩
      intro r hr
      rcases List.mem_append.1 hr with hr|hr
      ·exact HRI.out r hr
      ·rw [List.mem_singleton] at hr;subst hr;exact ⟨HRN.out,hrl⟩
  ·have hfn:fs.length=n:=by have:=HG.out;omega
   have hB:=HH.out
   have HFN:=Kh hfn;have HBU:=Kh hB
   obtain ⟨d0,d1,d2,d3⟩:=zR HH.out.box
   obtain ⟨e0,e1,e2,e3⟩:=zR HB1R.out
   have f0:=zD HB1R.out 0;have f1:=zD HB1R.out 1;have f2:=zD HB1R.out 2;have f3:=zD HB1R.out 3
   have HTL:=Kh htl
   clear hB hfn htl
   go_wp2
   refine bodyPost_ret (v:=.agg #[.int .i64 letters,.int .i64 s,.slice sf fs.length cf,.slice sn t.length cn]) (by simp [results,Tryd.results42,go_sem,e0,e1,e2,e3]) rfl ?_
   obtain ⟨hsR,hgR⟩:=qR HB1R.out (.int .i64 letters) (.int .i64 s) (.slice sf fs.length cf) (.slice sn t.length cn)
   have htb2:=HTR.out.lt
   have hfn:=HFN.out;have htl:=HTL.out
   refine ⟨_,⟨letters,s,fs,t⟩,n,rfl,⟨P+1,hs,sf,cf,sn,cn,rfl,by have:=HPE.out;omega,(HBU.out.base (by have:=HPE.out;omega)).far hgR HB1R.out (by omega)⟩,HRI.out.vd h1 h6 hn1 (by omega) hfn (htl.trans hfn) hs0 hs1,hn2,HTR.out.kept hgR (fun k e=>by have e:P=k:=Oj e;omega),zF HGR.out hgR (fun k e=>by have e:P=k:=Oj e;have:=HPE.out;omega)⟩
end Go.Proofs.YtdjhoadoiknaoaaDoor
