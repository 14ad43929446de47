/- Part 7 of the proof: ClsP, Make, Zb, Made. -/
import Derived.Test.YtjfdomfendbhfaaQe6
import Derived.OwnWalk
import Derived.ArgAppend
set_option linter.unusedVariables false
set_option linter.unusedSimpArgs false
namespace Go.Proofs.Ytjfdomfendbhfaa
def FstI (M:Nat->List Bool) (A:Nat->Bool) (s:Nat) (m:List Bool) (y:Int):Prop :=
 (y = -1/\∀ i,i < s->M i=m->A i=false)\/∃ j:Nat,y=(j:Int)/\j < s/\M j=m/\A j=true
theorem FstI.keep {M:Nat->List Bool} {A:Nat->Bool} {s:Nat} {m:List Bool} {y:Int} (h:FstI M A s m y) (hA:M s=m->A s=true->0<=y):FstI M A (s+1) m y:=by
 rcases h with ⟨rfl,h⟩|⟨j,rfl,hj,h1,h2⟩
 ·refine .inl ⟨rfl,fun i hi hm=>?_⟩
  rcases Nat.lt_succ_iff_lt_or_eq.1 hi with hi|rfl
  ·exact h i hi hm
  ·cases hb:A i with
   | false=>rfl
   | true=>have:=hA hm hb;omega
 ·exact .inr ⟨j,rfl,by omega,h1,h2⟩
theorem FstI.lo {M:Nat->List Bool} {A:Nat->Bool} {s:Nat} {m:List Bool} {y:Int} (h:FstI M A s m y):-1<=y/\y < s\/y = -1:=by
 rcases h with ⟨rfl,h⟩|⟨j,rfl,hj,h1,h2⟩
 ·exact .inr rfl
 ·exact .inl ⟨by omega,by omega⟩
structure ClsI (M:Nat->List Bool) (A:Nat->Bool) (s t:Nat) (l:List ClaV):Prop where
 nd:(l.map ClaV.m).Nodup
 all:∀ i,i < t->M i∈l.map ClaV.m
 met:∀ c∈l,∃ i,i < t/\M i=c.m
 yes:∀ c∈l,FstI M A s c.m c.yes
 no:∀ c∈l,FstI M (fun i=>!A i) s c.m c.no
theorem ClsI.nil (M:Nat->List Bool) (A:Nat->Bool):ClsI M A 0 0 [] :=
 ⟨by simp,fun i hi=>by omega,fun c hc=>by simp at hc,fun c hc=>by simp at hc,fun c hc=>by simp at hc⟩
theorem ClsI.old {M : Nat → List Bool} {A : Nat → Bool} {s : Nat} {l : List ClaV} (h : ClsI M A s s l) (hm : M s ∈ l.map ClaV.m) : ClsI M A s (s + 1) l :=
 ⟨h.nd, fun i hi => by
  rcases Nat.lt_succ_iff_lt_or_eq.1 hi with hi | rfl
  ·exact h.all i hi
  ·exact hm, fun c hc => by obtain ⟨i, hi, e⟩ := h.met c hc; exact ⟨i, by omega, e⟩, h.yes, h.no⟩
theorem ClsI.new {M:Nat->List Bool} {A:Nat->Bool} {s:Nat} {l:List ClaV} (h:ClsI M A s s l) (hm:M s ∉ l.map ClaV.m):ClsI M A s (s+1) (l ++ [⟨M s,-1,-1⟩]):=by
 have h0:∀ i,i < s->M i=M s->False:=fun i hi e=>hm (e ▸ h.all i hi)
 refine⟨?_,fun i hi=>?_,fun c hc=>?_,fun c hc=>?_,fun c hc=>?_⟩
 ·rw[List.map_append,List.nodup_append]
  exact⟨h.nd,by simp,fun a ha b hb e=>by simp at hb;subst hb;subst e;exact hm ha⟩
 ·rw[List.map_append]
  rcases Nat.lt_succ_iff_lt_or_eq.1 hi with hi|rfl
  ·exact List.mem_append_left _ (h.all i hi)
  ·exact List.mem_append_right _ (by simp)
 ·rcases List.mem_append.1 hc with hc|hc
  ·obtain⟨i,hi,e⟩:=h.met c hc;exact⟨i,by omega,e⟩
  ·simp at hc;subst hc;exact⟨s,by omega,rfl⟩
 ·rcases List.mem_append.1 hc with hc|hc
  ·exact h.yes c hc
  ·simp at hc;subst hc;exact .inl ⟨rfl,fun i hi e=>(h0 i hi e).elim⟩
 ·rcases List.mem_append.1 hc with hc|hc
  ·exact h.no c hc
  ·simp at hc;subst hc;exact .inl ⟨rfl,fun i hi e=>(h0 i hi e).elim⟩
def putC (c:ClaV) (a:Bool) (s:Nat):ClaV:=if a=true then (if c.yes < 0 then ⟨c.m,s,c.no⟩ else c) else (if c.no < 0 then ⟨c.m,c.yes,s⟩ else c)
theorem aB (c:ClaV) (a:Bool) (s:Nat):(putC c a s).m=c.m:=by
 unfold putC;split <;> split <;> rfl
theorem ClsI.put {M:Nat->List Bool} {A:Nat->Bool} {s n:Nat} {l:List ClaV} (h:ClsI M A s (s+1) l) (hn:n < l.length) (hm:(l.getD n default).m=M s):ClsI M A (s+1) (s+1) (l.set n (putC (l.getD n default) (A s) s)):=by
 have e0:l.getD n default=l[n]:=zF hn
 rw[e0]at hm ⊢
 have h6:(l.set n (putC l[n] (A s) s)).map ClaV.m=l.map ClaV.m:=by
  rw[List.map_set,aB]
  refine List.ext_getElem (by simp) fun i h1 h2=>?_
  rw[List.getElem_set]
  split
  ·rename_i e;subst e;simp
  ·rfl
 have h0:∀ c∈l.set n (putC l[n] (A s) s),c=putC l[n] (A s) s\/(c∈l/\c.m≠M s):=fun c hc=>by
  obtain⟨i,hi,rfl⟩:=List.getElem_of_mem hc
  rw[List.length_set]at hi
  rw[List.getElem_set]
  split
  ·exact .inl rfl
  ·rename_i e
   refine .inr ⟨List.getElem_mem hi,fun e2=>e ?_⟩
   have h3:=h.nd
   have h4:(l.map ClaV.m)[n]'(by simpa using hn)=(l.map ClaV.m)[i]'(by simpa using hi):=by simp only[List.getElem_map];rw[hm,e2]
   exact(List.getElem_inj h3).1 h4
 have h5:=List.getElem_mem hn
 refine⟨by rw[h6];exact h.nd,fun i hi=>by rw[h6];exact h.all i hi,fun c hc=>?_,fun c hc=>?_,fun c hc=>?_⟩
 ·rcases h0 c hc with rfl|⟨hc,_⟩
  ·rw[aB];exact h.met _ h5
  ·exact h.met c hc
 ·rcases h0 c hc with rfl|⟨hc,hne⟩
  ·rw[aB]
   have h1:=h.yes _ h5
   unfold putC
   split
   ·rename_i ha
    split
    ·exact .inr ⟨s,rfl,by omega,hm.symm,ha⟩
    ·rename_i h2;exact h1.keep (fun _ _=>by omega)
   ·rename_i ha
    split
    ·exact h1.keep (fun _ hb=>absurd hb ha)
    ·exact h1.keep (fun _ hb=>absurd hb ha)
  ·exact(h.yes c hc).keep (fun e _=>absurd e.symm hne)
 ·rcases h0 c hc with rfl|⟨hc,hne⟩
  ·rw[aB]
   have h1:=h.no _ h5
   unfold putC
   split
   ·rename_i ha
    split
    ·exact h1.keep (fun _ hb=>by rw[ha]at hb;cases hb)
    ·exact h1.keep (fun _ hb=>by rw[ha]at hb;cases hb)
   ·rename_i ha
    split
    ·exact .inr ⟨s,rfl,by omega,hm.symm,by simp only[Bool.not_eq_true]at ha;simp[ha]⟩
    ·rename_i h2;exact h1.keep (fun _ _=>by omega)
  ·exact(h.no c hc).keep (fun e _=>absurd e.symm hne)
def nA (c:ClaV):Bool:=decide (0<=c.yes/\0<=c.no)
section
variable {M:Nat->List Bool} {A:Nat->Bool} {s:Nat} {l:List ClaV}
theorem ClsI.both (h:ClsI M A s s l) {c:ClaV} (hc:c∈l) (hb:nA c=true):∃ y n:Nat,c.yes=(y:Int)/\c.no=(n:Int)/\y < s/\n < s/\M y=M n/\A y=true/\A n=false:=by
 simp only[nA,decide_eq_true_eq]at hb
 rcases h.yes c hc with ⟨e,_⟩|⟨y,e1,hy,hy1,hy2⟩
 ·omega
 rcases h.no c hc with ⟨e,_⟩|⟨n,e2,hn,hn1,hn2⟩
 ·omega
 exact⟨y,n,e1,e2,hy,hn,hy1.trans hn1.symm,hy2,by simpa using hn2⟩
theorem ClsI.clash (h:ClsI M A s s l) (hb:∀ c∈l,nA c=false) {i j:Nat} (hi:i < s) (hj:j < s) (hm:M i=M j) (h1:A i=true) (h2:A j=false):False:=by
 obtain⟨c,hc,e⟩:=List.mem_map.1 (h.all i hi)
 have h3:=hb c hc
 have h4:0<=c.yes:=by
  rcases h.yes c hc with ⟨_,h5⟩|⟨y,e1,_⟩
  ·have:=h5 i hi e.symm;rw[h1]at this;cases this
  ·omega
 have h5:0<=c.no:=by
  rcases h.no c hc with ⟨_,h5⟩|⟨y,e1,_⟩
  ·have:=h5 j hj (hm ▸ e.symm);simp[h2]at this
  ·omega
 simp[nA,h4,h5]at h3
theorem ClsI.dec (h:ClsI M A s s l) (hb:∀ c∈l,nA c=false) {i:Nat} (hi:i < s):∃ c∈l,c.m=M i/\c.b=A i:=by
 obtain⟨c,hc,e⟩:=List.mem_map.1 (h.all i hi)
 refine⟨c,hc,e,?_⟩
 unfold ClaV.b
 rcases h.yes c hc with ⟨h4,h5⟩|⟨y,e1,hy,hy1,hy2⟩
 ·rw[h5 i hi e.symm,h4];rfl
 ·have:A i=true:=by
   cases hA:A i with
   | true=>rfl
   | false=>exact(h.clash hb hy hi (hy1.trans e) hy2 hA).elim
  rw[this,decide_eq_true_eq];omega
theorem ClsI.len_le (h:ClsI M A s s l):l.length<=s:=by
 have h1:(l.map ClaV.m).length<=((List.range s).map M).length:=List.Nodup.length_le_of_subset h.nd (fun x hx=>by
  obtain⟨c,hc,rfl⟩:=List.mem_map.1 hx
  obtain⟨i,hi,e⟩:=h.met c hc
  exact List.mem_map.2 ⟨i,List.mem_range.2 hi,e⟩)
 simpa using h1
end
section
variable {M:Nat->List Bool} {A:Nat->Bool} {s:Nat} {sets:List (List Bool)} {ys ns:List Bool}
end
structure BackI (ds:List DfaV) (k:Nat) (L:List (List Nat)) (s0 s:Nat) (t:List Nat):Prop where
 ok:zX k t
 walk:sR (nxtT ds) (L.getD s []) t.reverse=L.getD s0 []
 len:t.length+s<=s0
theorem BackI.start (ds:List DfaV) (k:Nat) (L:List (List Nat)) (s:Nat):BackI ds k L s s []:=⟨fun a ha=>by simp at ha,rfl,by simp⟩
theorem BackI.step {ds : List DfaV} {k : Nat} {L : List (List Nat)} {s0 s f b : Nat} {t : List Nat} (h : BackI ds k L s0 s t) (hb : b < k) (hf : f < s) (he : nxtT ds (L.getD f []) b = L.getD s []) : BackI ds k L s0 f (t ++ [b]) :=
 ⟨fun a ha => by
  rcases List.mem_append.1 ha with ha | ha
  ·exact h.ok a ha
  ·simp at ha; subst ha; exact hb, by
  rw [List.reverse_append]
  show sR (nxtT ds) (nxtT ds (L.getD f []) b) t.reverse = _
  rw [he]; exact h.walk, by have := h.len; rw [List.length_append, List.length_singleton]; omega⟩
end Go.Proofs.Ytjfdomfendbhfaa
namespace Go.Proofs.Ytjfdomfendbhfaa
open Go.RowKit
theorem xQ:ElemOk Try.prog 34 3 (.int .i64 0) 8:=⟨Try.underlying34,by kernel_rfl,rfl⟩
theorem cK:ElemOk Try.prog 39 4 (.bool false) 1:=⟨Try.underlying39,by kernel_rfl,rfl⟩
theorem kD:ElemOk Try.prog 40 34 (.slice none 0 0) 24:=⟨Try.underlying40,by kernel_rfl,rfl⟩
theorem rE {z:Value} (hz:z.cells=#[z]):∀ (n:Nat),(madeCells z.cells (n * 1)).toList=List.replicate n z:=by
 intro n
 rw[Nat.mul_one,hz]
 apply List.ext_getElem
 ·simp[madeCells]
 ·intro i h1 h2
  simp[madeCells,Nat.mod_one]
theorem kZ {P:Program} {w:World} {ops:Array Oper} {rest:List Oper} {o:Oper} {a:Act} {Q:Exit->Act->World->Prop} (hgd:o.guard=none) (l c:Operand) (t:TypeId) (ho:o.op=.makeSlice t l c)
  {e:TypeId} {z:Value} {bytes:Nat} (E:ElemOk P t e z bytes) (hz:z.cells=#[z]) (kl kc:IntKind) (L C:Int) (n:Nat) (hl:a.eval l=.int kl L) (hc:a.eval c=.int kc C) (hL:L=(n:Int)) (hC:C=(n:Int)) (hb:bytes * n<=281474976710656) (h63:n<=maxLen)
  (h:∀ w',Arr w' w.heap.size e (List.replicate n z)->w.grownBy w' none->w.heap.size < w'.heap.size->wpList P ops Q rest (a.put o.dst (.slice (some ⟨w.heap.size,0,none⟩) n n)) w'):wpList P ops Q (o :: rest) a w:=by
 obtain⟨i,hi,h1,h2,h3⟩:=info_parts E.hi
 refine wpList_make_full w hgd l c t ho w.heap.size e i z 1 E.ht hi h1 h2 kl kc L C n hl hc hL hC (by rw[h3];exact hb) h63 (Nat.le_refl _) ?_
 intro w' h0 hg
 have ha:=Arr.of_owns h0
 rw[rE hz]at ha
 exact h w' ha hg ha.lt
theorem wX {w:World} {base base' e size:Nat} {v:Value} {n:Nat} {xs:List Value} (h:w.ownsRow base e size v n xs) (hb:base'<=base):w.ownsRow base' e size v n xs:=by
 refine⟨h.1,?_⟩
 rcases h.2 with h2|⟨g,cap,cur,h1,h2,h3⟩
 ·exact .inl h2
 ·exact .inr ⟨g,cap,cur,h1,Nat.le_trans hb h2,h3⟩
theorem uS {w:World} {base e n sc:Nat} {sa:Option Addr} {xs:List Value} (h:w.ownsRow base e 1 (.slice sa n sc) n xs) (hn:0 < n):∃ kb,sa=some ⟨kb,0,none⟩/\n<=sc/\sc<=maxLen/\Arr w kb e xs:=by
 rcases h.2 with ⟨h',h0⟩|⟨g,cap,cur,h1,hb,hg,hnc,hcm,_⟩
 ·omega
 ·simp only[Value.slice.injEq]at h1
  obtain⟨rfl,-,rfl⟩:=h1
  exact⟨g,rfl,hnc,hcm,Arr.of_owns h⟩
def mA (w w':World) (v v':Value):Prop:=v'.ownBlock=v.ownBlock\/(w.grownBy w' none/\∀ k,v'.ownBlock=some k->w.heap.size<=k)
theorem qBW {P:Program} {w:World} {ops:Array Oper} {rest:List Oper} {o:Oper} {a:Act} {Q:Exit->Act->World->Prop} (hgd:o.guard=none) (s x:Operand) (t:TypeId)
  (ho:o.op=.call { callee:=.builtin .append,args:=#[s,x],argTypes:=#[t,t] })
  {e:TypeId} {z:Value} {bytes:Nat} (E:ElemOk P t e z bytes) (base:Nat) (v:Value) (n:Nat) (xs:List Value) (hs:a.eval s=v) (hown:w.ownsRow base e 1 v n xs)
  (u:Value) (hx:a.eval x=.slice (some ⟨w.heap.size,0,none⟩) 1 1) (h1:u.oneCell'=true) (h63:n+1<=maxLen) (hbytes:(n+1) * bytes<=140737488355328) (hbase:base<=w.heap.size)
  (h:∀ sa sc w',w'.ownsRow base e 1 (.slice sa (n+1) sc) (n+1) (xs ++ [u])->w.grownBy w' v.ownBlock->w.heap.size < w'.heap.size->mA w w' v (.slice sa (n+1) sc)->wpList P ops Q rest (a.put o.dst (.slice sa (n+1) sc)) w') :
  wpList P ops Q (o :: rest) a (w.alloc (.cells #[u] e)):=by
 obtain⟨i,hi,hz,h6,h9⟩:=info_parts E.hi
 have h0:∀ j u',[u][j]?=some u'->(w.alloc (.cells #[u] e)).cell? ((⟨w.heap.size,0,none⟩:Addr).add j)=some u':=by
  intro j u' hj
  match j,hj with
  | 0,hj=>simp at hj;subst hj;simp[Addr.add]
 have h5:∀ u'∈[u],u'.oneCell'=true:=by intro u' hu;simp at hu;subst hu;exact h1
 have hA:=Ga w (.cells #[u] e) none
 have fin:∀ v' w',w'.ownsRow base e 1 v' (n+1) (xs ++ [u])->(w.alloc (.cells #[u] e)).grownBy w' v.ownBlock->(v'.ownBlock=v.ownBlock\/((w.alloc (.cells #[u] e)).grownBy w' none/\∀ k,v'.ownBlock=some k->w.heap.size<=k))->wpList P ops Q rest (a.put o.dst v') w':=by
  intro v' w' h1 h2 h3
  obtain⟨sa,sc,rfl⟩:=pJ h1
  refine h sa sc w' h1 ?_ (by have:=h2.size;simp at this;omega) ?_
  ·exact⟨h2.os,h2.tape,h2.output,by have:=h2.size;simp at this;omega,fun k hk hne=>(h2.block k (by simp;omega) hne).trans (Below.heap_alloc w _ k hk)⟩
  ·rcases h3 with h3|⟨h3,h4⟩
   ·exact .inl h3
   ·exact .inr ⟨zD hA h3,h4⟩
 rcases hown.2 with ⟨rfl,rfl⟩|⟨g,cap,cur,rfl,hb,hg,hnc,hcm,hcs,htake⟩
 ·have hl:xs=[]:=List.eq_nil_of_length_eq_zero (by have:=hown.1;omega)
  subst hl
  refine wpList_append_grows _ hgd s x t ho e i z 1 bytes E.ht hi hz h6 h9 E.hz (by decide) none 0 0 [] hs (fun _=>⟨rfl,rfl⟩) rfl (fun b hb=>by cases hb) ⟨w.heap.size,0,none⟩ 1 1 [u] hx rfl h0 h5 (by omega) h63 hbytes ?_
  intro v' w' h1 h2
  exact fin v' w' (wX h1 (by simp;omega)) (yY h2) (.inr ⟨h2,fun k hk=>by have:=(h1.lt k hk).1;simp at this;omega⟩)
 ·by_cases hroom:n+1<=cap
  ·refine wpList_append_fits _ hgd s x t ho base e i 1 E.ht hi h6 g n cap xs hs (hown.alloc _) ⟨w.heap.size,0,none⟩ 1 1 [u] hx rfl h0 h5 hroom ?_
   intro w' h1 h2
   exact fin _ w' h1 h2 (.inl rfl)
  ·refine wpList_append_grows _ hgd s x t ho e i z 1 bytes E.ht hi hz h6 h9 E.hz (by decide) (some ⟨g,0,none⟩) n cap xs hs (fun h=>by cases h) hown.1 (fun b hb j u' hj=>?_) ⟨w.heap.size,0,none⟩ 1 1 [u] hx rfl h0 h5 (by omega) h63 hbytes ?_
   ·simp at hb
    subst hb
    have h8:j < xs.length:=by
     rcases Nat.lt_or_ge j xs.length with h|h
     ·exact h
     ·rw[List.getElem?_eq_none h]at hj;cases hj
    have:=(Arr.of_owns (hown.alloc (.cells #[u] e))).cell j h8
    rw[List.getElem?_eq_getElem h8]at hj
    have h7:(⟨g,0,none⟩:Addr).add j=⟨g,j,none⟩:=by unfold Addr.add;split <;> simp_all
    rw[h7,this];exact hj
   ·intro v' w' h1 h2
    exact fin v' w' (wX h1 (by simp;omega)) (yY h2) (.inr ⟨h2,fun k hk=>by have:=(h1.lt k hk).1;simp at this;omega⟩)
def bls (bs:List Bool):List Value:=bs.map Value.bool
def nats (l:List Nat):List Value:=l.map fun(x:Nat)=>Value.int .i64 (x:Int)
theorem xE (bs:List Bool):(bls bs).length=bs.length:=by simp[bls]
theorem yB (l:List Nat):(nats l).length=l.length:=by simp[nats]
theorem Arr.bool {w:World} {g:Nat} {e:TypeId} {bs:List Bool} (h:Arr w g e (bls bs)) (i:Nat) (hi:i < bs.length):w.cell? ⟨g,i,none⟩=some (.bool (bs.getD i false)):=by
 rw[h.cell i (by rw[xE];exact hi)]
 simp[bls,List.getD,List.getElem?_eq_getElem hi]
theorem Arr.int {w:World} {g:Nat} {e:TypeId} {zs:List Int} (h:Arr w g e (ints zs)) (i:Nat) (hi:i < zs.length):w.cell? ⟨g,i,none⟩=some (.int .i64 (zs.getD i 0)):=by
 rw[h.cell i (by rw[yO];exact hi)]
 simp[ints,List.getD,List.getElem?_eq_getElem hi]
theorem Arr.nat {w:World} {g:Nat} {e:TypeId} {l:List Nat} (h:Arr w g e (nats l)) (i:Nat) (hi:i < l.length):w.cell? ⟨g,i,none⟩=some (.int .i64 ((l.getD i 0:Nat):Int)):=by
 rw[h.cell i (by rw[yB];exact hi)]
 simp[nats,List.getD,List.getElem?_eq_getElem hi]
theorem vH.nat {w:World} {b off:Nat} {l:List Nat} (h:vH w b off (nats l)) (i:Nat) (hi:i < l.length):w.cell? ⟨b,off+i,none⟩=some (.int .i64 ((l.getD i 0:Nat):Int)):=by
 rw[vH.map h i hi]
 simp[List.getD,List.getElem?_eq_getElem hi]
theorem Arr.bool_set {w:World} {g:Nat} {e:TypeId} {bs:List Bool} (h:Arr w g e (bls bs)) (i:Nat) (hi:i < bs.length) (c:Bool):Arr (w.setCell ⟨g,i,none⟩ (.bool c)) g e (bls (bs.set i c)):=by
 have:=h.set i (by rw[xE];exact hi) (.bool c)
 rwa [bls,List.map_set]
theorem Arr.int_set {w:World} {g:Nat} {e:TypeId} {zs:List Int} (h:Arr w g e (ints zs)) (i:Nat) (hi:i < zs.length) (c:Int):Arr (w.setCell ⟨g,i,none⟩ (.int .i64 c)) g e (ints (zs.set i c)):=by
 have:=h.set i (by rw[yO];exact hi) (.int .i64 c)
 rwa [ints,List.map_set]
theorem Arr.nat_set {w:World} {g:Nat} {e:TypeId} {l:List Nat} (h:Arr w g e (nats l)) (i:Nat) (hi:i < l.length) (c:Nat):Arr (w.setCell ⟨g,i,none⟩ (.int .i64 (c:Int))) g e (nats (l.set i c)):=by
 have:=h.set i (by rw[yB];exact hi) (.int .i64 (c:Int))
 rwa [nats,List.map_set]
theorem yR (n:Nat):nats (List.replicate n 0)=List.replicate n (.int .i64 0):=by simp[nats]
theorem sX (n:Nat):ints (List.replicate n 0)=List.replicate n (.int .i64 0):=by simp[ints]
theorem qS (l:List Nat) (x:Nat):nats (l ++ [x])=nats l ++ [.int .i64 (x:Int)]:=by simp[nats]
theorem getD_set_ne {α:Type} (l:List α) (i j:Nat) (c d:α) (hne:i≠j):(l.set i c).getD j d=l.getD j d:=by simp[List.getD,List.getElem?_set_ne hne]
theorem zW {α:Type} {l:List α} {k:Nat} {d:α} (h:k < l.length):l.take (k+1)=l.take k ++ [l.getD k d]:=by
 rw[List.take_succ_eq_append_getElem h];simp[List.getD,List.getElem?_eq_getElem h]
theorem kK (w:World) (c1 c2:Array Value) (e:Nat):((w.alloc (.cells c1 e)).alloc (.cells c2 e)).heap[w.heap.size]?=some (.cells c1 e (0,0))/\((w.alloc (.cells c1 e)).alloc (.cells c2 e)).heap[w.heap.size+1]?=some (.cells c2 e (0,0))/\w.grownBy ((w.alloc (.cells c1 e)).alloc (.cells c2 e)) none/\((w.alloc (.cells c1 e)).alloc (.cells c2 e)).heap.size=w.heap.size+2:=by
 refine⟨zA (heap_alloc_new w _) (Ga _ _ none) (by simp),?_,xO (Ga w _ none) _,by rw[zM,zM]⟩
 have:=heap_alloc_new (w.alloc (.cells c1 e)) (.cells c2 e)
 rw[zM]at this
 exact this
def zb (l:List Nat):List Int:=l.map fun(x:Nat)=>(x:Int)
def txtT (f:List Nat):ByteArray:=strOfNums (zb f)
theorem eL (l:List Nat):(zb l).length=l.length:=by simp[zb]
def u8s (l:List Nat):List Value:=(zb l).map (Value.int .u8)
theorem iG (l:List Nat):(u8s l).length=l.length:=by simp[u8s,zb]
theorem kJ (l:List Nat) (i x:Nat):(u8s l).set i (.int .u8 (x:Int))=u8s (l.set i x):=by simp[u8s,zb,List.map_set]
theorem u8s_replicate (n:Nat):u8s (List.replicate n 0)=List.replicate n (.int .u8 0):=by simp[u8s,zb]
theorem gO {w:World} {g:Nat} {l:List Nat} (h:Arr w g 5 (u8s l)) (i:Nat) (hi:i < l.length):w.cell? ⟨g,i,none⟩=some (.int .u8 ((l.getD i 0:Nat):Int)):=by
 rw[h.cell i (by rw[iG];exact hi),zF hi];simp[u8s,zb]
theorem qCM {f g:List Nat} (hf:∀ x∈f,x < 256) (hg:∀ x∈g,x < 256) (h:txtT f=txtT g):f=g:=by
 have h1:(zb f).map (fun n=>UInt8.ofNat n.toNat)=(zb g).map (fun n=>UInt8.ofNat n.toNat):=by
  have:=congrArg (fun s:ByteArray=>s.data.toList) h
  simpa [txtT,strOfNums] using this
 simp only[zb,List.map_map]at h1
 refine List.ext_getElem (by have:=congrArg List.length h1;simpa using this) fun i h2 h3=>?_
 have h4:=congrArg (fun l=>l[i]?) h1
 simp only[List.getElem?_map,List.getElem?_eq_getElem h2,List.getElem?_eq_getElem h3,Option.map_some,Option.some.injEq,Function.comp,Int.toNat_natCast]at h4
 have h5:=congrArg UInt8.toNat h4
 have h6:=hf _ (List.getElem_mem h2)
 have h7:=hg _ (List.getElem_mem h3)
 simp only[UInt8.toNat_ofNat']at h5
 omega
theorem gP (x n:Int) (hn:1<=n):-n < x.tmod n/\x.tmod n < n:=by
 constructor
 ·by_cases h:0<=x
  ·have:=Int.tmod_nonneg n h;omega
  ·have h1:=Int.tmod_lt_of_pos (-x) (show (0:Int) < n by omega)
   rw[Int.neg_tmod]at h1;omega
 ·exact Int.tmod_lt_of_pos x (by omega)
def modI (x n:Int):Int:=if n < 1 then 0 else if x.tmod n < 0 then x.tmod n+n else x.tmod n
theorem modI_nonneg (x n:Int):0<=modI x n:=by
 unfold modI;split
 ·omega
 ·have:=gP x n (by omega);split <;> omega
theorem modI_lt (x n:Int) (h:1<=n):modI x n < n:=by
 have:=gP x n h
 unfold modI;rw[if_neg (by omega)];split <;> omega
theorem modI_zero (x n:Int) (h:n < 1):modI x n=0:=by
 unfold modI;rw[if_pos h]
set_option maxHeartbeats 400000 in
theorem qBB (x n:Int) (w:World) (hn:n<=9223372036854775807) :
  Calls Try.prog 30 #[.int .i64 x,.int .i64 n] w fun e w'=>e=.returned (.int .i64 (modI x n))/\w=w':=by
 by_cases h1:n < 1
 ·go_enter Try.func30,Try.ntmps30
  go_wp2
  go_ret
  exact⟨yF (modI_zero x n (by omega)).symm,rfl⟩
 ·have h2:=(gP x n (by omega)).1
  have h0:=(gP x n (by omega)).2
  go_enter Try.func30,Try.ntmps30
  go_wp2
  all_goals (go_ret;exact⟨yF (by unfold modI;rw[if_neg (by omega)];first|rw[if_pos (by omega)]|rw[if_neg (by omega)]),rfl⟩)
def xB (B:Nat) (w:World) (tb:Nat):Prop :=
 ∃ (sl:Value) (zs:List Int) (n:Nat),w.heap[tb]?=some (.cells #[sl,.int .i64 n] 82 (0,0))/\Row B w sl (zs.map (Value.int .i64))/\B<=tb/\n<=zs.length
theorem xB.lt {B:Nat} {w:World} {tb:Nat} (h:xB B w tb):tb < w.heap.size:=by
 obtain⟨_,_,_,h,_⟩:=h
 exact(Array.getElem?_eq_some_iff.1 h).1
theorem xB.ge {B:Nat} {w:World} {tb:Nat} (h:xB B w tb):B<=tb:=by
 obtain⟨_,_,_,_,_,h,_⟩:=h
 exact h
theorem xB.kept {B:Nat} {w w':World} {tb:Nat} {row:Option Nat} (h:xB B w tb) (hg:w.grownBy w' row) (hr:∀ k,row=some k->B<=k/\k≠tb):xB B w' tb:=by
 have hl:=h.lt
 obtain⟨sl,zs,n,h1,h2,h3,h4⟩:=h
 exact⟨sl,zs,n,(hg.block tb hl (fun e=>(hr tb e.symm).2 rfl)).trans h1,h2.kept hg (fun k e=>(hr k e).1),h3,h4⟩
theorem xB.of_heap {B:Nat} {w w':World} {tb:Nat} (h:xB B w tb) (e:w'.heap=w.heap):xB B w' tb:=by
 obtain⟨sl,zs,n,h1,h2,h3,h4⟩:=h
 exact⟨sl,zs,n,by rw[e];exact h1,h2.of_heap e,h3,h4⟩
theorem tape_step {B:Nat} {w:World} {tb:Nat} {sl:Value} {zs:List Int} {n:Nat} (h1:w.heap[tb]?=some (.cells #[sl,.int .i64 n] 82 (0,0))) (h2:Row B w sl (zs.map (Value.int .i64))) (h3:B<=tb) (h4:n < zs.length) :
  xB B (w.setCell ⟨tb,1,none⟩ (.int .i64 ((n:Int)+1))) tb :=
 ⟨sl,zs,n+1,heap_setCell_same w tb 1 _ _ _ h1,h2.kept (zC w ⟨tb,1,none⟩ _) (by simp;omega),h3,h4⟩
def Dealt (B tb:Nat) (w:World) (n:Int) (e:Ending) (w':World):Prop :=
 ∃ r:Int,e=.returned (.int .i64 r)/\0<=r/\(1<=n->r < n)/\xB B w' tb/\w.grownBy w' (some tb)
set_option maxHeartbeats 400000 in
theorem uK (B tb:Nat) (w:World) (n:Int) (hn:n<=9223372036854775807) (hT:xB B w tb) :
  Calls Try.prog 15 #[.pointer (some ⟨tb,0,none⟩),.int .i64 n] w (Dealt B tb w n):=by
 have HT:=Kh hT
 obtain⟨sl,zs,at_,h0,h1,hB,h3⟩:=hT
 have c0:w.cell? ⟨tb,0,none⟩=some sl:=by rw[cell_of_row w tb 0 _ _ _ h0];rfl
 have c1:w.cell? ⟨tb,1,none⟩=some (.int .i64 at_):=by rw[cell_of_row w tb 1 _ _ _ h0];rfl
 have f1:w.frozen? ⟨tb,1,none⟩=false:=frozen_of_row w tb 1 _ _ h0
 rcases h1 with ⟨sa,sc,rfl,hz⟩|⟨b,off,cap,rfl,hbB,hlc,hcm,hra⟩
 ·have HR:=Kh hz;have:zs=[]:=by simpa using hz
  subst this
  have:at_=0:=by simpa using h3
  subst this
  clear h0 hz
  go_enter Try.func15,Try.ntmps15
  go_wp2
  go_quiet (fail)
  go_wp2
  go_ret
  exact⟨0,rfl,by omega,by omega,HT.out.kept (zU _ _ none) (by simp),zU _ _ _⟩
 ·rw[List.length_map]at hlc c0
  by_cases hlt:at_ < zs.length
  ·have hc:=hra.2 at_ (by simpa using hlt)
   have h4:b≠tb:=by omega
   have h2:zs.length<=9223372036854775807:=by unfold maxLen at hcm;omega
   simp only[List.getElem_map]at hc
   have HB:=Kh h0;have HR:=Kh hra;clear h0 hra
   go_enter Try.func15,Try.ntmps15
   go_wp2
   go_quiet (fail)
   go_wp2
   have e1:IntKind.i64.wrap (at_:Int)=at_:=IntWalk.i64_in _ (by omega)
   have e2:(at_:Int) < zs.length:=by omega
   go_quiet ((go_at_call 30;first|exact quiet_left (qBB _ _ _ hn)|exact uJ (qBB _ _ _ hn)))
   go_wp2
   go_ret
   refine⟨modI zs[at_] n,rfl,modI_nonneg _ _,modI_lt _ _,?_,?_⟩
   ·exact xB.of_heap (tape_step HB.out (.inr ⟨b,off,cap,by rw[List.length_map],hbB,by simpa using hlc,hcm,HR.out⟩) hB hlt) rfl
   ·exact uW (zC w ⟨tb,1,none⟩ _) rfl rfl rfl rfl
  ·have h2:zs.length<=9223372036854775807:=by unfold maxLen at hcm;omega
   clear h0 hra
   go_enter Try.func15,Try.ntmps15
   go_wp2
   go_quiet (fail)
   go_wp2
   go_ret
   exact⟨0,rfl,by omega,by omega,HT.out.kept (zU _ _ none) (by simp),zU _ _ _⟩
def qCB (B:Nat) (w:World) (e:Ending) (w':World):Prop :=
 e=.returned (.pointer (some ⟨w.heap.size,0,none⟩))/\xB B w' w.heap.size/\w.grownBy w' none
theorem fI {B:Nat} {w:World} {sl:Value} {zs:List Int} (h:Row B w sl (zs.map (Value.int .i64))) (hB:B<=w.heap.size) :
  qCB B w (.returned (.pointer (some ⟨w.heap.size,0,none⟩))) (w.alloc (.cells #[sl,.int .i64 0] 82)) :=
 ⟨rfl,⟨sl,zs,0,heap_alloc_new w _,h.kept (Ga w _ none) (by simp),hB,Nat.zero_le _⟩,Ga w _ none⟩
theorem Row.cut {B:Nat} {w:World} {b off cap:Nat} {xs:List Value} (n:Nat) (hn:n<=xs.length) (hb:b < B) (hc:xs.length<=cap) (hm:cap<=maxLen) (h:vH w b off xs) :
  Row B w (.slice (some ⟨b,off,none⟩) n cap) (xs.take n) :=
 .inr ⟨b,off,cap,by rw[List.length_take,Nat.min_eq_left hn],hb,by rw[List.length_take];omega,hm,h.1,fun i hi=>by
  rw[List.length_take]at hi
  rw[h.2 i (by omega),List.getElem_take]⟩
set_option maxHeartbeats 400000 in
theorem qAZ (B:Nat) (w:World) (sl:Value) (zs:List Int) (h:Row B w sl (zs.map (Value.int .i64))) (hB:B<=w.heap.size) :
  Calls Try.prog 14 #[sl] w (qCB B w):=by
 have HH:=Kh h
 rcases h with ⟨sa,sc,rfl,hz⟩|⟨b,off,cap,rfl,hbB,hlc,hcm,hra⟩
 ·have HZ:=Kh hz;clear hz
  go_enter Try.func14,Try.ntmps14
  go_wp2
  go_ret
  exact fI HH.out hB
 ·rw[List.length_map]at *
  have h0:cap<=9223372036854775807:=by unfold maxLen at hcm;omega
  by_cases h80:80 < zs.length
  ·go_enter Try.func14,Try.ntmps14
   go_wp2
   go_ret
   refine fI (zs:=zs.take 80) ?_ hB
   rw[List.map_take]
   exact Row.cut 80 (by simp;omega) hbB (by simpa using hlc) hcm hra
  ·go_enter Try.func14,Try.ntmps14
   go_wp2
   go_ret
   exact fI HH.out hB
end Go.Proofs.Ytjfdomfendbhfaa
