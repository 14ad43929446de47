/- Part 11 of the proof. -/
import Derived.Test.YtjfdomfendbhfaaQh10
import Derived.BigQuiet
set_option linter.unusedVariables false
set_option linter.unusedSimpArgs false
set_option maxRecDepth 100000
set_option maxHeartbeats 16000000
namespace Go.Proofs.Ytjfdomfendbhfaa
def FstI (M:Nat->List Bool)(A:Nat->Bool)(s:Nat)(m:List Bool)(y:Int):Prop :=
 (y = -1/\∀i,i<s->M i=m->A i=false)\/∃j:Nat,y=(j:Int)/\j<s/\M j=m/\A j=true
theorem FstI.keep {M:Nat->List Bool}{A:Nat->Bool}{s:Nat}{m:List Bool}{y:Int}(h:FstI M A s m y)(hA:M s=m->A s=true->0<=y):FstI M A (s+1) m y:=by
 rcases h with ⟨rfl,h⟩|⟨j,rfl,hj,h1,h2⟩
 ·refine .inl ⟨rfl,fun i hi hm=>?_⟩
  rcases Nat.lt_succ_iff_lt_or_eq.1 hi with hi|rfl
  ·exact h i hi hm
  ·cases hb:A i with
   | false=>rfl
   | true=>have:=hA hm hb;omega
 ·exact .inr ⟨j,rfl,by omega,h1,h2⟩
structure ClsI (M:Nat->List Bool)(A:Nat->Bool)(s t:Nat)(l:List ClaV):Prop where
 nd:(l.map ClaV.m).Nodup
 all:∀i,i<t->M i∈l.map ClaV.m
 met:∀c∈l,∃i,i<t/\M i=c.m
 yes:∀c∈l,FstI M A s c.m c.yes
 no:∀c∈l,FstI M (fun i=>!A i) s c.m c.no
theorem ClsI.nil (M:Nat->List Bool)(A:Nat->Bool):ClsI M A 0 0 [] :=
 ⟨by simp,fun i hi=>by omega,fun c hc=>by simp at hc,fun c hc=>by simp at hc,fun c hc=>by simp at hc⟩
theorem ClsI.old {M:Nat->List Bool}{A:Nat->Bool}{s:Nat}{l:List ClaV}(h:ClsI M A s s l)(hm:M s∈l.map ClaV.m):ClsI M A s (s+1) l :=
 ⟨h.nd,fun i hi=>by
  rcases Nat.lt_succ_iff_lt_or_eq.1 hi with hi|rfl
  ·exact h.all i hi
  ·exact hm,fun c hc=>by obtain⟨i,hi,e⟩:=h.met c hc;exact⟨i,by omega,e⟩,h.yes,h.no⟩
theorem ClsI.new {M:Nat->List Bool}{A:Nat->Bool}{s:Nat}{l:List ClaV}(h:ClsI M A s s l)(hm:M s ∉ l.map ClaV.m):ClsI M A s (s+1) (l++[⟨M s,-1,-1⟩]):=by
 have h0:∀i,i<s->M i=M s->False:=fun i hi e=>hm (e ▸ h.all i hi);refine⟨?_,fun i hi=>?_,fun c hc=>?_,fun c hc=>?_,fun c hc=>?_⟩
 ·rw[List.map_append,List.nodup_append]
  exact⟨h.nd,by simp,fun a ha b hb e=>by simp at hb;subst hb;subst e;exact hm ha⟩
 ·rw[List.map_append]
  rcases Nat.lt_succ_iff_lt_or_eq.1 hi with hi|rfl
  ·exact List.mem_append_left _ (h.all i hi)
  ·exact List.mem_append_right _ (by simp)
 ·rcases List.mem_append.1 hc with hc|hc
  ·obtain⟨i,hi,e⟩:=h.met c hc;exact⟨i,by omega,e⟩
  ·simp at hc;subst hc;exact⟨s,by omega,rfl⟩
 ·rcases List.mem_append.1 hc with hc|hc
  ·exact h.yes c hc
  ·simp at hc;subst hc;exact .inl ⟨rfl,fun i hi e=>(h0 i hi e).elim⟩
 ·rcases List.mem_append.1 hc with hc|hc
  ·exact h.no c hc
  ·simp at hc;subst hc;exact .inl ⟨rfl,fun i hi e=>(h0 i hi e).elim⟩
def putC (c:ClaV)(a:Bool)(s:Nat):ClaV:=if a=true then (if c.yes<0 then ⟨c.m,s,c.no⟩ else c) else (if c.no<0 then ⟨c.m,c.yes,s⟩ else c)
theorem qEK (c:ClaV)(a:Bool)(s:Nat):(putC c a s).m=c.m:=by
 unfold putC;split<;>split<;>rfl
theorem ClsI.put {M:Nat->List Bool}{A:Nat->Bool}{s n:Nat}{l:List ClaV}(h:ClsI M A s (s+1) l)(hn:n<l.length)(hm:(l.getD n default).m=M s):ClsI M A (s+1) (s+1) (l.set n (putC (l.getD n default) (A s) s)):=by
 have e0:l.getD n default=l[n]:=zG hn;rw[e0]at hm⊢
 have h6:(l.set n (putC l[n] (A s) s)).map ClaV.m=l.map ClaV.m:=by
  rw[List.map_set,qEK];refine List.ext_getElem (by simp) fun i h1 h2=>?_;rw[List.getElem_set]
  split
  ·rename_i e;subst e;simp
  ·rfl
 have h0:∀c∈l.set n (putC l[n] (A s) s),c=putC l[n] (A s) s\/(c∈l/\c.m≠M s):=fun c hc=>by
  obtain⟨i,hi,rfl⟩:=List.getElem_of_mem hc;rw[List.length_set]at hi;rw[List.getElem_set]
  split
  ·exact .inl rfl
  ·rename_i e
   refine .inr ⟨List.getElem_mem hi,fun e2=>e ?_⟩;have h3:=h.nd;have h4:(l.map ClaV.m)[n]'(by simpa using hn)=(l.map ClaV.m)[i]'(by simpa using hi):=by simp only[List.getElem_map];rw[hm,e2]
   exact(List.getElem_inj h3).1 h4
 have h5:=List.getElem_mem hn;refine⟨by rw[h6];exact h.nd,fun i hi=>by rw[h6];exact h.all i hi,fun c hc=>?_,fun c hc=>?_,fun c hc=>?_⟩
 ·rcases h0 c hc with rfl|⟨hc,_⟩
  ·rw[qEK];exact h.met _ h5
  ·exact h.met c hc
 ·rcases h0 c hc with rfl|⟨hc,hne⟩
  ·rw[qEK]
   have h1:=h.yes _ h5;unfold putC
   split
   ·rename_i ha
    split
    ·exact .inr ⟨s,rfl,by omega,hm.symm,ha⟩
    ·rename_i h2;exact h1.keep (fun _ _=>by omega)
   ·rename_i ha
    split
    ·exact h1.keep (fun _ hb=>absurd hb ha)
    ·exact h1.keep (fun _ hb=>absurd hb ha)
  ·exact(h.yes c hc).keep (fun e _=>absurd e.symm hne)
 ·rcases h0 c hc with rfl|⟨hc,hne⟩
  ·rw[qEK]
   have h1:=h.no _ h5;unfold putC
   split
   ·rename_i ha
    split
    ·exact h1.keep (fun _ hb=>by rw[ha]at hb;cases hb)
    ·exact h1.keep (fun _ hb=>by rw[ha]at hb;cases hb)
   ·rename_i ha
    split
    ·exact .inr ⟨s,rfl,by omega,hm.symm,by simp only[Bool.not_eq_true]at ha;simp[ha]⟩
    ·rename_i h2;exact h1.keep (fun _ _=>by omega)
  ·exact(h.no c hc).keep (fun e _=>absurd e.symm hne)
def kL (c:ClaV):Bool:=decide (0<=c.yes/\0<=c.no)
section
variable {M:Nat->List Bool} {A:Nat->Bool} {s:Nat} {l:List ClaV}
theorem ClsI.both (h:ClsI M A s s l){c:ClaV}(hc:c∈l)(hb:kL c=true):∃y n:Nat,c.yes=(y:Int)/\c.no=(n:Int)/\y<s/\n<s/\M y=M n/\A y=true/\A n=false:=by
 simp only[kL,decide_eq_true_eq]at hb;rcases h.yes c hc with ⟨e,_⟩|⟨y,e1,hy,hy1,hy2⟩
 ·omega
 rcases h.no c hc with ⟨e,_⟩|⟨n,e2,hn,hn1,hn2⟩
 ·omega
 exact⟨y,n,e1,e2,hy,hn,hy1.trans hn1.symm,hy2,by simpa using hn2⟩
theorem ClsI.clash (h:ClsI M A s s l)(hb:∀c∈l,kL c=false){i j:Nat}(hi:i<s)(hj:j<s)(hm:M i=M j)(h1:A i=true)(h2:A j=false):False:=by
 obtain⟨c,hc,e⟩:=List.mem_map.1 (h.all i hi);have h3:=hb c hc
 have h4:0<=c.yes:=by
  rcases h.yes c hc with ⟨_,h5⟩|⟨y,e1,_⟩
  ·have:=h5 i hi e.symm;rw[h1]at this;cases this
  ·omega
 have h5:0<=c.no:=by
  rcases h.no c hc with ⟨_,h5⟩|⟨y,e1,_⟩
  ·have:=h5 j hj (hm ▸ e.symm);simp[h2]at this
  ·omega
 simp[kL,h4,h5]at h3
theorem ClsI.dec (h:ClsI M A s s l)(hb:∀c∈l,kL c=false){i:Nat}(hi:i<s):∃c∈l,c.m=M i/\c.b=A i:=by
 obtain⟨c,hc,e⟩:=List.mem_map.1 (h.all i hi);refine⟨c,hc,e,?_⟩;unfold ClaV.b;rcases h.yes c hc with ⟨h4,h5⟩|⟨y,e1,hy,hy1,hy2⟩
 ·rw[h5 i hi e.symm,h4];rfl
 ·have:A i=true:=by
   cases hA:A i with
   | true=>rfl
   | false=>exact(h.clash hb hy hi (hy1.trans e) hy2 hA).elim
  rw[this,decide_eq_true_eq];omega
theorem ClsI.len_le (h:ClsI M A s s l):l.length<=s:=by
 have h1:(l.map ClaV.m).length<=((List.range s).map M).length:=List.Nodup.length_le_of_subset h.nd (fun x hx=>by
  obtain⟨c,hc,rfl⟩:=List.mem_map.1 hx;obtain⟨i,hi,e⟩:=h.met c hc
  exact List.mem_map.2 ⟨i,List.mem_range.2 hi,e⟩)
 simpa using h1
end
structure GrpI (M:Nat->List Bool)(A:Nat->Bool)(s t:Nat)(sets:List (List Bool))(ys ns:List Bool):Prop where
 nd:sets.Nodup
 all:∀i,i<t->M i∈sets
 met:∀x∈sets,∃i,i<t/\M i=x
 leny:ys.length=sets.length
 lenn:ns.length=sets.length
 yes:∀k,k<sets.length->(ys.getD k false=true↔∃i,i<s/\M i=sets.getD k []/\A i=true)
 no:∀k,k<sets.length->(ns.getD k false=true↔∃i,i<s/\M i=sets.getD k []/\A i=false)
theorem GrpI.nil (M:Nat->List Bool)(A:Nat->Bool):GrpI M A 0 0 [] [] [] :=
 ⟨by simp,fun i hi=>by omega,fun c hc=>by simp at hc,rfl,rfl,fun k hk=>by simp at hk,fun k hk=>by simp at hk⟩
section
variable {M:Nat->List Bool} {A:Nat->Bool} {s:Nat} {sets:List (List Bool)} {ys ns:List Bool}
theorem GrpI.old (h:GrpI M A s s sets ys ns)(hm:M s∈sets):GrpI M A s (s+1) sets ys ns :=
 ⟨h.nd,fun i hi=>by
  rcases Nat.lt_succ_iff_lt_or_eq.1 hi with hi|rfl
  ·exact h.all i hi
  ·exact hm,fun c hc=>by obtain⟨i,hi,e⟩:=h.met c hc;exact⟨i,by omega,e⟩,h.leny,h.lenn,h.yes,h.no⟩
theorem pX {α:Type}{l:List α}{x d:α}{k:Nat}(hk:k<l.length):(l++[x]).getD k d=l.getD k d:=by simp[List.getD,List.getElem?_append_left hk]
theorem qB {α:Type}{l:List α}{x d:α}{k:Nat}(hk:k=l.length):(l++[x]).getD k d=x:=by subst hk;simp[List.getD]
theorem GrpI.new (h:GrpI M A s s sets ys ns)(hm:M s ∉ sets):GrpI M A s (s+1) (sets++[M s]) (ys++[false]) (ns++[false]):=by
 have h0:∀i,i<s->M i=M s->False:=fun i hi e=>hm (e ▸ h.all i hi);refine⟨?_,fun i hi=>?_,fun c hc=>?_,by simp[h.leny],by simp[h.lenn],fun k hk=>?_,fun k hk=>?_⟩
 ·rw[List.nodup_append]
  exact⟨h.nd,by simp,fun a ha b hb e=>by simp at hb;subst hb;subst e;exact hm ha⟩
 ·rcases Nat.lt_succ_iff_lt_or_eq.1 hi with hi|rfl
  ·exact List.mem_append_left _ (h.all i hi)
  ·exact List.mem_append_right _ (by simp)
 ·rcases List.mem_append.1 hc with hc|hc
  ·obtain⟨i,hi,e⟩:=h.met c hc;exact⟨i,by omega,e⟩
  ·simp at hc;subst hc;exact⟨s,by omega,rfl⟩
 ·rw[List.length_append,List.length_singleton]at hk
  rcases Nat.lt_succ_iff_lt_or_eq.1 hk with hk|hk
  ·rw[pX (by rw[h.leny];exact hk),pX hk];exact h.yes k hk
  ·rw[qB (by rw[h.leny];exact hk),qB hk]
   exact⟨fun e=>(by cases e),fun⟨i,hi,e,_⟩=>(h0 i hi e).elim⟩
 ·rw[List.length_append,List.length_singleton]at hk
  rcases Nat.lt_succ_iff_lt_or_eq.1 hk with hk|hk
  ·rw[pX (by rw[h.lenn];exact hk),pX hk];exact h.no k hk
  ·rw[qB (by rw[h.lenn];exact hk),qB hk]
   exact⟨fun e=>(by cases e),fun⟨i,hi,e,_⟩=>(h0 i hi e).elim⟩
theorem qCO {l:List Bool}{n k:Nat}{x:Bool}(hn:n<l.length):(l.set n x).getD k false=if k=n then x else l.getD k false:=by
 simp only[List.getD_eq_getElem?_getD,List.getElem?_set]
 split
 ·rename_i e;subst e;simp[hn]
 ·rename_i e;rw[if_neg (fun h=>e h.symm)]
theorem GrpI.put (h:GrpI M A s (s+1) sets ys ns){n:Nat}(hn:n<sets.length)(hm:sets.getD n []=M s):GrpI M A (s+1) (s+1) sets (ys.set n (ys.getD n false || A s)) (ns.set n (ns.getD n false || !A s)):=by
 have h0:∀k,k<sets.length->k≠n->sets.getD k []≠M s:=fun k hk hne e=>hne (by
  rw[<-hm,zG hk,zG hn]at e
  exact(List.getElem_inj h.nd).1 e)
 refine⟨h.nd,h.all,h.met,by simp[h.leny],by simp[h.lenn],fun k hk=>?_,fun k hk=>?_⟩
 ·rw[qCO (by rw[h.leny];exact hn)]
  split
  ·rename_i e;subst e
   rw[Bool.or_eq_true,h.yes k hk];constructor
   ·rintro (⟨i,hi,e1,e2⟩|e)
    ·exact⟨i,by omega,e1,e2⟩
    ·exact⟨s,by omega,hm.symm,e⟩
   ·rintro ⟨i,hi,e1,e2⟩
    rcases Nat.lt_succ_iff_lt_or_eq.1 hi with hi|rfl
    ·exact .inl ⟨i,hi,e1,e2⟩
    ·exact .inr e2
  ·rename_i e
   rw[h.yes k hk];constructor
   ·rintro ⟨i,hi,e1,e2⟩;exact⟨i,by omega,e1,e2⟩
   ·rintro ⟨i,hi,e1,e2⟩
    rcases Nat.lt_succ_iff_lt_or_eq.1 hi with hi|rfl
    ·exact⟨i,hi,e1,e2⟩
    ·exact absurd e1.symm (h0 k hk e)
 ·rw[qCO (by rw[h.lenn];exact hn)]
  split
  ·rename_i e;subst e
   rw[Bool.or_eq_true,h.no k hk];constructor
   ·rintro (⟨i,hi,e1,e2⟩|e)
    ·exact⟨i,by omega,e1,e2⟩
    ·exact⟨s,by omega,hm.symm,by simpa using e⟩
   ·rintro ⟨i,hi,e1,e2⟩
    rcases Nat.lt_succ_iff_lt_or_eq.1 hi with hi|rfl
    ·exact .inl ⟨i,hi,e1,e2⟩
    ·exact .inr (by simp[e2])
  ·rename_i e
   rw[h.no k hk];constructor
   ·rintro ⟨i,hi,e1,e2⟩;exact⟨i,by omega,e1,e2⟩
   ·rintro ⟨i,hi,e1,e2⟩
    rcases Nat.lt_succ_iff_lt_or_eq.1 hi with hi|rfl
    ·exact⟨i,hi,e1,e2⟩
    ·exact absurd e1.symm (h0 k hk e)
end
theorem cls_grp {M M' : Nat → List Bool}{A A' : Nat → Bool}{s s' : Nat}{l : List ClaV}{sets : List (List Bool)}{ys ns : List Bool}(h : ClsI M A s s l)(h' : GrpI M' A' s' s' sets ys ns)(h1 : ∀ i, i < s → ∃ j, j < s' ∧ M' j = M i)(h2 : ∀ i, i < s' → ∃ j, j < s ∧ M j = M' i): l.length = sets.length := by
 have e : (l.map ClaV.m).length = sets.length := Nat.le_antisymm
  (List.Nodup.length_le_of_subset h.nd (fun x hx => by
   obtain ⟨c, hc, rfl⟩ := List.mem_map.1 hx
   obtain ⟨i, hi, e⟩ := h.met c hc
   obtain ⟨j, hj, e2⟩ := h1 i hi
   rw [← e, ← e2]; exact h'.all j hj))
  (List.Nodup.length_le_of_subset h'.nd (fun x hx => by
   obtain ⟨i, hi, e⟩ := h'.met x hx
   obtain ⟨j, hj, e2⟩ := h2 i hi
   rw [← e, ← e2]; exact h.all j hj))
 simpa using e
structure BackI (ds:List DfaV)(k:Nat)(L:List (List Nat))(s0 s:Nat)(t:List Nat):Prop where
 ok:yO k t
 walk:sM (nxtT ds) (L.getD s []) t.reverse=L.getD s0 []
 len:t.length+s<=s0
theorem BackI.start (ds:List DfaV)(k:Nat)(L:List (List Nat))(s:Nat):BackI ds k L s s []:=⟨fun a ha=>by simp at ha,rfl,by simp⟩
theorem BackI.step {ds:List DfaV}{k:Nat}{L:List (List Nat)}{s0 s f b:Nat}{t:List Nat}(h:BackI ds k L s0 s t)(hb:b<k)(hf:f<s)(he:nxtT ds (L.getD f []) b=L.getD s []):BackI ds k L s0 f (t++[b]) :=
 ⟨fun a ha=>by
  rcases List.mem_append.1 ha with ha|ha
  ·exact h.ok a ha
  ·simp at ha;subst ha;exact hb,by
  rw[List.reverse_append]
  show sM (nxtT ds) (nxtT ds (L.getD f []) b) t.reverse=_
  rw[he];exact h.walk,by have:=h.len;rw[List.length_append,List.length_singleton];omega⟩
open Go.RowKit
def letU (c:UInt8):Nat:=c.toNat-97
theorem letU_inj {x y:UInt8}(hx:97<=x.toNat)(hy:97<=y.toNat)(h:letU x=letU y):x=y:=by
 unfold letU at h;exact UInt8.toNat_inj.1 (by omega)
def okU (l:List UInt8):Prop:=∀x∈l,97<=x.toNat
theorem mZ:∀ {l m:List UInt8},okU l->okU m->l.map letU=m.map letU->l=m
 | [],[],_,_,_=>rfl
 | [],y::m,_,_,h=>by simp at h
 | x::l,[],_,_,h=>by simp at h
 | x::l,y::m,hl,hm,h=>by
  simp only[List.map_cons,List.cons.injEq]at h
  rw[letU_inj (hl x (by simp)) (hm y (by simp)) h.1,mZ (fun z hz=>hl z (List.mem_cons_of_mem _ hz)) (fun z hz=>hm z (List.mem_cons_of_mem _ hz)) h.2]
def TlU:List (List UInt8)->List UInt8->Prop
 | [],r=>r=[]
 | u::us,r=>∃p r',r=p++u++r'/\TlU us r'
theorem qFG:∀(us:List (List UInt8)) (v r:List UInt8),Fit us v r↔TlU (us++[v]) r
 | [],v,r=>⟨fun⟨q,h⟩=>⟨q,[],by simp[h],rfl⟩,fun⟨p,r',h,h'⟩=>⟨p,by rw[h,show r'=[] from h'];simp⟩⟩
 | u::us,v,r=>by
  constructor
  ·rintro ⟨p,r',h,hf⟩;exact⟨p,r',h,(qFG us v r').1 hf⟩
  ·rintro ⟨p,r',h,hf⟩;exact⟨p,r',h,(qFG us v r').2 hf⟩
theorem qEA:∀ {us:List (List UInt8)} {r:List UInt8},(∀u∈us,okU u)->okU r->(TlU us r↔TlN (us.map (List.map letU)) (r.map letU))
 | [],r,_,_=>by
  show r=[]↔r.map letU=[]
  rw[List.map_eq_nil_iff]
 | u::us,r,hu,hr=>by
  constructor
  ·rintro ⟨p,r',rfl,h⟩
   refine⟨p.map letU,r'.map letU,by simp,(qEA (fun x hx=>hu x (List.mem_cons_of_mem _ hx)) (fun x hx=>hr x (List.mem_append_right _ hx))).1 h⟩
  ·rintro ⟨p,r',h,ht⟩
   obtain⟨a,c,rfl,h1,rfl⟩:=List.map_eq_append_iff.1 h
   obtain⟨a1,b1,rfl,rfl,h2⟩:=List.map_eq_append_iff.1 h1
   have hb:b1=u:=mZ (fun x hx=>hr x (by simp[hx])) (hu u (by simp)) h2
   subst hb
   exact⟨a1,c,rfl,(qEA (fun x hx=>hu x (List.mem_cons_of_mem _ hx)) (fun x hx=>hr x (List.mem_append_right _ hx))).2 ht⟩
theorem pat_mapU:∀ {bs:List (List UInt8)} {s:List UInt8},(∀u∈bs,okU u)->okU s->(qO bs s↔PatN (bs.map (List.map letU)) (s.map letU))
 | [],s,_,_=>Iff.rfl
 | [b],s,hb,hs=>by
  show s=b↔∃r,s.map letU=b.map letU++r/\r=[]
  constructor
  ·rintro rfl;exact⟨[],by simp,rfl⟩
  ·rintro ⟨r,h,rfl⟩
   exact mZ hs (hb b (by simp)) (by simpa using h)
 | b::c::rest,s,hb,hs=>by
  have hl:(c::rest)=(c::rest).dropLast++[(c::rest).getLastD []]:=by
   rw[List.getLastD_eq_getLast?,List.getLast?_eq_some_getLast (List.cons_ne_nil c rest)];exact(List.dropLast_concat_getLast (List.cons_ne_nil c rest)).symm
  have h0:∀u∈c::rest,okU u:=fun x hx=>hb x (List.mem_cons_of_mem _ hx);constructor
  ·rintro ⟨r,rfl,hf⟩
   refine⟨r.map letU,by simp,?_⟩;have:=(qFG _ _ _).1 hf;rw[<-hl]at this;exact(qEA h0 (fun x hx=>hs x (List.mem_append_right _ hx))).1 this
  ·rintro ⟨r,h,ht⟩
   obtain⟨a,r',rfl,h1,rfl⟩:=List.map_eq_append_iff.1 h;have ha:a=b:=mZ (fun x hx=>hs x (List.mem_append_left _ hx)) (hb b (by simp)) h1;subst ha;refine⟨r',rfl,(qFG _ _ _).2 ?_⟩;rw[<-hl];exact(qEA h0 (fun x hx=>hs x (List.mem_append_right _ hx))).2 ht
theorem lettersOf_map (s:ByteArray):zJ s=s.data.toList.map letU:=rfl
theorem kO {s:ByteArray}{k:Int}(h:zU s k=true):okU s.data.toList:=fun x hx=>by
 simp only[zU,Bool.and_eq_true,List.all_eq_true]at h
 have:=h.2 x hx
 unfold qW at this
 rw[decide_eq_true_eq]at this
 omega
theorem pI {s:ByteArray}{k l:Int}(h:zU s k=true)(hkl:k<=l)(hl:l<=6):zU s l=true:=by
 simp only[zU,Bool.and_eq_true,decide_eq_true_eq,List.all_eq_true]at h⊢;refine⟨⟨by omega,hl,h.1.2.2⟩,fun c hc=>?_⟩;have:=h.2 c hc;unfold qW at this⊢;rw[decide_eq_true_eq]at this⊢;omega
theorem nL {bs:List ByteArray}{k l:Int}(h:yT bs k=0)(hkl:k<=l)(hl:l<=6):yT bs l=0:=by
 obtain⟨h1,h2,h3,h4,h5,h6⟩:=wY h;rw[lR (by omega) (by omega) (by omega) (by omega) (by omega),if_pos];refine bO _ _ fun j hj=>?_;have:=mV h6 j hj;unfold tB at this⊢;rw[Bool.and_eq_true]at this⊢;exact⟨pI this.1 hkl hl,this.2⟩
theorem match_pat {bs:List ByteArray}{s:ByteArray}{k:Nat}(h:yT bs (k:Int)=0)(hs:zU s (k:Int)=true):yI bs s=true↔PatN (bs.map zJ) (zJ s):=by
 obtain⟨h1,h6,h0,h8,ht,hw,_⟩:=qBO h;rw[yI,nL h h6 (Int.le_refl 6),pI hs h6 (Int.le_refl 6)];simp only[decide_true,Bool.true_and]
 rw[lQ,pat_mapU (fun u hu=>by
  obtain⟨b,hb,rfl⟩:=List.mem_map.1 hu;obtain⟨i,hi,rfl⟩:=List.getElem_of_mem hb
  exact kO (hw i hi)) (kO hs),List.map_map]
 rfl
theorem iU {bs:List ByteArray}{k:Int}(h:yT bs k=0):∃b us,bs.map zJ=b::us/\∀u∈us.dropLast,u≠[]:=by
 obtain⟨h1,h6,h0,h8,ht,hw,h2⟩:=qBO h
 match bs,h0 with
 | b::rest,_ =>
  refine⟨zJ b,rest.map zJ,rfl,fun u hu=>?_⟩;obtain⟨i,hi,rfl⟩:=List.getElem_of_mem hu
  have h3:i+1<rest.length:=by
   rw[List.length_dropLast,List.length_map]at hi;omega
  have:=h2 (i+1) (by simp;omega) (by omega) (by simp;omega);simp only[List.getElem_cons_succ]at this;intro e;rw[List.getElem_dropLast,List.getElem_map]at e;have e2:=congrArg List.length e;rw[yM,List.length_nil]at e2;omega
theorem patDfa_acc {bs:List ByteArray}{s:ByteArray}{k:Nat}(h:yT bs (k:Int)=0)(hs:zU s (k:Int)=true):acc (xH bs (k:Int)) (st0 (xH bs (k:Int))) (zJ s)=yI bs s:=by
 obtain⟨h1,h6,h0,h8,ht,hw,_⟩:=qBO h;have h7:1<=k:=by omega
 have h5:k<=6:=by omega
 obtain⟨b,us,hb,h4⟩:=iU h;have h2:=(uB hs).1;have h3:=aU h7 h5 h0 ht;rw[xH,if_pos (vJ.2 h),Int.toNat_natCast];show acc (minD (patD k (bs.map zJ)) k) 0 (zJ s)=_;rw[qHD h3 h2];rw[Bool.eq_iff_iff,match_pat h hs,hb];exact qGV h4 h2
theorem qBP {bs:List ByteArray}{k:Nat}(h:yT bs (k:Int)=0):∃n,n<=66/\VD (xH bs (k:Int)) n k:=by
 obtain⟨h1,h6,h0,h8,ht,hw,_⟩:=qBO h;have h2:=aU (k:=k) (by omega) (by omega) h0 ht;have hl:=iV (k:=k) h0 ht;rw[xH,if_pos (vJ.2 h),Int.toNat_natCast];exact⟨_,Nat.le_trans (qHE h2) hl.2,eK h2⟩
end Go.Proofs.Ytjfdomfendbhfaa
namespace Go.Proofs.Ytjfdomfendbhfaa
def lets (w:List Nat):List Int:=w.map fun(a:Nat)=>97+(a:Int)
open Go.RowKit
def ofE (d:DfaV)(ps:List (List ByteArray)):Int:=if wI d=0 then (if 300<ps.length then 3 else vI d.letters ps) else wI d
def ofT (d:DfaV)(ps:List (List ByteArray)):List DfaV:=autD ps d.letters++[minD d d.letters.toNat]
theorem xG (ps:List (List ByteArray))(k:Int):(autD ps k).length=ps.length:=by simp[autD]
theorem uO (d:DfaV)(ps:List (List ByteArray)):(ofT d ps).length=ps.length+1:=by rw[ofT,List.length_append,xG];rfl
theorem qX {d:DfaV}{ps:List (List ByteArray)}(h:ofE d ps=0):wI d=0/\ps.length<=300/\vI d.letters ps=0:=by
 unfold ofE at h
 split at h
 ·rename_i h1
  split at h
  ·omega
  ·exact⟨h1,by omega,h⟩
 ·omega
theorem qGX {d:DfaV}{ps:List (List ByteArray)}(h:wI d≠0):ofE d ps=wI d:=if_neg h
theorem ofE_many {d:DfaV}{ps:List (List ByteArray)}(h:wI d=0)(h3:300<ps.length):ofE d ps=3:=by rw[ofE,if_pos h,if_pos h3]
theorem ofE_pats {d:DfaV}{ps:List (List ByteArray)}(h:wI d=0)(h3:¬300<ps.length):ofE d ps=vI d.letters ps:=by rw[ofE,if_pos h,if_neg h3]
theorem qGI {d:DfaV}(h:wI d=0):d.final.length<=512:=by
 unfold wI at h
 split at h
 ·omega
 split at h
 ·omega
 omega
theorem qDI {d:DfaV}{ps:List (List ByteArray)}{i:Nat}(hi:i<ps.length):(ofT d ps).getD i dN=xH (ps.getD i []) d.letters:=by
 rw[ofT,oX (List.prefix_append _ _) (by rw[xG];exact hi),zG (by rw[xG];exact hi),zG hi];simp[autD]
theorem aV (d:DfaV)(ps:List (List ByteArray)):(ofT d ps).getD ps.length dN=minD d d.letters.toNat:=by
 rw[ofT,List.getD_eq_getElem?_getD,List.getElem?_append_right (by rw[xG];exact Nat.le_refl _),xG,Nat.sub_self];rfl
theorem qHX {ps:List (List ByteArray)}{k:Nat}(h:vI (k:Int) ps=0):OkT (autD ps (k:Int)) k:=fun i hi=>by
 rw[xG]at hi
 have e:(autD ps (k:Int)).getD i dN=xH (ps.getD i []) (k:Int):=by
  rw[zG (by rw[xG];exact hi),zG hi];simp[autD]
 have hp:patW (ps.getD i []) (k:Int)=0:=by rw[zG hi];exact uU.1 h _ (List.getElem_mem hi)
 obtain⟨n,hn,hv⟩:=qBP (vJ.1 hp);exact⟨n,by rw[e];exact hv,by omega⟩
theorem OkT.snoc {ds:List DfaV}{k n:Nat}{d:DfaV}(h:OkT ds k)(hd:VD d n k)(hn:n<=512):OkT (ds++[d]) k:=fun i hi=>by
 rw[List.length_append,List.length_singleton]at hi
 rcases Nat.lt_succ_iff_lt_or_eq.1 hi with hi|rfl
 ·obtain⟨m,h1,h2⟩:=h i hi
  exact⟨m,by rw[oX (List.prefix_append _ _) hi];exact h1,h2⟩
 ·refine⟨n,?_,hn⟩
  rw[List.getD_eq_getElem?_getD,List.getElem?_append_right (Nat.le_refl _),Nat.sub_self];exact hd
theorem qES {d:DfaV}{ps:List (List ByteArray)}(h:ofE d ps=0):OkT (ofT d ps) d.letters.toNat:=by
 obtain⟨h1,h2,h3⟩:=qX h;have hv:=aG h1;have h5:=qGI h1;have hk:=hv.hk;have e:((d.letters.toNat:Nat):Int)=d.letters:=hk.symm;have ha:=qHX (ps:=ps) (k:=d.letters.toNat) (by rw[e];exact h3);rw[e]at ha;exact ha.snoc (eK hv) (by have:=qHE hv;omega)
theorem qDO {np:Nat}{cs:List ChoV}{m m':Nat->Bool}(hc:wH np cs cs.length)(h:∀i,i<np->m i=m' i):∀(f:Nat) (r:Int),r<=1+(cs.length:Int)->decF cs m f r=decF cs m' f r
 | 0,r,_=>rfl
 | f+1,r,hr=>by
  rw[decF,decF]
  split
  ·rfl
  ·rename_i h2
   have hi:r.toNat-2<cs.length:=by omega
   have hf:=rJ (hc _ hi)
   rw[h _ (show (cs.getD (r.toNat-2) default).p.toNat<np by omega)]
   split
   ·exact qDO hc h f _ (by omega)
   ·exact qDO hc h f _ (by omega)
theorem qDN {np:Nat}{cs:List ChoV}{m m':Nat->Bool}(hc:wH np cs cs.length)(h:∀i,i<np->m i=m' i){r:Int}(hr:r<=1+(cs.length:Int)):decG cs m r=decG cs m' r:=qDO hc h _ r hr
theorem aY {ds:List DfaV}{np:Nat}(hn:np<=ds.length)(u:List Nat){i:Nat}(hi:i<np):(mtsT ds np (sM (nxtT ds) (st0T ds) u)).getD i false=acc (ds.getD i dN) (st0 (ds.getD i dN)) u:=by
 rw[gS hi,uM (by omega)]
abbrev MT (ds:List DfaV)(np:Nat)(L:List (List Nat)):Nat->List Bool:=fun s=>mtsT ds np (L.getD s [])
abbrev AT (ds:List DfaV)(np:Nat)(L:List (List Nat)):Nat->Bool:=fun s=>accT ds (L.getD s []) np
theorem dia_dec {ds:List DfaV}{np k:Nat}{L:List (List Nat)}{l:List ClaV}{cs:List ChoV}{r:Int}(hn:np<ds.length)(hL:BfsD (nxtT ds) k (st0T ds) L)(hc:ClsI (MT ds np L) (AT ds np L) L.length L.length l)(hb:∀c∈l,kL c=false)(hch:wH np cs cs.length)(hr:r<=1+(cs.length:Int))(hd:∀c∈l,decG cs (fun i=>c.m.getD i false) r=c.b):
  ∀u,yO k u->decG cs (fun i=>acc (ds.getD i dN) (st0 (ds.getD i dN)) u) r=acc (ds.getD np dN) (st0 (ds.getD np dN)) u:=fun u hu=>by
 obtain⟨i,hi,e⟩:=List.getElem_of_mem (hL.all u hL.mem0 hu)
 obtain⟨c,hcl,h1,h2⟩:=hc.dec hb hi
 have e2:L.getD i []=sM (nxtT ds) (st0T ds) u:=by rw[zG hi,e]
 rw[<-uM hn,<-e2]
 show _=AT ds np L i
 rw[<-h2,<-hd c hcl]
 refine qDN hch (fun j hj=>?_) hr
 show acc _ _ _=c.m.getD j false
 rw[h1]
 show _=(mtsT ds np (L.getD i [])).getD j false
 rw[e2,aY (by omega) u hj]
theorem cls_conf {ds:List DfaV}{np k:Nat}{L:List (List Nat)}{l:List ClaV}(hn:np<ds.length)(hL:BfsD (nxtT ds) k (st0T ds) L)(hc:ClsI (MT ds np L) (AT ds np L) L.length L.length l){c:ClaV}(hcl:c∈l)(hb:kL c=true):Conf ds np k:=by
 obtain⟨y,n,_,_,hy,h0,h1,h2,h3⟩:=hc.both hcl hb;exact(lE hn hL).2 ⟨_,_,by rw[zG hy];exact List.getElem_mem hy,by rw[zG h0];exact List.getElem_mem h0,h1,h2,h3⟩
theorem cls_noconf {ds:List DfaV}{np k:Nat}{L:List (List Nat)}{l:List ClaV}(hn:np<ds.length)(hL:BfsD (nxtT ds) k (st0T ds) L)(hc:ClsI (MT ds np L) (AT ds np L) L.length L.length l)(hb:∀c∈l,kL c=false):¬Conf ds np k:=fun h=>by
 obtain⟨x,y,hx,hy,h1,h2,h3⟩:=(lE hn hL).1 h
 obtain⟨i,hi,rfl⟩:=List.getElem_of_mem hx
 obtain⟨j,hj,rfl⟩:=List.getElem_of_mem hy
 rw[<-zG (d:=[]) hi]at h1 h2
 rw[<-zG (d:=[]) hj]at h1 h3
 exact hc.clash hb hi hj h1 h2 h3
inductive OfOut (w':World)(d:DfaV)(ps:List (List ByteArray)):Value->ByteArray->ByteArray->Int->Prop
 | bad (h:ofE d ps≠0):OfOut w' d ps (.agg #[.slice none 0 0,.slice none 0 0,.int .i64 0]) ⟨#[]⟩ ⟨#[]⟩ (ofE d ps)
 | over (h:ofE d ps=0) (ho:Over (ofT d ps) d.letters.toNat):OfOut w' d ps (.agg #[.slice none 0 0,.slice none 0 0,.int .i64 0]) ⟨#[]⟩ ⟨#[]⟩ 3
 | conf (h:ofE d ps=0) (hu:qIK (ofT d ps) d.letters.toNat) (hc:Conf (ofT d ps) ps.length d.letters.toNat) (u v:List Nat) (h1:yO d.letters.toNat u) (h2:yO d.letters.toNat v) (h3:u.length<=4000) (h4:v.length<=4000)
   (h5:∀i,i<ps.length->acc (xH (ps.getD i []) d.letters) (st0 (xH (ps.getD i []) d.letters)) u=acc (xH (ps.getD i []) d.letters) (st0 (xH (ps.getD i []) d.letters)) v) (h6:acc d (st0 d) u=true) (h7:acc d (st0 d) v=false) :
   OfOut w' d ps (.agg #[.slice none 0 0,.slice none 0 0,.int .i64 0]) (strOfNums (lets u)) (strOfNums (lets v)) 20
 | ok (v:Value) (g:DiaV) (l:List ClaV) (L:List (List Nat)) (h:ofE d ps=0) (hL:BfsD (nxtT (ofT d ps)) d.letters.toNat (st0T (ofT d ps)) L) (hl4:L.length<=4000) (hn:¬Conf (ofT d ps) ps.length d.letters.toNat) (hg:oC w'.heap.size w' v g) (h1:g.pats=ps) (h2:wH ps.length g.chos g.chos.length) (h3:0<=g.root) (h4:g.root<=1+(g.chos.length:Int))
   (h5:∀u,yO d.letters.toNat u->decG g.chos (fun i=>acc (xH (ps.getD i []) d.letters) (st0 (xH (ps.getD i []) d.letters)) u) g.root=acc d (st0 d) u) (hc:ClsI (MT (ofT d ps) ps.length L) (AT (ofT d ps) ps.length L) L.length L.length l) (h6:g.chos.length+1<=l.length) :
   OfOut w' d ps v ⟨#[]⟩ ⟨#[]⟩ 0
theorem st0_min (d:DfaV)(k:Nat):st0 (minD d k)=0:=rfl
theorem aZ {d:DfaV}{n k:Nat}(hd:VD d n k){u:List Nat}(hu:yO k u):acc (minD d k) (st0 (minD d k)) u=acc d (st0 d) u:=by rw[st0_min];exact qHD hd hu
theorem of_conf {d:DfaV}{ps:List (List ByteArray)}{L:List (List Nat)}{y n:Nat}{u v:List Nat}(h:ofE d ps=0)(hL:BfsD (nxtT (ofT d ps)) d.letters.toNat (st0T (ofT d ps)) L)(hu:yO d.letters.toNat u)(hv:yO d.letters.toNat v)(h1:sM (nxtT (ofT d ps)) (L.getD 0 []) u=L.getD y [])(h2:sM (nxtT (ofT d ps)) (L.getD 0 []) v=L.getD n [])(hm:MT (ofT d ps) ps.length L y=MT (ofT d ps) ps.length L n)(ha:AT (ofT d ps) ps.length L y=true)(hb:AT (ofT d ps) ps.length L n=false):(∀i,i<ps.length->acc (xH (ps.getD i []) d.letters) (st0 (xH (ps.getD i []) d.letters)) u=acc (xH (ps.getD i []) d.letters) (st0 (xH (ps.getD i []) d.letters)) v)/\acc d (st0 d) u=true/\acc d (st0 d) v=false:=by
 have e0:L.getD 0 []=st0T (ofT d ps):=by rw[List.getD_eq_getElem?_getD,hL.hd];rfl
 rw[e0]at h1 h2;have hn:ps.length<(ofT d ps).length:=by rw[uO];omega
 have h0:=aG (qX h).1;refine⟨fun i hi=>?_,?_,?_⟩
 ·have e1:=aY (ds:=ofT d ps) (np:=ps.length) (by omega) u hi
  have e2:=aY (ds:=ofT d ps) (np:=ps.length) (by omega) v hi;rw[qDI hi,h1]at e1;rw[qDI hi,h2]at e2;rw[<-e1,<-e2];exact congrArg (fun l=>l.getD i false) hm
 ·have e1:=uM hn u
  rw[h1,aV,aZ h0 hu]at e1;rw[<-e1];exact ha
 ·have e1:=uM hn v
  rw[h2,aV,aZ h0 hv]at e1;rw[<-e1];exact hb
theorem of_dec {d:DfaV}{ps:List (List ByteArray)}{L:List (List Nat)}{l:List ClaV}{cs:List ChoV}{r:Int}(h:ofE d ps=0)(hL:BfsD (nxtT (ofT d ps)) d.letters.toNat (st0T (ofT d ps)) L)(hc:ClsI (MT (ofT d ps) ps.length L) (AT (ofT d ps) ps.length L) L.length L.length l)(hb:∀c∈l,kL c=false)(hch:wH ps.length cs cs.length)(hr:r<=1+(cs.length:Int))(hd:∀c∈l,decG cs (fun i=>c.m.getD i false) r=c.b):
  ∀u,yO d.letters.toNat u->decG cs (fun i=>acc (xH (ps.getD i []) d.letters) (st0 (xH (ps.getD i []) d.letters)) u) r=acc d (st0 d) u:=fun u hu=>by
 have hn:ps.length<(ofT d ps).length:=by rw[uO];omega
 have h1:=dia_dec hn hL hc hb hch hr hd u hu
 rw[aV,aZ (aG (qX h).1) hu]at h1
 rw[<-h1]
 exact qDN hch (fun i hi=>by rw[qDI hi]) hr
theorem of_short {d:DfaV}{ps:List (List ByteArray)}(h:ofE d ps=0):∀p∈ps,p.length<=100000:=fun p hp=>by
 have h1:=uU.1 (qX h).2.2 p hp
 have:=wY (vJ.1 h1)
 omega
end Go.Proofs.Ytjfdomfendbhfaa
namespace Go.Proofs.Ytjfdomfendbhfaa
def finD (g:DiaV)(ds:List DfaV)(x:List Nat):Bool:=decG g.chos (fun p=>(mtsT ds ds.length x).getD p false) g.root
def diaA (g:DiaV)(k:Nat)(L:List (List Nat)):DfaV:=bfsA (nxtT (autD g.pats (k:Int))) k (finD g (autD g.pats (k:Int))) L
theorem qHK {g:DiaV}{k:Nat}{L:List (List Nat)}(hL:BfsD (nxtT (autD g.pats (k:Int))) k (st0T (autD g.pats (k:Int))) L)(h1:1<=k)(h6:k<=6)(hl:L.length<=4000):VD (diaA g k L) L.length k:=hL.vd h1 h6 (by omega)
theorem tok_next {ds:List DfaV}{k:Nat}{L T:List (List Nat)}(h:TOk ds k L T L.length):T.map (fun r=>r.map fun x:Nat=>(x:Int))=L.map (sL (nxtT ds) k L):=by
 refine List.ext_getElem (by simp[h.1]) fun i h1 h2=>?_;have hi:i<T.length:=by simpa using h1
 have h0:i<L.length:=by simpa using h2
 obtain⟨hl,hr⟩:=h.2 i h0;rw[zG hi]at hl hr;rw[zG h0]at hr;simp only[List.getElem_map];refine List.ext_getElem (by simp[sL,hl]) fun b h3 h4=>?_;have hb:b<k:=by simpa [sL] using h4
 have h5:=(hr b hb).1;rw[zG (by omega)]at h5;simp[sL,h5]
def diaM (g:DiaV)(k:Nat)(L:List (List Nat)):DfaV:=minD (diaA g k L) k
def qJO (g:DiaV)(k:Nat)(L:List (List Nat)):Prop:=BfsD (nxtT (autD g.pats (k:Int))) k (st0T (autD g.pats (k:Int))) L/\L.length<=4000
def dY (g:DiaV)(letters:Int)(E:Int)(m:DfaV):Prop :=
 (diaE g letters≠0/\E=diaE g letters/\m=jV)\/(diaE g letters=0/\∃k:Nat,letters=k/\1<=k/\k<=6/\((Over (autD g.pats (k:Int)) k/\E=3/\m=jV) \/
  ∃L,qJO g k L/\((512<minN (diaA g k L) k/\E=3/\m=jV)\/(minN (diaA g k L) k<=512/\E=0/\m=diaM g k L))))
theorem diaE_zero4 {g:DiaV}{letters:Int}(h:diaE g letters=0):1<=letters/\letters<=6/\g.pats.length<=300/\vI letters g.pats=0:=by
 unfold diaE at h
 split at h
 ·cases h
 ·split at h
  ·cases h
  ·split at h
   ·omega
   ·omega
theorem dY.ok {g:DiaV}{letters:Int}{m:DfaV}(h:dY g letters 0 m):∃k:Nat,letters=k/\1<=k/\k<=6/\∃L,qJO g k L/\minN (diaA g k L) k<=512/\m=diaM g k L/\diaE g letters=0:=by
 rcases h with ⟨a1,a2,a3⟩|⟨a1,k,hk,h1,h6,a⟩
 ·exact absurd a2.symm a1
 ·rcases a with ⟨_,a2,_⟩|⟨L,hL,a⟩
  ·cases a2
  ·rcases a with ⟨_,a2,_⟩|⟨a2,_,a3⟩
   ·cases a2
   ·exact⟨k,hk,h1,h6,L,hL,a2,a3,a1⟩
theorem diaM_vd {g:DiaV}{k:Nat}{L:List (List Nat)}(h1:1<=k)(h6:k<=6)(hL:qJO g k L):VD (diaM g k L) (minN (diaA g k L) k) k:=eK (qHK hL.1 h1 h6 hL.2)
theorem dY.err {g:DiaV}{letters E:Int}{m:DfaV}(h:dY g letters E m)(hE:E≠0):m=jV:=by
 rcases h with ⟨_,_,a3⟩|⟨a1,k,hk,h1,h6,a⟩
 ·exact a3
 ·rcases a with ⟨_,_,a3⟩|⟨L,hL,a⟩
  ·exact a3
  ·rcases a with ⟨_,_,a3⟩|⟨_,a2,_⟩
   ·exact a3
   ·exact absurd a2 hE
open Go.Maps Go.RowKit
theorem posmap_under:Try.prog.underlying 150=some (.map 152 3):=by kernel_rfl
theorem pos_keyed:Keyed Try.prog 152:=Keyed.of_law (deep_law_laid (m:=5) (by kernel_rfl) (by decide) (of_decide_eq_true (by kernel_rfl)) (by kernel_rfl) (by kernel_rfl))
def posV (x:Nat×Nat):Value:=.agg #[.int .i64 (x.1:Int),.int .i64 (x.2:Int)]
def qGE (x:Nat×Nat):Prop:=x.1<4611686018427387904/\x.2<4611686018427387904
theorem qBN:Try.prog.cellsOf 152=2:=by kernel_rfl
theorem pos_some {x0 x1:Nat}(h0:x0<4611686018427387904)(h1:x1<4611686018427387904):(keyOf Try.prog 152 (.agg #[.int .i64 (x0:Int),.int .i64 (x1:Int)])).isSome=true:=by
 have hk:Try.prog.keyType 152=true:=by kernel_rfl
 unfold keyOf;rw[Try.underlying152];simp only[hk,Bool.true_and]
 have hf:(Value.agg #[.int .i64 (x0:Int),.int .i64 (x1:Int)]).formed Try.prog 152=true:=by
  simp[Value.formed,Try.underlying152,qBN]
 rw[if_pos hf]
 have hl:Try.prog.keyLits (Try.prog.types.size+1) 152 (Value.agg #[.int .i64 (x0:Int),.int .i64 (x1:Int)]).cells.toList=some [.int .i64 (x0:Int),.int .i64 (x1:Int)]:=by
  have hz:Try.prog.types.size=(Try.prog.types.size-1)+1:=by kernel_rfl
  rw[hz];unfold Program.keyLits;rw[Try.underlying152];simp[Value.cells,qBN,eO,tK _ h0,tK _ h1]
 rw[hl];rfl
theorem qGT:KeyK 150 152 qGE posV where
 key:=pos_keyed
 und:=posmap_under
 of:=fun x h=>pos_some h.1 h.2
 inj:=fun x y hx hy e=>by
  simp only[posV,Value.agg.injEq]at e
  have e:=congrArg Array.toList e
  simp only[List.cons.injEq,Value.int.injEq,true_and,and_true]at e
  exact Prod.ext (by omega) (by omega)
end Go.Proofs.Ytjfdomfendbhfaa
namespace Go.Proofs.Ytjfdomfendbhfaa
def posL:Nat->List (List Nat)->List (Nat×Nat)
 | _,[]=>[]
 | i,u::us=>(List.range (u.length+1)).map (fun k=>(i,k))++posL (i+1) us
def wJ (bs:List (List Nat)):List (Nat×Nat):=posL 0 bs
def offP (bs:List (List Nat))(i:Nat):Nat:=yQ (bs.take i)+i
def lenP (bs:List (List Nat))(i:Nat):Nat:=(bs.getD i []).length
theorem sU:∀(bs:List (List Nat)) (i:Nat),(posL i bs).length=yQ bs+bs.length
 | [],i=>rfl
 | u::us,i=>by
  rw[posL,List.length_append,List.length_map,List.length_range,sU us,uF,List.length_cons];omega
theorem uS (bs:List (List Nat)):offP bs 0=0:=by simp[offP,yQ]
theorem qBT (u:List Nat)(us:List (List Nat))(i:Nat):offP (u::us) (i+1)=u.length+1+offP us i:=by
 simp only[offP,List.take_succ_cons,uF];omega
theorem qBS {bs:List (List Nat)}{i:Nat}(h:i<bs.length):offP bs (i+1)=offP bs i+lenP bs i+1:=by
 unfold offP lenP;rw[List.take_succ_eq_append_getElem h,jF,zG h];simp[yQ];omega
theorem qEM:∀(bs:List (List Nat)) (j i k:Nat),i<bs.length->k<=lenP bs i->(posL j bs)[offP bs i+k]?=some (j+i,k)
 | [],j,i,k,h,_=>by simp at h
 | u::us,j,0,k,h,hk=>by
  have hk':k<u.length+1:=by unfold lenP at hk;simp at hk;omega
  rw[uS,Nat.zero_add,posL,List.getElem?_append_left (by simpa using hk')]
  simp[hk']
 | u::us,j,i+1,k,h,hk=>by
  have:=qEM us (j+1) i k (by simpa using h) (by unfold lenP at hk⊢;simpa using hk)
  rw[qBT,posL,List.getElem?_append_right (by simp;omega),List.length_map,List.length_range,show u.length+1+offP us i+k-(u.length+1)=offP us i+k by omega,this]
  congr 2;omega
theorem nX {bs:List (List Nat)}{i k:Nat}(hi:i<bs.length)(hk:k<=lenP bs i):(wJ bs)[offP bs i+k]?=some (i,k):=by
 have:=qEM bs 0 i k hi hk
 rwa [Nat.zero_add]at this
theorem rM {bs:List (List Nat)}{i k:Nat}(hi:i<bs.length)(hk:k<=lenP bs i):offP bs i+k<(wJ bs).length:=(List.getElem?_eq_some_iff.1 (nX hi hk)).1
theorem bH:∀(bs:List (List Nat)) (j p:Nat),p<(posL j bs).length->∃i k,i<bs.length/\k<=lenP bs i/\p=offP bs i+k
 | [],j,p,h=>by simp[posL]at h
 | u::us,j,p,h=>by
  by_cases hp:p<u.length+1
  ·exact⟨0,p,by simp,by unfold lenP;simp;omega,by rw[uS];omega⟩
  ·rw[sU,uF,List.length_cons]at h
   obtain⟨i,k,hi,hk,e⟩:=bH us (j+1) (p-(u.length+1)) (by rw[sU];omega)
   exact⟨i+1,k,by simpa using hi,by unfold lenP at hk⊢;simpa using hk,by rw[qBT];omega⟩
theorem posOf_cover {bs:List (List Nat)}{p:Nat}(h:p<(wJ bs).length):∃i k,i<bs.length/\k<=lenP bs i/\p=offP bs i+k:=bH bs 0 p h
theorem qGU:∀(bs:List (List Nat)) (j:Nat),∀x∈posL j bs,j<=x.1
 | [],j,x,hx=>by simp[posL]at hx
 | u::us,j,x,hx=>by
  rcases List.mem_append.1 hx with hx|hx
  ·obtain⟨k,_,rfl⟩:=List.mem_map.1 hx;exact Nat.le_refl _
  ·have:=qGU us (j+1) x hx;omega
theorem bG:∀(bs:List (List Nat)) (j:Nat),(posL j bs).Nodup
 | [],j=>by simp[posL]
 | u::us,j=>by
  rw[posL,List.nodup_append]
  refine⟨?_,bG us (j+1),fun x hx y hy e=>?_⟩
  ·rw[List.Nodup,List.pairwise_map]
   exact(List.nodup_range (n:=u.length+1)).imp fun hne e=>hne (by simpa using e)
  ·obtain⟨k,_,rfl⟩:=List.mem_map.1 hx
   have:=qGU us (j+1) y hy
   rw[<-e]at this
   have:j+1<=j:=this
   omega
def leP (bs:List (List Nat))(x:Nat×Nat)(a:Nat):Bool:=decide (x.2<lenP bs x.1) && (bs.getD x.1 []).getD x.2 0 == a
def stP (x:Nat×Nat):Bool:=decide (x.2=0) && decide (0<x.1)
def enP (bs:List (List Nat))(x:Nat×Nat):Bool:=decide (x.2=lenP bs x.1) && decide (x.1+1<bs.length)
def atP (bs:List (List Nat))(p:Nat):Nat×Nat:=(wJ bs).getD p (0,0)
theorem mM {bs:List (List Nat)}{i k:Nat}(hi:i<bs.length)(hk:k<=lenP bs i):atP bs (offP bs i+k)=(i,k):=by
 unfold atP;rw[List.getD_eq_getElem?_getD,nX hi hk];rfl
def bitP (S:List Bool)(p:Nat):Bool:=S.getD p false
def lX (bs:List (List Nat))(S:List Bool)(a p:Nat)(t:List Bool):List Bool :=
 if bitP S p then
  (if stP (atP bs p) then (if leP bs (atP bs p) a then t.set (p+1) true else t).set p true else (if leP bs (atP bs p) a then t.set (p+1) true else t))
 else t
def yR (bs:List (List Nat))(m:Nat)(S:List Bool)(a:Nat):Nat->List Bool
 | 0=>List.replicate m false
 | p+1=>lX bs S a p (yR bs m S a p)
def pV (bs:List (List Nat))(S:List Bool):Nat->List Bool
 | 0=>S
 | p+1=>if bitP (pV bs S p) p && enP bs (atP bs p) then (pV bs S p).set (p+1) true else pV bs S p
theorem uT (bs:List (List Nat))(m:Nat)(S:List Bool)(a:Nat):∀p,(yR bs m S a p).length=m
 | 0=>by simp[yR]
 | p+1=>by
  have:=uT bs m S a p
  unfold yR lX
  split
  ·split<;>split<;>simp[this]
  ·exact this
theorem rB (bs:List (List Nat))(S:List Bool):∀p,(pV bs S p).length=S.length
 | 0=>rfl
 | p+1=>by
  have:=rB bs S p
  unfold pV
  split<;>simp[this]
theorem qDR {t:List Bool}{q p:Nat}(hq:q<t.length):bitP (t.set q true) p=(decide (q=p) || bitP t p):=by
 unfold bitP;by_cases e:q=p
 ·subst e
  rw[kS hq];simp
 ·rw[fN e];simp[e]
theorem aD {t:List Bool}{q p:Nat}:bitP (t.set q true) p=(decide (q=p/\q<t.length) || bitP t p):=by
 by_cases hq:q<t.length
 ·rw[qDR hq];simp[hq]
 ·rw[List.set_eq_of_length_le (by omega)];simp[hq]
theorem aC (bs:List (List Nat)){m:Nat}(S:List Bool)(a:Nat):∀q p,p<m->(bitP (yR bs m S a q) p=true↔(∃p',p=p'+1/\p'<q/\bitP S p'=true/\leP bs (atP bs p') a=true)\/(p<q/\bitP S p=true/\stP (atP bs p)=true))
 | 0,p,hp=>by
  simp[yR,bitP,List.getD,List.getElem?_replicate,hp]
 | q+1,p,hp=>by
  have ih:=aC bs S a q p hp
  have hl:=uT bs m S a q
  unfold yR lX
  by_cases hS:bitP S q=true
  ·rw[if_pos hS]
   have e1:bitP (if leP bs (atP bs q) a then (yR bs m S a q).set (q+1) true else yR bs m S a q) p=true↔(p=q+1/\leP bs (atP bs q) a=true)\/bitP (yR bs m S a q) p=true:=by
    by_cases hle:leP bs (atP bs q) a=true
    ·rw[if_pos hle,aD]
     simp only[Bool.or_eq_true,decide_eq_true_eq,hl];constructor
     ·rintro (⟨h,_⟩|h)
      ·exact .inl ⟨h.symm,hle⟩
      ·exact .inr h
     ·rintro (⟨h,_⟩|h)
      ·exact .inl ⟨h.symm,by omega⟩
      ·exact .inr h
    ·rw[if_neg hle]
     constructor
     ·exact .inr
     ·rintro (⟨_,h⟩|h)
      ·exact absurd h hle
      ·exact h
   have h0:(if leP bs (atP bs q) a then (yR bs m S a q).set (q+1) true else yR bs m S a q).length=m:=by split<;>simp[hl]
   have e2:bitP (if stP (atP bs q) then (if leP bs (atP bs q) a then (yR bs m S a q).set (q+1) true else yR bs m S a q).set q true else (if leP bs (atP bs q) a then (yR bs m S a q).set (q+1) true else yR bs m S a q)) p=true↔(p=q/\stP (atP bs q)=true)\/(p=q+1/\leP bs (atP bs q) a=true)\/bitP (yR bs m S a q) p=true:=by
    by_cases hst:stP (atP bs q)=true
    ·rw[if_pos hst,aD]
     simp only[Bool.or_eq_true,decide_eq_true_eq,h0,e1];constructor
     ·rintro (⟨h,_⟩|h)
      ·exact .inl ⟨h.symm,hst⟩
      ·exact .inr h
     ·rintro (⟨h,_⟩|h)
      ·exact .inl ⟨h.symm,by omega⟩
      ·exact .inr h
    ·rw[if_neg hst,e1]
     constructor
     ·exact .inr
     ·rintro (⟨_,h⟩|h)
      ·exact absurd h hst
      ·exact h
   rw[e2,ih];constructor
   ·rintro (⟨rfl,h⟩|⟨rfl,h⟩|⟨p',h1,h2,h3⟩|⟨h1,h2⟩)
    ·exact .inr ⟨by omega,hS,h⟩
    ·exact .inl ⟨q,rfl,by omega,hS,h⟩
    ·exact .inl ⟨p',h1,by omega,h3⟩
    ·exact .inr ⟨by omega,h2⟩
   ·rintro (⟨p',h1,h2,h3,h4⟩|⟨h1,h2,h3⟩)
    ·by_cases e:p'=q
     ·subst e;exact .inr (.inl ⟨h1,h4⟩)
     ·exact .inr (.inr (.inl ⟨p',h1,by omega,h3,h4⟩))
    ·by_cases e:p=q
     ·subst e;exact .inl ⟨rfl,h3⟩
     ·exact .inr (.inr (.inr ⟨by omega,h2,h3⟩))
  ·rw[if_neg hS,ih]
   constructor
   ·rintro (⟨p',h1,h2,h3⟩|⟨h1,h2⟩)
    ·exact .inl ⟨p',h1,by omega,h3⟩
    ·exact .inr ⟨by omega,h2⟩
   ·rintro (⟨p',h1,h2,h3,h4⟩|⟨h1,h2,h3⟩)
    ·by_cases e:p'=q
     ·subst e;exact absurd h3 hS
     ·exact .inl ⟨p',h1,by omega,h3,h4⟩
    ·by_cases e:p=q
     ·subst e;exact absurd h2 hS
     ·exact .inr ⟨by omega,h2,h3⟩
def sprF (bs:List (List Nat))(S:List Bool):Nat->Bool
 | 0=>bitP S 0
 | p+1=>bitP S (p+1) || (sprF bs S p && enP bs (atP bs p))
theorem qCY (bs:List (List Nat))(S:List Bool):∀q,q<S.length->∀p,p<S.length->bitP (pV bs S q) p=if p<=q then sprF bs S p else bitP S p
 | 0,_,p,hp=>by
  by_cases e:p<=0
  ·rw[if_pos e,show p=0 by omega];rfl
  ·rw[if_neg e];rfl
 | q+1,hq,p,hp=>by
  have ih:=qCY bs S q (by omega)
  have hl:=rB bs S q
  have hqq:bitP (pV bs S q) q=sprF bs S q:=by rw[ih q (by omega),if_pos (Nat.le_refl q)]
  unfold pV
  rw[hqq]
  by_cases hc:(sprF bs S q && enP bs (atP bs q))=true
  ·rw[if_pos hc,qDR (by omega),ih p hp]
   by_cases e:q+1=p
   ·subst e
    rw[if_neg (by omega),if_pos (Nat.le_refl _),sprF,hc];simp
   ·by_cases h2:p<=q
    ·rw[if_pos h2,if_pos (by omega)];simp[e]
    ·rw[if_neg h2,if_neg (by omega)];simp[e]
  ·rw[if_neg hc,ih p hp]
   by_cases e:q+1=p
   ·subst e
    rw[if_neg (by omega),if_pos (Nat.le_refl _),sprF]
    rw[Bool.not_eq_true]at hc
    rw[hc,Bool.or_false]
   ·by_cases h2:p<=q
    ·rw[if_pos h2,if_pos (by omega)]
    ·rw[if_neg h2,if_neg (by omega)]
theorem spr_last (bs:List (List Nat))(S:List Bool)(h:0<bs.length)(hS:S.length=(wJ bs).length):pV bs S S.length=pV bs S (S.length-1):=by
 have hm:(wJ bs).length=yQ bs+bs.length:=sU bs 0;obtain⟨m,e⟩:∃m,S.length=m+1:=⟨S.length-1,by omega⟩;rw[e,Nat.add_sub_cancel];have hl:=rB bs S m;show (if _ then (pV bs S m).set (m+1) true else pV bs S m)=_
 split
 ·rw[List.set_eq_of_length_le (by omega)]
 ·rfl
def spr (bs:List (List Nat))(S:List Bool):List Bool:=pV bs S S.length
theorem iN {bs:List (List Nat)}{S:List Bool}(h:0<bs.length)(hS:S.length=(wJ bs).length){p:Nat}(hp:p<S.length):bitP (spr bs S) p=sprF bs S p:=by
 unfold spr;rw[spr_last bs S h hS,qCY bs S _ (by omega) p hp,if_pos (by omega)]
def nJ (m:Nat):List Bool:=(List.replicate m false).set 0 true
def nxtB (bs:List (List Nat))(S:List Bool)(a:Nat):List Bool:=spr bs (yR bs (wJ bs).length S a (wJ bs).length)
def s0B (bs:List (List Nat)):List Bool:=spr bs (nJ (wJ bs).length)
theorem cV (bs:List (List Nat))(S:List Bool):(spr bs S).length=S.length:=rB _ _ _
theorem nxtB_length (bs:List (List Nat))(S:List Bool)(a:Nat):(nxtB bs S a).length=(wJ bs).length:=by rw[nxtB,cV,uT]
theorem s0B_length (bs:List (List Nat)):(s0B bs).length=(wJ bs).length:=by rw[s0B,cV];simp[nJ]
def PosP (bs:List (List Nat)):Nat->Nat->List Nat->Prop
 | 0,k,s=>s=(bs.getD 0 []).take k
 | i+1,k,s=>∃s1 x,s=s1++x++(bs.getD (i+1) []).take k/\PosP bs i (lenP bs i) s1
theorem jX {u:List Nat}{k:Nat}(h:k<u.length):u.take (k+1)=u.take k++[u.getD k 0]:=zT (d:=0) h
theorem fU {bs:List (List Nat)}{i k:Nat}(hk:k<lenP bs i){w:List Nat}{a:Nat}:PosP bs i (k+1) (w++[a])↔PosP bs i k w/\(bs.getD i []).getD k 0=a:=by
 unfold lenP at hk;cases i with
 | zero =>
  show w++[a]=_↔w=_/\_;rw[jX hk];constructor
  ·intro h
   obtain⟨h1,h2⟩:=List.append_inj' h rfl;exact⟨h1,by simpa using h2.symm⟩
  ·rintro ⟨rfl,rfl⟩;rfl
 | succ i =>
  constructor
  ·rintro ⟨s1,x,h,hp⟩
   rw[jX hk,<-List.append_assoc]at h;obtain⟨h1,h2⟩:=List.append_inj' h rfl;exact⟨⟨s1,x,h1,hp⟩,by simpa using h2.symm⟩
  ·rintro ⟨⟨s1,x,rfl,hp⟩,rfl⟩
   exact⟨s1,x,by rw[jX hk];simp,hp⟩
theorem posP_loop {bs:List (List Nat)}{i:Nat}{w:List Nat}{a:Nat}:PosP bs (i+1) 0 (w++[a])↔PosP bs (i+1) 0 w\/PosP bs i (lenP bs i) (w++[a]):=by
 constructor
 ·rintro ⟨s1,x,h,hp⟩
  rw[List.take_zero,List.append_nil]at h;rcases List.eq_nil_or_concat x with rfl|⟨x',b,rfl⟩
  ·rw[List.append_nil]at h
   exact .inr (h ▸ hp)
  ·rw[List.concat_eq_append,<-List.append_assoc]at h
   obtain⟨h1,_⟩:=List.append_inj' h rfl;exact .inl ⟨s1,x',by rw[List.take_zero,List.append_nil];exact h1,hp⟩
 ·rintro (⟨s1,x,h,hp⟩|hp)
  ·rw[List.take_zero,List.append_nil]at h
   exact⟨s1,x++[a],by rw[List.take_zero,List.append_nil,h];simp,hp⟩
  ·exact⟨w++[a],[],by simp,hp⟩
theorem posP_nil {bs:List (List Nat)}{i:Nat}:PosP bs (i+1) 0 []↔PosP bs i (lenP bs i) []:=by
 constructor
 ·rintro ⟨s1,x,h,hp⟩
  rw[List.take_zero,List.append_nil]at h;have h:=h.symm;rw[List.append_eq_nil_iff]at h;rw[<-h.1];exact hp
 ·intro hp;exact⟨[],[],by simp,hp⟩
theorem bE {bs:List (List Nat)}{i k:Nat}(hk:k<lenP bs i):¬PosP bs i (k+1) []:=by
 unfold lenP at hk;cases i with
 | zero =>
  intro h;have h:[]=(bs.getD 0 []).take (k+1):=h;have:=congrArg List.length h;rw[List.length_take]at this;have:0=min (k+1) (bs.getD 0 []).length:=this;omega
 | succ i =>
  rintro ⟨s1,x,h,_⟩;have:=congrArg List.length h;simp only[List.length_nil,List.length_append,List.length_take]at this;omega
section
variable {bs:List (List Nat)}
theorem qIZ {i:Nat}(hi:i+1<bs.length):enP bs (i,lenP bs i)=true:=by simp[enP,hi]
theorem qII {i k:Nat}(hk:k<lenP bs i):enP bs (i,k)=false:=by
 unfold enP;have:decide (k=lenP bs i)=false:=by rw[decide_eq_false_iff_not];omega
 simp[this]
theorem jC {i:Nat}(hi:i+1<bs.length):offP bs (i+1)+0=offP bs i+lenP bs i+1:=by rw[qBS (by omega)]
theorem set_mem (h0:0<bs.length)(w:List Nat):∀i k,i<bs.length->k<=lenP bs i->(bitP (sM (nxtB bs) (s0B bs) w) (offP bs i+k)=true↔PosP bs i k w):=by
 have h8:∀(n:Nat) (w:List Nat),w.length=n->∀i k,i<bs.length->k<=lenP bs i->(bitP (sM (nxtB bs) (s0B bs) w) (offP bs i+k)=true↔PosP bs i k w):=by
  intro n
  induction n with
  | zero =>
   intro w hw;have:=List.eq_nil_of_length_eq_zero hw;subst this;have hS:(nJ (wJ bs).length).length=(wJ bs).length:=by simp[nJ]
   have hm:0<(wJ bs).length:=by have:(wJ bs).length=yQ bs+bs.length:=sU bs 0;omega
   have h7:∀p,bitP (nJ (wJ bs).length) p=decide (0=p):=fun p=>by
    rw[nJ,qDR (by simpa using hm)]
    have:bitP (List.replicate (wJ bs).length false) p=false:=by
     unfold bitP;rw[List.getD_eq_getElem?_getD,List.getElem?_replicate];split<;>rfl
    rw[this,Bool.or_false]
   intro i
   induction i with
   | zero =>
    intro k hi hk;have hp:=rM hi hk;show bitP (s0B bs) _=true↔_;rw[s0B,iN h0 hS (by rw[hS];exact hp),uS,Nat.zero_add];cases k with
    | zero=>simp[sprF,h7,PosP]
    | succ k =>
     have e:=mM hi (show k<=lenP bs 0 by omega);rw[uS,Nat.zero_add]at e;rw[sprF,e,qII (by omega),h7];simp;exact bE (by omega)
   | succ i ih =>
    intro k hi hk;have hp:=rM hi hk;show bitP (s0B bs) _=true↔_;rw[s0B,iN h0 hS (by rw[hS];exact hp)];cases k with
    | zero =>
     have h5:i<bs.length:=(by omega);have e:=mM h5 (Nat.le_refl (lenP bs i));have ih':=ih (lenP bs i) h5 (Nat.le_refl _);have ih':bitP (s0B bs) (offP bs i+lenP bs i)=true↔_:=ih';rw[s0B,iN h0 hS (by rw[hS];exact rM h5 (Nat.le_refl _))]at ih';rw[jC hi,sprF,e,qIZ hi,h7,posP_nil,<-ih'];simp
    | succ k =>
     have e:=mM hi (show k<=lenP bs (i+1) by omega);rw[<-Nat.add_assoc,sprF,e,qII (by omega),h7];simp;exact bE (by omega)
  | succ n ihw =>
   intro w hw;have H0:w≠[]:=(by intro e;subst e;simp at hw);obtain⟨w',a,rfl⟩:∃w' a,w=w'++[a]:=⟨w.dropLast,w.getLast H0,(List.dropLast_concat_getLast H0).symm⟩;have H2:w'.length=n:=by simpa using hw
   have ihw':=ihw w' H2;have H1:sM (nxtB bs) (s0B bs) (w'++[a])=nxtB bs (sM (nxtB bs) (s0B bs) w') a:=by simp[sM]
   rw[H1]
   generalize sM (nxtB bs) (s0B bs) w'=S at ihw'
   have hS:(yR bs (wJ bs).length S a (wJ bs).length).length=(wJ bs).length:=uT _ _ _ _ _
   have h4:∀p,p<(wJ bs).length->(bitP (yR bs (wJ bs).length S a (wJ bs).length) p=true↔(∃p',p=p'+1/\bitP S p'=true/\leP bs (atP bs p') a=true)\/(bitP S p=true/\stP (atP bs p)=true)):=fun p hp=>by
    rw[aC bs S a _ p hp];constructor
    ·rintro (⟨p',h1,_,h3⟩|⟨_,h2⟩)
     ·exact .inl ⟨p',h1,h3⟩
     ·exact .inr h2
    ·rintro (⟨p',h1,h3⟩|h2)
     ·exact .inl ⟨p',h1,by omega,h3⟩
     ·exact .inr ⟨hp,h2⟩
   intro i
   induction i with
   | zero =>
    intro k hi hk;have hp:=rM hi hk;show bitP (nxtB bs S a) _=true↔_;rw[nxtB,iN h0 hS (by rw[hS];exact hp)];cases k with
    | zero =>
     rw[uS,Nat.zero_add,sprF,h4 0 (by have:=hp;omega)];have e:=mM hi (Nat.zero_le (lenP bs 0));rw[uS,Nat.zero_add]at e;rw[e];constructor
     ·rintro (⟨p',h,_⟩|⟨_,h⟩)
      ·omega
      ·simp[stP]at h
     ·intro h
      have h:w'++[a]=(bs.getD 0 []).take 0:=h;simp at h
    | succ k =>
     have e:=mM hi (show k<=lenP bs 0 by omega);have e2:=mM hi hk;rw[uS,Nat.zero_add]at e e2;rw[uS,Nat.zero_add,sprF,e,qII (by omega),Bool.and_false,Bool.or_false,h4 (k+1) (by rw[uS,Nat.zero_add]at hp;exact hp),e2,fU (by omega),<-ihw' 0 k hi (by omega),uS,Nat.zero_add];constructor
     ·rintro (⟨p',h1,h2,h3⟩|⟨_,h⟩)
      ·have:p'=k:=by omega
       subst this;rw[e]at h3;simp only[leP,Bool.and_eq_true,beq_iff_eq]at h3;exact⟨h2,h3.2⟩
      ·simp[stP]at h
     ·rintro ⟨h1,h2⟩
      refine .inl ⟨k,rfl,h1,?_⟩;rw[e];simp only[leP,Bool.and_eq_true,beq_iff_eq,decide_eq_true_eq];exact⟨by omega,h2⟩
   | succ i ih =>
    intro k hi hk;have hp:=rM hi hk;show bitP (nxtB bs S a) _=true↔_;rw[nxtB,iN h0 hS (by rw[hS];exact hp)];cases k with
    | zero =>
     have h5:i<bs.length:=(by omega);have e:=mM h5 (Nat.le_refl (lenP bs i));have e2:=mM hi (Nat.zero_le (lenP bs (i+1)));have ih':bitP (nxtB bs S a) (offP bs i+lenP bs i)=true↔_:=ih (lenP bs i) h5 (Nat.le_refl _);rw[nxtB,iN h0 hS (by rw[hS];exact rM h5 (Nat.le_refl _))]at ih';have h6:=hp;rw[jC hi]at h6 e2;have h9:=ihw' (i+1) 0 hi (Nat.zero_le _);rw[jC hi]at h9;rw[jC hi,sprF,e,qIZ hi,Bool.and_true,Bool.or_eq_true,ih',h4 _ h6,e2,posP_loop,<-h9];constructor
     ·rintro ((⟨p',h1,h2,h3⟩|⟨h2,_⟩)|h)
      ·have:p'=offP bs i+lenP bs i:=by omega
       subst this;rw[e]at h3;simp[leP]at h3
      ·exact .inl h2
      ·exact .inr h
     ·rintro (h|h)
      ·exact .inl (.inr ⟨h,by simp[stP]⟩)
      ·exact .inr h
    | succ k =>
     have e:=mM hi (show k<=lenP bs (i+1) by omega);have e2:=mM hi hk;have h6:=hp;rw[<-Nat.add_assoc]at h6 e2;rw[<-Nat.add_assoc,sprF,e,qII (by omega),Bool.and_false,Bool.or_false,h4 _ h6,e2,fU (by omega),<-ihw' (i+1) k hi (by omega)];constructor
     ·rintro (⟨p',h1,h2,h3⟩|⟨_,h⟩)
      ·have:p'=offP bs (i+1)+k:=by omega
       subst this;rw[e]at h3;simp only[leP,Bool.and_eq_true,beq_iff_eq]at h3;exact⟨h2,h3.2⟩
      ·simp[stP]at h
     ·rintro ⟨h1,h2⟩
      refine .inl ⟨offP bs (i+1)+k,rfl,h1,?_⟩;rw[e];simp only[leP,Bool.and_eq_true,beq_iff_eq,decide_eq_true_eq];exact⟨by omega,h2⟩
 exact h8 w.length w rfl
theorem qEL (h0:0<bs.length)(s:List Nat):∀i,i<bs.length->((∃s1 r,s=s1++r/\PosP bs i (lenP bs i) s1/\TlN (bs.drop (i+1)) r)↔PatN bs s)
 | 0,_=>by
  match bs,h0 with
  | b::us,_ =>
   constructor
   ·rintro ⟨s1,r,rfl,h1,h2⟩
    have h1:s1=b.take b.length:=h1
    rw[List.take_length]at h1
    exact⟨r,by rw[h1],h2⟩
   ·rintro ⟨r,rfl,h⟩
    exact⟨b,r,rfl,by show b=b.take b.length;rw[List.take_length],h⟩
 | i+1,hi=>by
  rw[<-qEL h0 s i (by omega)]
  have hd:bs.drop (i+1)=bs.getD (i+1) []::bs.drop (i+1+1):=by
   rw[List.drop_eq_getElem_cons hi,zG hi]
  constructor
  ·rintro ⟨s1,r,rfl,⟨t,x,h1,h2⟩,h3⟩
   unfold lenP at h1;rw[List.take_length]at h1;exact⟨t,x++bs.getD (i+1) []++r,by rw[h1];simp,h2,by rw[hd];exact⟨x,r,rfl,h3⟩⟩
  ·rintro ⟨s1,r,rfl,h2,h3⟩
   rw[hd]at h3;obtain⟨p,r',rfl,h4⟩:=h3;exact⟨s1++p++bs.getD (i+1) [],r',by simp,⟨s1,p,by unfold lenP;rw[List.take_length],h2⟩,h4⟩
def finP (bs:List (List Nat))(S:List Bool):Bool:=bitP S (offP bs (bs.length-1)+lenP bs (bs.length-1))
theorem finP_pat (h0:0<bs.length)(w:List Nat):finP bs (sM (nxtB bs) (s0B bs) w)=true↔PatN bs w:=by
 rw[finP,set_mem h0 w _ _ (by omega) (Nat.le_refl _),<-qEL h0 w (bs.length-1) (by omega),List.drop_eq_nil_of_le (by omega)];constructor
 ·intro h;exact⟨w,[],by simp,h,rfl⟩
 ·rintro ⟨s1,r,rfl,h,h2⟩
  have h2:r=[]:=h2;rw[h2,List.append_nil];exact h
end
open Go.Maps Go.RowKit
def pJ (l:List (Nat×Nat)):List Value:=l.flatMap fun x=>[.int .i64 (x.1:Int),.int .i64 (x.2:Int)]
theorem posVals_snoc (l:List (Nat×Nat))(x:Nat×Nat):pJ (l++[x])=pJ l++[.int .i64 (x.1:Int),.int .i64 (x.2:Int)]:=by simp[pJ]
theorem elem_pos:ElemN Try.prog 149 152 2 (.agg #[.int .i64 0,.int .i64 0]) 16:=⟨by kernel_rfl,by kernel_rfl,by rfl,by decide⟩
theorem elem_brow:ElemN Try.prog 102 39 1 (.slice none 0 0) 24:=⟨by kernel_rfl,by kernel_rfl,by rfl,by decide⟩
structure PosAt (w:World)(b:Nat)(l:List (Nat×Nat)):Prop where
 lt:b<w.heap.size
 x0:∀i,i<l.length->w.cell? ⟨b,i*2,none⟩=some (.int .i64 (((l.getD i (0,0)).1:Nat):Int))
 x1:∀i,i<l.length->w.cell? ⟨b,i*2+1,none⟩=some (.int .i64 (((l.getD i (0,0)).2:Nat):Int))
theorem PosAt.kept {w w':World}{b:Nat}{l:List (Nat×Nat)}{row:Option Nat}(h:PosAt w b l)(hg:w.grownBy w' row)(hr:row≠some b):PosAt w' b l :=
 ⟨Nat.lt_of_lt_of_le h.lt hg.size,fun i hi=>(World.cell?_of_block (hg.block _ h.lt (fun e=>hr e.symm))).trans (h.x0 i hi),fun i hi=>(World.cell?_of_block (hg.block _ h.lt (fun e=>hr e.symm))).trans (h.x1 i hi)⟩
theorem lZ:∀(l:List (Nat×Nat)) (i:Nat),i<l.length->(pJ l)[i*2]?=some (.int .i64 (((l.getD i (0,0)).1:Nat):Int))/\(pJ l)[i*2+1]?=some (.int .i64 (((l.getD i (0,0)).2:Nat):Int))
 | [],i,hi=>by simp at hi
 | x::l,0,_=>⟨rfl,rfl⟩
 | x::l,i+1,hi=>by
  have h:=lZ l i (by simpa using hi)
  have e:pJ (x::l)=.int .i64 (x.1:Int)::.int .i64 (x.2:Int)::pJ l:=rfl
  rw[e,show (i+1)*2=i*2+1+1 by omega,show i*2+1+1+1=(i*2+1)+1+1 by omega]
  simpa using h
theorem PosAt.of_owns {w:World}{base e n g cap:Nat}{l:List (Nat×Nat)}(h:w.ownsRow base e 2 (.slice (some ⟨g,0,none⟩) n cap) n (pJ l)):PosAt w g l:=by
 have h0:∀j,(⟨g,0,none⟩:Addr).add j=⟨g,j,none⟩:=fun j=>by unfold Addr.add;split<;>simp_all
 refine⟨(h.lt g rfl).2,fun i hi=>?_,fun i hi=>?_⟩
 ·have:=h.cells (g:=g) rfl (i*2) _ (lZ l i hi).1
  rwa [h0]at this
 ·have:=h.cells (g:=g) rfl (i*2+1) _ (lZ l i hi).2
  rwa [h0]at this
theorem owns_some2 {w:World}{base e n sc:Nat}{sa:Option Addr}{xs:List Value}(h:w.ownsRow base e 2 (.slice sa n sc) n xs)(hn:0<n):∃kb,sa=some ⟨kb,0,none⟩/\n<=sc/\sc<=maxLen:=by
 rcases h.2 with ⟨h',h0⟩|⟨g,cap,cur,h1,hb,hg,hnc,hcm,_⟩
 ·omega
 ·simp only[Value.slice.injEq]at h1
  obtain⟨rfl,-,rfl⟩:=h1;exact⟨g,rfl,hnc,hcm⟩
def numP (l:List (Nat×Nat))(x:Nat×Nat):Option Nat:=if x∈l then some (l.idxOf x) else none
theorem numP_snoc {l:List (Nat×Nat)}{x:Nat×Nat}(h:x ∉ l):(fun q=>if q=x then some l.length else numP l q)=numP (l++[x]):=by
 funext q;unfold numP;by_cases e:q=x
 ·subst e
  rw[if_pos rfl,if_pos (by simp),List.idxOf_append,if_neg h];simp
 ·rw[if_neg e]
  by_cases hq:q∈l
  ·rw[if_pos hq,if_pos (by simp[hq]),List.idxOf_append,if_pos hq]
  ·rw[if_neg hq,if_neg (by simp[hq,e])]
theorem fV (bs:List (List Nat)):(wJ bs).Nodup:=bG bs 0
theorem nW (bs:List (List Nat)):(wJ bs).length=yQ bs+bs.length:=sU bs 0
theorem posOf_idx {bs:List (List Nat)}{i k:Nat}(hi:i<bs.length)(hk:k<=lenP bs i):(wJ bs).idxOf (i,k)=offP bs i+k:=by
 obtain⟨h1,h2⟩:=List.getElem?_eq_some_iff.1 (nX hi hk);rw[<-h2];exact(fV bs).idxOf_getElem _ h1
theorem numP_get {bs:List (List Nat)}{i k:Nat}(hi:i<bs.length)(hk:k<=lenP bs i):((numP (wJ bs) (i,k)).getD 0:Nat)=offP bs i+k:=by
 unfold numP;rw[if_pos (List.mem_of_getElem? (nX hi hk)),Option.getD_some,posOf_idx hi hk]
theorem bF {bs:List (List Nat)}{i k:Nat}(hi:i<bs.length)(hk:k<=lenP bs i):(wJ bs).take (offP bs i+k)++[(i,k)]=(wJ bs).take (offP bs i+k+1):=by
 obtain⟨h1,h2⟩:=List.getElem?_eq_some_iff.1 (nX hi hk);rw[List.take_succ_eq_append_getElem h1,h2]
theorem posOf_fresh {bs:List (List Nat)}{i k:Nat}(hi:i<bs.length)(hk:k<=lenP bs i):(i,k) ∉ (wJ bs).take (offP bs i+k):=by
 intro h;have hn:=(fV bs).sublist (List.take_sublist (offP bs i+k+1) _);rw[<-bF hi hk,List.nodup_append]at hn;exact hn.2.2 _ h _ (by simp) rfl
theorem psame_any (w:World)(g1 g2 n:Nat)(xs ys:List Bool)(hx:xs.length=n)(hy:ys.length=n)(hn:n<=4096)(h1:Arr w g1 4 (bls xs))(h2:Arr w g2 4 (bls ys)):Calls Try.prog 101 #[.slice (some ⟨g1,0,none⟩) n n,.slice (some ⟨g2,0,none⟩) n n] w fun e w'=>e=.returned (.bool (xs == ys))/\w.grownBy w' none:=by
 have H1:=Kh h1;have H2:=Kh h2;have HX:=Kh hx;have HY:=Kh hy;clear h1 h2 hx hy;go_enter Try.func101,Try.ntmps101;go_wp2
 go_loopg [5,8] n (fun gh a5 i wr=>∃k:Nat,gh+k=n/\i=.int .i64 k/\xs.take k=ys.take k/\w.grownBy wr none)
 case atStart=>exact⟨0,rfl,rfl,rfl,zH _ _⟩
 case round =>
  obtain⟨k,h7,rfl,h6,hg⟩:=hrel;have h3:=Kh h7;have h8:=Kh h6;have HG:=Kh hg;clear h7 h6;by_cases hk:k<n
  ·have H3:(k:Int)<n:=by omega
   have c1:=(H1.out.kept hg (by simp)).bool k (by rw[HX.out];exact hk);have c2:=(H2.out.kept hg (by simp)).bool k (by rw[HY.out];exact hk);have ex:xs.take (k+1)=xs.take k++[xs.getD k false]:=zT (by rw[HX.out];exact hk);have ey:ys.take (k+1)=ys.take k++[ys.getD k false]:=zT (by rw[HY.out];exact hk);obtain⟨x,h5⟩:∃x,x=xs.getD k false:=⟨_,rfl⟩;obtain⟨y,h4⟩:∃y,y=ys.getD k false:=⟨_,rfl⟩;rw[<-h5]at c1 ex;rw[<-h4]at c2 ey;have EX:=Kh ex;have EY:=Kh ey;clear h5 h4 ex ey hg;by_cases hxy:x=y
   ·have e0:(x == y)=true:=by simp[hxy]
    have h0:=Kh hxy;clear hxy;go_wp2
    go_quiet (fail)
    go_wp2;go_roundg (n-(k+1))
    case rel=>exact⟨k+1,by have:=h3.out;omega,by go_num,by rw[EX.out,EY.out,h8.out,h0.out],zA HG.out (by first|exact zO _ none|exact zM _ _ none) (by simp)⟩
    case measure=>have:=h3.out;omega
   ·have e0:(x == y)=false:=by simp[hxy]
    have h0:=Kh hxy;clear hxy;go_wp2
    go_quiet (fail)
    go_wp2;go_ret;refine⟨yA ?_,zA HG.out (by first|exact zO _ none|exact zM _ _ none) (by simp)⟩
    symm
    rw[beq_eq_false_iff_ne];intro e;have h9:=EX.out;rw[e,EY.out]at h9;have:=List.append_inj_right' h9 rfl;exact h0.out (by simpa using this.symm)
  ·have H3:¬(k:Int)<n:=by omega
   have H0:Hid (k=n):=Kh (by have:=h3.out;omega);clear hg;go_wp2;go_ret;refine⟨yA ?_,HG.out⟩;have h9:=h8.out;rw[List.take_of_length_le (by rw[HX.out,H0.out];exact Nat.le_refl _),List.take_of_length_le (by rw[HY.out,H0.out];exact Nat.le_refl _)]at h9;simp[h9]
theorem pstart_any (w:World)(m:Nat)(h0:0<m)(hm:m<=4096):Calls Try.prog 100 #[.int .i64 (m:Int)] w fun e w'=>e=.returned (.slice (some ⟨w.heap.size,0,none⟩) m m)/\Arr w' w.heap.size 4 (bls (nJ m))/\w.grownBy w' none:=by
 go_enter Try.func100,Try.ntmps100;obtain⟨G,hG⟩:∃G,G=w.heap.size:=⟨_,rfl⟩;have h8:=Kh hG;rw[<-hG];go_wp2_with (first|(at_make;refine kC rfl _ _ _ rfl xJ rfl .i64 .i64 _ _ m rfl rfl rfl rfl ?b1 ?b2 ?_;(case b1=>omega);(case b2=>(unfold maxLen;omega));intro ws h1 h6 h4;rw[<-hG]at h1 h4⊢;(have h3:Arr ws G 4 (bls (List.replicate m false)):=by rw[nE];exact h1);(have c0:=h3.bool 0 (by simpa using h0));(have f0:=h3.frozen 0);(have h2:=h3.bool_set 0 (by simpa using h0) true);(have h5:=Kh h2);(have h7:=Kh h6);clear h2 h6 h3 h1 hG)|fail);go_ret;exact⟨rfl,h5.out,zA h7.out (zC ws ⟨G,0,none⟩ _) (fun k e=>by have e:G=k:=Oj e;have:=h8.out;omega)⟩
structure RCtx (W:World)(bs:List ByteArray)(kb off kc pb pc mb m:Nat):Prop where
 blk:uJ W kb off (txtV bs)
 cap:bs.length<=kc/\kc<=maxLen
 pos:PosAt W pb (wJ (bs.map zJ))
 pcap:m<=pc/\pc<=maxLen
 map:MapK 152 qGE posV W mb m m (numP (wJ (bs.map zJ)))
 len:(wJ (bs.map zJ)).length=m
 big:m<=4096
theorem RCtx.kept {W W':World}{bs:List ByteArray}{kb off kc pb pc mb m:Nat}{row:Option Nat}(h:RCtx W bs kb off kc pb pc mb m)(hg:W.grownBy W' row)(h1:row≠some kb)(h2:row≠some pb)(h3:row≠some mb):RCtx W' bs kb off kc pb pc mb m :=
 ⟨h.blk.kept hg h1,h.cap,h.pos.kept hg h2,h.pcap,h.map.kept hg h3,h.len,h.big⟩
theorem RCtx.grow {W W':World}{bs:List ByteArray}{kb off kc pb pc mb m:Nat}(h:RCtx W bs kb off kc pb pc mb m)(hg:W.grownBy W' none):RCtx W' bs kb off kc pb pc mb m:=h.kept hg (by simp) (by simp) (by simp)
theorem RCtx.at {W:World}{bs:List ByteArray}{kb off kc pb pc mb m:Nat}(h:RCtx W bs kb off kc pb pc mb m){p:Nat}(hp:p<m):∃bi bk,bi<bs.length/\bk<=(bs.getD bi ⟨#[]⟩).size/\p=offP (bs.map zJ) bi+bk/\atP (bs.map zJ) p=(bi,bk)/\lenP (bs.map zJ) bi=(bs.getD bi ⟨#[]⟩).size/\W.cell? ⟨pb,p*2,none⟩=some (.int .i64 (bi:Int))/\W.cell? ⟨pb,p*2+1,none⟩=some (.int .i64 (bk:Int))/\W.cell? ⟨kb,off+bi,none⟩=some (.string (bs.getD bi ⟨#[]⟩)):=by
 obtain⟨bi,bk,h1,h2,h3⟩:=posOf_cover (bs:=bs.map zJ) (p:=p) (by rw[h.len];exact hp);have hb:bi<bs.length:=by simpa using h1
 have hl:lenP (bs.map zJ) bi=(bs.getD bi ⟨#[]⟩).size:=by
  unfold lenP;rw[zG h1,zG hb];simp[yM]
 have e:=mM h1 h2;rw[<-h3]at e;have c0:=h.pos.x0 p (by rw[h.len];exact hp);have c1:=h.pos.x1 p (by rw[h.len];exact hp);have e':(wJ (bs.map zJ)).getD p (0,0)=(bi,bk):=e;rw[e']at c0 c1;exact⟨bi,bk,hb,by rw[<-hl];exact h2,h3,e,hl,c0,c1,vG h.blk bi hb⟩
theorem RCtx.num {W:World}{bs:List ByteArray}{kb off kc pb pc mb m:Nat}(h:RCtx W bs kb off kc pb pc mb m){bi bk:Nat}(h1:bi<bs.length)(h2:bk<=(bs.getD bi ⟨#[]⟩).size):(Instr.lookup 150 (.map (some mb)) (posV (bi,bk)) false).run Try.prog W=.ok (.int .i64 ((offP (bs.map zJ) bi+bk:Nat):Int)) W/\offP (bs.map zJ) bi+bk<m:=by
 have hb:bi<(bs.map zJ).length:=by simpa using h1
 have hl:lenP (bs.map zJ) bi=(bs.getD bi ⟨#[]⟩).size:=by
  unfold lenP;rw[zG hb,zG h1];simp[yM]
 have h0:=rM hb (show bk<=lenP (bs.map zJ) bi by omega);rw[h.len]at h0;have h3:=h.big;have h4:bi<=offP (bs.map zJ) bi:=by unfold offP;omega
 have:=h.map.look1 qGT (x:=(bi,bk)) ⟨by show bi<_;omega,by show bk<_;omega⟩;rw[numP_get hb (by omega)]at this;exact⟨this,h0⟩
theorem spread_any (W:World)(bs:List ByteArray)(kb off kc pb pc mb m g:Nat)(S:List Bool)(h:RCtx W bs kb off kc pb pc mb m)(hS:S.length=m)(ha:Arr W g 4 (bls S))(h1:g≠kb)(h2:g≠pb)(h3:g≠mb):Calls Try.prog 99 #[.agg #[.slice (some ⟨kb,off,none⟩) bs.length kc],.slice (some ⟨pb,0,none⟩) m pc,.map (some mb),.slice (some ⟨g,0,none⟩) m m] W fun e w'=>e=.returned (.slice (some ⟨g,0,none⟩) m m)/\Arr w' g 4 (bls (spr (bs.map zJ) S))/\W.grownBy w' (some g):=by
 have a7:=h.cap;have H3:=h.pcap;have c7:=h.big;unfold maxLen at a7 H3;have H:=Kh h;have HS:=Kh hS;have d7:=ha.lt;obtain⟨w1,a3⟩:∃w1,w1=W.alloc (.cells #[.slice (some ⟨kb,off,none⟩) bs.length kc] 28):=⟨_,rfl⟩;have H8:=Ga W (.cells #[.slice (some ⟨kb,off,none⟩) bs.length kc] 28) none;have a0:=heap_alloc_new W (.cells #[.slice (some ⟨kb,off,none⟩) bs.length kc] 28);rw[<-a3]at H8 a0;obtain⟨P,hP⟩:∃P,P=W.heap.size:=⟨_,rfl⟩;rw[<-hP]at a0;have b7:P≠g:=by omega
 have c1:=Kh (ha.kept H8 (by simp));have b0:=Kh H8;have b1:=Kh a0;have c9:=Kh a3;have HP:=Kh hP;clear h hS ha H8 a0 a3 hP;go_enter Try.func99,Try.ntmps99;go_upto_region 1 with fail;rw[<-c9.out,<-HP.out];go_wp2
 go_loopg [9,10,11,14] m (fun gh a9 a10 a11 i wr=>∃k:Nat,gh+k=m/\i=.int .i64 k/\Arr wr g 4 (bls (pV (bs.map zJ) S k))/\w1.grownBy wr (some g))
 case atStart=>exact⟨0,rfl,rfl,c1.out,zH _ _⟩
 case round =>
  clear c1;obtain⟨k,b3,rfl,h5,H0⟩:=hrel;have h6:=Kh b3;clear b3;by_cases hk:k<m
  ·have c3:(k:Int)<m:=by omega
   have hl:=rB (bs.map zJ) S k;have c0:=h5.bool k (by rw[hl,HS.out];exact hk);have H6:=(H.out.grow b0.out).kept H0 (by simpa using h1) (by simpa using h2) (by simpa using h3);obtain⟨bi,bk,b5,c6,hp,b6,H7,cx0,cx1,cu⟩:=H6.at hk;obtain⟨u,hu⟩:∃u,u=bs.getD bi ⟨#[]⟩:=⟨_,rfl⟩;rw[<-hu]at c6 H7 cu;obtain⟨c,hc⟩:∃c,c=(pV (bs.map zJ) S k).getD k false:=⟨_,rfl⟩;rw[<-hc]at c0;have cP:=zI (zB b1.out H0 (fun e=>b7 (Oj e).symm)) 0 (by simp);simp only[List.getElem_toArray,List.getElem_cons_zero]at cP;have c8:(bi:Int)<bs.length:=by omega
   have d5:u.size<=4096:=by
    have h9:=rM (bs:=bs.map zJ) (i:=bi) (k:=lenP (bs.map zJ) bi) (by simpa using b5) (Nat.le_refl _);rw[H.out.len,H7]at h9;omega
   have d2:=Kh hp;have b9:=Kh b6;have a8:=Kh H7;have HU:=Kh hu;have HC:=Kh hc;have HL:=Kh hl;have HA:=Kh h5;have H2:=Kh H0;clear hp b6 H7 hu hc hl h5 H0 H6;go_upto_region 5 with fail;have H1:=Ga wr (.cells #[.int .i64 (bi:Int),.int .i64 (bk:Int)] 152) none;have H9:=heap_alloc_new wr (.cells #[.int .i64 (bi:Int),.int .i64 (bk:Int)] 152);obtain⟨w2,a2⟩:∃w2,w2=wr.alloc (.cells #[.int .i64 (bi:Int),.int .i64 (bk:Int)] 152):=⟨_,rfl⟩;obtain⟨A,hA⟩:∃A,A=wr.heap.size:=⟨_,rfl⟩;rw[<-a2,<-hA];rw[<-a2]at H1 H9;rw[<-hA]at H9;obtain⟨d0,d1⟩:=vY H9;have c4:=HA.out.lt;have h4:=((H.out.grow b0.out).kept H2.out (by simpa using h1) (by simpa using h2) (by simpa using h3)).grow H1;have cu2:=vG h4.blk bi b5;rw[<-HU.out]at cu2;have cP2:=zI (zB (zB b1.out H2.out (fun e=>b7 (Oj e).symm)) H1 (by simp)) 0 (by simp);simp only[List.getElem_toArray,List.getElem_cons_zero]at cP2;have h8:=Kh (HA.out.kept H1 (by simp));have b8:=Kh h4;have d3:=Kh H1;have a1:Hid (∀w',w2.grownBy w' none->w1.grownBy w' (some g)):=Kh (fun w' hg=>zD (zA H2.out d3.out (by simp)) (xM hg));clear a2 hA H1 H9 h4 c0 cx0 cx1 cu cP b1 HA H2
   have h0:Hid ((c=false\/bk≠u.size\/¬bi+1<bs.length)->pV (bs.map zJ) S (k+1)=pV (bs.map zJ) S k):=Kh (fun hno=>by
    show (if bitP _ _ && enP _ _ then _ else _)=_;rw[if_neg];intro hh;rw[Bool.and_eq_true,b9.out,enP,Bool.and_eq_true,decide_eq_true_eq,decide_eq_true_eq,a8.out,List.length_map]at hh;obtain⟨ha,hb,c5⟩:=hh;have ha:c=true:=by rw[HC.out];exact ha
    rcases hno with h|h|h
    ·rw[h]at ha;cases ha
    ·exact h hb
    ·exact h c5)
   cases c with
   | false =>
    have h7:=Kh (h0.out (.inl rfl));clear h0
    go_quiet (fail)
    go_wp2;go_roundg (m-(k+1))
    case measure=>have:=h6.out;omega
    case rel=>exact⟨k+1,by have:=h6.out;omega,by go_num,by rw[h7.out];exact h8.out.kept (zM w2 _ none) (by simp),a1.out _ (zM w2 _ none)⟩
   | true =>
    by_cases e1:bk=u.size
    ·have e1':((bk:Int) == (u.size:Int))=true:=by simp[e1]
     by_cases e2:bi+1<bs.length
     ·have e2':decide ((bi:Int)+1<(bs.length:Int))=true:=by rw[decide_eq_true_eq];omega
      have H4:offP (bs.map zJ) (bi+1)+0=k+1:=by
       rw[jC (bs:=bs.map zJ) (by simpa using e2),a8.out,d2.out,e1]
      have H5:=b8.out.num (bi:=bi+1) (bk:=0) e2 (Nat.zero_le _);have a6:k+1<m:=by have:=H5.2;omega
      have d6:∀q,(Instr.lookup 150 (.map (some mb)) (.agg #[.int .i64 ((bi:Int)+1),.int .i64 0]) false).run Try.prog (w2.drewN q)=.ok (.int .i64 ((k:Int)+1)) (w2.drewN q):=fun q=>by
       have:=((b8.out.grow (zM w2 q none)).num (bi:=bi+1) (bk:=0) e2 (Nat.zero_le _)).1;rw[H4]at this;simpa [posV] using this
      have a5:=HL.out;have ca:=h8.out.bool (k+1) (by rw[a5,HS.out];exact a6);have fa:=h8.out.frozen (k+1);have a4:=h8.out.bool_set (k+1) (by rw[a5,HS.out];exact a6) true;obtain⟨old,hold⟩:∃old,old=(pV (bs.map zJ) S k).getD (k+1) false:=⟨_,rfl⟩;rw[<-hold]at ca
      have h7:Hid (pV (bs.map zJ) S (k+1)=(pV (bs.map zJ) S k).set (k+1) true):=Kh (by
       show (if bitP _ _ && enP _ _ then _ else _)=_;rw[if_pos];rw[Bool.and_eq_true,b9.out,enP,Bool.and_eq_true,decide_eq_true_eq,decide_eq_true_eq,a8.out,List.length_map]
       exact⟨HC.out.symm,e1,e2⟩)
      have d4:=Kh e1;have c2:(k:Int)+1<m:=(by omega);clear h0 H5 H4 a5 a4 hold e1
      go_quiet (fail)
      go_wp2;go_roundg (m-(k+1))
      case measure=>have:=h6.out;omega
      case rel =>
       have b4:=zM w2 nq none;refine⟨k+1,by have:=h6.out;omega,by go_num,?_,?_⟩
       ·rw[h7.out];exact(h8.out.kept b4 (by simp)).bool_set (k+1) (by rw[HL.out,HS.out];exact a6) true
       ·exact zD (a1.out _ b4) (zC (w2.drewN nq) ⟨g,k+1,none⟩ _)
     ·have e2':decide ((bi:Int)+1<(bs.length:Int))=false:=by rw[decide_eq_false_iff_not];omega
      have h7:=Kh (h0.out (.inr (.inr e2)));have d4:=Kh e1;clear h0 e1
      go_quiet (fail)
      go_wp2;go_roundg (m-(k+1))
      case measure=>have:=h6.out;omega
      case rel=>exact⟨k+1,by have:=h6.out;omega,by go_num,by rw[h7.out];exact h8.out.kept (zM w2 _ none) (by simp),a1.out _ (zM w2 _ none)⟩
    ·have e1':((bk:Int) == (u.size:Int))=false:=by rw[beq_eq_false_iff_ne];omega
     have h7:=Kh (h0.out (.inr (.inl e1)));clear h0
     go_quiet (fail)
     go_wp2;go_roundg (m-(k+1))
     case measure=>have:=h6.out;omega
     case rel=>exact⟨k+1,by have:=h6.out;omega,by go_num,by rw[h7.out];exact h8.out.kept (zM w2 _ none) (by simp),a1.out _ (zM w2 _ none)⟩
  ·have b2:k=m:=by have:=h6.out;omega
   have c3:¬(k:Int)<m:=by omega
   have HR:Hid (Arr wr g 4 (bls (spr (bs.map zJ) S))):=Kh (by
    unfold spr
    rw[HS.out,<-b2];exact h5)
   have H2:=Kh (zD (xM (row:=some g) b0.out) H0);clear b2 h5 H0;go_wp2;refine bodyPost_ret (v:=.slice (some ⟨g,0,none⟩) m m) (by simp[results,Try.results99,go_sem]) rfl ⟨rfl,HR.out,H2.out⟩
def setV (m g:Nat):Value:=.slice (some ⟨g,0,none⟩) m m
theorem rY {W:World}{B B' e e' s s' n n':Nat}{v v':Value}{xs xs':List Value}(h:W.ownsRow B e s v n xs)(h':W.ownsRow B' e' s' v' n' xs')(hne:e≠e'):v.ownBlock=none\/v.ownBlock≠v'.ownBlock:=by
 rcases hv:v.ownBlock with _|j
 ·exact .inl rfl
 ·refine .inr fun e1=>?_
  obtain⟨cu,e2,mm,hh,hn⟩:=yF h hne j hv;exact zQ h' hh (fun e3=>hn e3.symm) e1.symm
theorem BX.appI {W0 W W':World}{o k:Nat}{X:Nat->Prop}{fs:List Bool}{t:List (List Int)}{hs:List Value}{sf:Option Addr}{cf:Nat}{sn:Option Addr}{cn:Nat}(h:BX W0 W o X k fs t hs sf cf sn cn){B n:Nat}{v:Value}{xs:List Value}(ho:W.ownsRow B 3 1 v n xs)(hB:W0.heap.size<=B)(hX:∀j,v.ownBlock=some j->¬X j)(hg:W.grownBy W' v.ownBlock):BX W0 W' o X k fs t hs sf cf sn cn:=by
 rcases hv:v.ownBlock with _|g
 ·rw[hv]at hg;exact h.grow hg
 ·rw[hv]at hg
  rcases ho.2 with ⟨rfl,_⟩|⟨b,cap,cur,rfl,hb,hh,_⟩
  ·simp[Value.ownBlock]at hv
  ·have e:b=g:=by simpa [Value.ownBlock] using hv
   subst e;exact h.put hg hh (hX b hv) (Nat.le_trans hB hb)
structure DSt (W0 W:World)(o:Nat)(X:Nat->Prop)(k m:Nat)(l:List (List Bool))(gs:List Nat)(fs:List Bool)(t:List (List Int))(hs:List Value)(sf:Option Addr)(cf:Nat)(sn:Option Addr)(cn:Nat)(ss:Option Addr)(sc:Nat):Prop where
 bx:BX W0 W o X k fs t hs sf cf sn cn
 own:W.ownsRow W0.heap.size 39 1 (.slice ss l.length sc) l.length (gs.map (setV m))
 len:gs.length=l.length
 row:∀j,j<l.length->Arr W (gs.getD j 0) 4 (bls (l.getD j []))
 lo:∀g∈gs,W0.heap.size<=g
 sep:∀g∈gs,(Value.slice sf fs.length cf).ownBlock≠some g
 ll:∀x∈l,x.length=m
section
variable {W0 W W':World} {o k m:Nat} {X:Nat->Prop} {l:List (List Bool)} {gs:List Nat} {fs:List Bool} {t:List (List Int)} {hs:List Value} {sf:Option Addr} {cf:Nat} {sn:Option Addr} {cn:Nat} {ss:Option Addr} {sc:Nat}
theorem DSt.getG (h:DSt W0 W o X k m l gs fs t hs sf cf sn cn ss sc){j:Nat}(hj:j<l.length):gs.getD j 0∈gs:=by
 rw[zG (by rw[h.len];exact hj)];exact List.getElem_mem _
theorem DSt.grow (h:DSt W0 W o X k m l gs fs t hs sf cf sn cn ss sc)(hg:W.grownBy W' none):DSt W0 W' o X k m l gs fs t hs sf cf sn cn ss sc :=
 ⟨h.bx.grow hg,zP h.own hg,h.len,fun j hj=>(h.row j hj).kept hg (by simp),h.lo,h.sep,h.ll⟩
theorem DSt.hd (h:DSt W0 W o X k m l gs fs t hs sf cf sn cn ss sc)(h0:0<l.length):∃hq,ss=some ⟨hq,0,none⟩/\l.length<=sc/\sc<=maxLen/\∀j,j<l.length->W.cell? ⟨hq,j,none⟩=some (.slice (some ⟨gs.getD j 0,0,none⟩) m m):=by
 obtain⟨hq,e,h1,h2,h3⟩:=yG h.own h0;refine⟨hq,e,h1,h2,fun j hj=>?_⟩;have h4:j<gs.length:=by rw[h.len];exact hj
 rw[h3.cell j (by simpa using h4)];simp[setV,List.getElem?_eq_getElem h4]
theorem DSt.pushS (h:DSt W0 W o X k m l gs fs t hs sf cf sn cn ss sc){n G:Nat}(hn:l.length=n){T:List Bool}(hT:T.length=m)(hA:Arr W G 4 (bls T))(hG:W0.heap.size<=G)(hF:(Value.slice sf fs.length cf).ownBlock≠some G){ss':Option Addr}{sc':Nat}(ho:W'.ownsRow W0.heap.size 39 1 (.slice ss' (n+1) sc') (n+1) (gs.map (setV m)++[setV m G]))(hg:W.grownBy W' (Value.slice ss n sc).ownBlock):DSt W0 W' o X k m (l++[T]) (gs++[G]) fs t hs sf cf sn cn ss' sc':=by
 subst hn
 have h0:∀ {g:Nat} {xs:List Value},Arr W g 4 xs->Arr W' g 4 xs:=fun ha=>by
  obtain⟨c,r,hc,hh⟩:=id ha;exact ha.kept hg (zQ h.own hc (by decide))
 have hz:=hg.size;have h1:∀j,(Value.slice ss l.length sc).ownBlock=some j->zX W 3 j:=yF h.own (by decide);refine⟨⟨fun j hj=>by have:=h.bx.lt j hj;omega,zB h.bx.box hg (zQ h.own h.bx.box (by decide)),h.bx.ownF.kept hg (rY h.bx.ownF h.own (by decide)),h.bx.ownN.kept hg (rY h.bx.ownN h.own (by decide)),h.bx.rows.keptT hg h1,h.bx.lo,zA h.bx.grown hg (fun j e=>(h.own.lt j e).1)⟩,?_,by simp[h.len],fun j hj=>?_,fun g hg'=>?_,fun g hg'=>?_,fun x hx=>?_⟩
 ·rw[List.length_append,List.map_append];exact ho
 ·rw[List.length_append]at hj
  by_cases e:j<l.length
  ·rw[yN (by rw[h.len];exact e),yN e]
   exact h0 (h.row j e)
  ·have e2:j=l.length:=by simp at hj;omega
   subst e2;have e3:(gs++[G]).getD l.length 0=G:=by rw[<-h.len,List.getD_eq_getElem?_getD];simp
   have e4:(l++[T]).getD l.length []=T:=by rw[List.getD_eq_getElem?_getD];simp
   rw[e3,e4];exact h0 hA
 ·rcases List.mem_append.1 hg' with hh|hh
  ·exact h.lo g hh
  ·simp at hh;subst hh;exact hG
 ·rcases List.mem_append.1 hg' with hh|hh
  ·exact h.sep g hh
  ·simp at hh;subst hh;exact hF
 ·rcases List.mem_append.1 hx with hh|hh
  ·exact h.ll x hh
  ·simp at hh;subst hh;exact hT
theorem DSt.appI (h:DSt W0 W o X k m l gs fs t hs sf cf sn cn ss sc){B n:Nat}{v:Value}{xs:List Value}(ho:W.ownsRow B 3 1 v n xs)(hB:W0.heap.size<=B)(hX:∀j,v.ownBlock=some j->¬X j)(hg:W.grownBy W' v.ownBlock):DSt W0 W' o X k m l gs fs t hs sf cf sn cn ss sc :=
 ⟨h.bx.appI ho hB hX hg,h.own.kept hg (rY h.own ho (by decide)),h.len,fun j hj=>by
  obtain⟨c,r,hc,hh⟩:=id (h.row j hj)
  exact(h.row j hj).kept hg (zQ ho hc (by decide)),h.lo,h.sep,h.ll⟩
theorem DSt.pushF (h:DSt W0 W o X k m l gs fs t hs sf cf sn cn ss sc){n:Nat}(hn:fs.length=n){b:Bool}{sf':Option Addr}{cf':Nat}(ho:W'.ownsRow o 4 1 (.slice sf' (n+1) cf') (n+1) (bls fs++[.bool b]))(hg:W.grownBy W' (Value.slice sf n cf).ownBlock)(hm:qS W W' (.slice sf n cf) (.slice sf' (n+1) cf')){W2:World}(hW2:W2=W'.setCell ⟨o,2,none⟩ (.slice sf' (n+1) cf')):DSt W0 W2 o X k m l gs (fs++[b]) t hs sf' cf' sn cn ss sc:=by
 have hp:=h.bx.pushF hn ho hg hW2;subst hn;have hb:=zB h.bx.box hg (zQ h.bx.ownF h.bx.box (by decide));have g2:=zC W' ⟨o,2,none⟩ (.slice sf' (fs.length+1) cf');rw[<-hW2]at g2;have h0:=h.own.kept hg (rY h.own h.bx.ownF (by decide));refine⟨hp,h0.kept g2 (.inr (zQ h0 hb (by decide))),h.len,fun j hj=>?_,h.lo,fun g hgm=>?_,h.ll⟩
 ·have h1:=(h.row j hj).kept hg (h.sep _ (h.getG hj))
  exact h1.kept g2 (fun e=>h1.type_ne hb (by decide) (Oj e).symm)
 ·rw[List.length_append]
  show (Value.slice sf' (fs.length+1) cf').ownBlock≠some g;rcases hm with h1|⟨_,h1⟩
  ·rw[h1];exact h.sep g hgm
  ·intro e
   have:=h1 g e;obtain⟨j,hj,e2⟩:=List.getElem_of_mem hgm;have h2:j<l.length:=(by rw[<-h.len];exact hj);have:=(h.row j h2).lt;rw[zG hj,e2]at this;omega
theorem DSt.pushN (h:DSt W0 W o X k m l gs fs t hs sf cf sn cn ss sc){n:Nat}(hn:t.length=n){rv:Value}{row:List Int}{sn':Option Addr}{cn':Nat}{Y:Nat->Prop}(hXY:∀j,X j->Y j)(hY:∀j,Y j->j<W.heap.size)(ho:W'.ownsRow o 34 1 (.slice sn' (n+1) cn') (n+1) (hs++[rv]))(hg:W.grownBy W' (Value.slice sn n cn).ownBlock)(hrow:RowX Y 3 W rv (ints row)){W2:World}(hW2:W2=W'.setCell ⟨o,3,none⟩ (.slice sn' (n+1) cn')):DSt W0 W2 o Y k m l gs fs (t++[row]) (hs++[rv]) sf cf sn' cn' ss sc:=by
 have hp:=h.bx.pushN hn hXY hY ho hg hrow hW2;subst hn;have hb:=zB h.bx.box hg (zQ h.bx.ownN h.bx.box (by decide));have g2:=zC W' ⟨o,3,none⟩ (.slice sn' (t.length+1) cn');rw[<-hW2]at g2;have h0:=h.own.kept hg (rY h.own h.bx.ownN (by decide));refine⟨hp,h0.kept g2 (.inr (zQ h0 hb (by decide))),h.len,fun j hj=>?_,h.lo,h.sep,h.ll⟩;obtain⟨c,r,hc,hh⟩:=id (h.row j hj);have h1:=(h.row j hj).kept hg (zQ h.bx.ownN hc (by decide));exact h1.kept g2 (fun e=>h1.type_ne hb (by decide) (Oj e).symm)
end
def rFs (bs:List (List Nat))(l:List (List Bool))(i:Nat):List Bool:=(l.take i).map (finP bs)
def rTs (bs:List (List Nat))(k:Nat)(l:List (List Bool))(i:Nat):List (List Int):=(l.take i).map (sL (nxtB bs) k l)
def kV (bs:List (List Nat))(l:List (List Bool))(S:List Bool)(a:Nat):List Nat:=(List.range a).map fun b=>l.idxOf (nxtB bs S b)
theorem qGP {bs:List (List Nat)}{l:List (List Bool)}{i:Nat}(h:i<=l.length):(rFs bs l i).length=i:=by simp[rFs];omega
theorem qDF {bs:List (List Nat)}{k:Nat}{l:List (List Bool)}{i:Nat}(h:i<=l.length):(rTs bs k l i).length=i:=by simp[rTs];omega
theorem rFs_next {bs:List (List Nat)}{l:List (List Bool)}{i:Nat}(h:i<l.length):rFs bs l (i+1)=rFs bs l i++[finP bs (l.getD i [])]:=by
 rw[rFs,zT (d:=[]) h,List.map_append];rfl
theorem rTs_next {bs:List (List Nat)}{k:Nat}{l:List (List Bool)}{i:Nat}(h:i<l.length):rTs bs k l (i+1)=rTs bs k l i++[sL (nxtB bs) k l (l.getD i [])]:=by
 rw[rTs,zT (d:=[]) h,List.map_append];rfl
theorem rFs_more {bs:List (List Nat)}{l m:List (List Bool)}{i:Nat}(h:i<=l.length):rFs bs (l++m) i=rFs bs l i:=by
 rw[rFs,List.take_append_of_le_length h];rfl
theorem rTs_more {bs:List (List Nat)}{k:Nat}{s0:List Bool}{l m:List (List Bool)}{i a:Nat}(h:BfsI (nxtB bs) k s0 l i a):rTs bs k (l++m) i=rTs bs k l i:=by
 rw[rTs,List.take_append_of_le_length h.le];refine List.map_congr_left fun x hx=>bfsRow_more ?_;obtain⟨j,hj,e⟩:=List.getElem_of_mem hx;rw[List.getElem_take]at e;rw[List.length_take]at hj;exact h.cl j x (by omega) (by rw[List.getElem?_eq_getElem (by omega),e])
theorem rowTo_more {bs:List (List Nat)}{k:Nat}{s0:List Bool}{l m:List (List Bool)}{i a:Nat}(h:BfsI (nxtB bs) k s0 l i a)(hi:i<l.length)(ha:a<=k):kV bs (l++m) (l.getD i []) a=kV bs l (l.getD i []) a:=by
 refine List.map_congr_left fun b hb=>?_;have hb:=List.mem_range.1 hb;rw[List.idxOf_append,if_pos];exact h.row _ (by rw[zG hi,List.getElem?_eq_getElem hi]) b hb (by omega)
theorem cZ (bs:List (List Nat))(l:List (List Bool))(S:List Bool)(a:Nat):kV bs l S (a+1)=kV bs l S a++[l.idxOf (nxtB bs S a)]:=by simp[kV,List.range_succ]
theorem rowTo_full (bs:List (List Nat))(l:List (List Bool))(S:List Bool)(k:Nat):nats (kV bs l S k)=ints (sL (nxtB bs) k l S):=by simp[nats,ints,kV,sL]
theorem idx_none {l:List (List Bool)}{T:List Bool}(h:∀j,j<l.length->l.getD j []≠T):T ∉ l:=fun hm=>by
 obtain⟨j,hj,e⟩:=List.getElem_of_mem hm
 exact h j hj (by rw[zG hj];exact e)
theorem idx_first {l:List (List Bool)}{T:List Bool}:∀ {i:Nat},i<l.length->l.getD i []=T->(∀j,j<i->l.getD j []≠T)->l.idxOf T=i:=by
 induction l with
 | nil=>intro i hi;simp at hi
 | cons x l ih =>
  intro i hi he hj;cases i with
  | zero =>
   have:x=T:=by simpa using he
   rw[this];simp
  | succ i =>
   have h0:x≠T:=(by simpa using hj 0 (by omega));rw[List.idxOf_cons];have hb:(x == T)=false:=by rw[beq_eq_false_iff_ne];exact h0
   rw[hb];have:=ih (i:=i) (by simpa using hi) (by simpa using he) (fun j hj'=>by simpa using hj (j+1) (by omega));simp[this]
end Go.Proofs.Ytjfdomfendbhfaa
