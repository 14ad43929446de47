/- Part 37 of the proof: PatWord, OfP, CAcc. -/
import Derived.Test.YtjfdomfendbhfaaQe36
import Derived.BigQuiet
set_option linter.unusedVariables false
set_option linter.unusedSimpArgs false
namespace Go.Proofs.Ytjfdomfendbhfaa
open Go.RowKit
def letU (c:UInt8):Nat:=c.toNat - 97
theorem letU_inj {x y:UInt8} (hx:97<=x.toNat) (hy:97<=y.toNat) (h:letU x=letU y):x=y:=by
 unfold letU at h
 exact UInt8.toNat_inj.1 (by omega)
def okU (l:List UInt8):Prop:=∀ x∈l,97<=x.toNat
theorem pQ:∀ {l m:List UInt8},okU l->okU m->l.map letU=m.map letU->l=m
 | [],[],_,_,_=>rfl
 | [],y :: m,_,_,h=>by simp at h
 | x :: l,[],_,_,h=>by simp at h
 | x :: l,y :: m,hl,hm,h=>by
  simp only[List.map_cons,List.cons.injEq]at h
  rw[letU_inj (hl x (by simp)) (hm y (by simp)) h.1,pQ (fun z hz=>hl z (List.mem_cons_of_mem _ hz)) (fun z hz=>hm z (List.mem_cons_of_mem _ hz)) h.2]
def TlU:List (List UInt8)->List UInt8->Prop
 | [],r=>r=[]
 | u :: us,r=>∃ p r',r=p ++ u ++ r'/\TlU us r'
theorem aQ:∀ (us:List (List UInt8)) (v r:List UInt8),Fit us v r ↔ TlU (us ++ [v]) r
 | [],v,r=>⟨fun⟨q,h⟩=>⟨q,[],by simp[h],rfl⟩,fun⟨p,r',h,h'⟩=>⟨p,by rw[h,show r'=[] from h'];simp⟩⟩
 | u :: us,v,r=>by
  constructor
  ·rintro ⟨p,r',h,hf⟩;exact⟨p,r',h,(aQ us v r').1 hf⟩
  ·rintro ⟨p,r',h,hf⟩;exact⟨p,r',h,(aQ us v r').2 hf⟩
theorem bT:∀ {us:List (List UInt8)} {r:List UInt8},(∀ u∈us,okU u)->okU r->(TlU us r ↔ TlN (us.map (List.map letU)) (r.map letU))
 | [],r,_,_=>by
  show r=[] ↔ r.map letU=[]
  rw[List.map_eq_nil_iff]
 | u :: us,r,hu,hr=>by
  constructor
  ·rintro ⟨p,r',rfl,h⟩
   refine⟨p.map letU,r'.map letU,by simp,(bT (fun x hx=>hu x (List.mem_cons_of_mem _ hx)) (fun x hx=>hr x (List.mem_append_right _ hx))).1 h⟩
  ·rintro ⟨p,r',h,ht⟩
   obtain⟨a,c,rfl,h1,rfl⟩:=List.map_eq_append_iff.1 h
   obtain⟨a1,b1,rfl,rfl,h2⟩:=List.map_eq_append_iff.1 h1
   have hb:b1=u:=pQ (fun x hx=>hr x (by simp[hx])) (hu u (by simp)) h2
   subst hb
   exact⟨a1,c,rfl,(bT (fun x hx=>hu x (List.mem_cons_of_mem _ hx)) (fun x hx=>hr x (List.mem_append_right _ hx))).2 ht⟩
theorem pat_mapU:∀ {bs:List (List UInt8)} {s:List UInt8},(∀ u∈bs,okU u)->okU s->(iA bs s ↔ PatN (bs.map (List.map letU)) (s.map letU))
 | [],s,_,_=>Iff.rfl
 | [b],s,hb,hs=>by
  show s=b ↔ ∃ r,s.map letU=b.map letU ++ r/\r=[]
  constructor
  ·rintro rfl;exact⟨[],by simp,rfl⟩
  ·rintro ⟨r,h,rfl⟩
   exact pQ hs (hb b (by simp)) (by simpa using h)
 | b :: c :: rest,s,hb,hs=>by
  have hl:(c :: rest)=(c :: rest).dropLast ++ [(c :: rest).getLastD []]:=by
   rw[List.getLastD_eq_getLast?,List.getLast?_eq_some_getLast (List.cons_ne_nil c rest)]
   exact(List.dropLast_concat_getLast (List.cons_ne_nil c rest)).symm
  have h0:∀ u∈c :: rest,okU u:=fun x hx=>hb x (List.mem_cons_of_mem _ hx)
  constructor
  ·rintro ⟨r,rfl,hf⟩
   refine⟨r.map letU,by simp,?_⟩
   have:=(aQ _ _ _).1 hf
   rw[<- hl]at this
   exact(bT h0 (fun x hx=>hs x (List.mem_append_right _ hx))).1 this
  ·rintro ⟨r,h,ht⟩
   obtain⟨a,r',rfl,h1,rfl⟩:=List.map_eq_append_iff.1 h
   have ha:a=b:=pQ (fun x hx=>hs x (List.mem_append_left _ hx)) (hb b (by simp)) h1
   subst ha
   refine⟨r',rfl,(aQ _ _ _).2 ?_⟩
   rw[<- hl]
   exact(bT h0 (fun x hx=>hs x (List.mem_append_right _ hx))).2 ht
theorem nC {s:ByteArray} {k:Int} (h:zP s k=true):okU s.data.toList:=fun x hx=>by
 simp only[zP,Bool.and_eq_true,List.all_eq_true]at h
 have:=h.2 x hx
 unfold tJ at this
 rw[decide_eq_true_eq]at this
 omega
theorem uH {s:ByteArray} {k l:Int} (h:zP s k=true) (hkl:k<=l) (hl:l<=6):zP s l=true:=by
 simp only[zP,Bool.and_eq_true,decide_eq_true_eq,List.all_eq_true]at h ⊢
 refine⟨⟨by omega,hl,h.1.2.2⟩,fun c hc=>?_⟩
 have:=h.2 c hc
 unfold tJ at this ⊢
 rw[decide_eq_true_eq]at this ⊢
 omega
theorem qD {bs:List ByteArray} {k l:Int} (h:zZ bs k=0) (hkl:k<=l) (hl:l<=6):zZ bs l=0:=by
 obtain⟨h1,h2,h3,h4,h5,h6⟩:=xF h
 rw[sT (by omega) (by omega) (by omega) (by omega) (by omega),if_pos]
 refine pK _ _ fun j hj=>?_
 have:=rD h6 j hj
 unfold wU at this ⊢
 rw[Bool.and_eq_true]at this ⊢
 exact⟨uH this.1 hkl hl,this.2⟩
theorem match_pat {bs:List ByteArray} {s:ByteArray} {k:Nat} (h:zZ bs (k:Int)=0) (hs:zP s (k:Int)=true):yU bs s=true ↔ PatN (bs.map zI) (zI s):=by
 obtain⟨h1,h6,h0,h8,ht,hw,_⟩:=qAU h
 rw[yU,qD h h6 (Int.le_refl 6),uH hs h6 (Int.le_refl 6)]
 simp only[decide_true,Bool.true_and]
 rw[plainMatch_iff,pat_mapU (fun u hu=>by
  obtain⟨b,hb,rfl⟩:=List.mem_map.1 hu
  obtain⟨i,hi,rfl⟩:=List.getElem_of_mem hb
  exact nC (hw i hi)) (nC hs),List.map_map]
 rfl
theorem pat_nonempty {bs:List ByteArray} {k:Int} (h:zZ bs k=0):∃ b us,bs.map zI=b :: us/\∀ u∈us.dropLast,u≠[]:=by
 obtain⟨h1,h6,h0,h8,ht,hw,h2⟩:=qAU h
 match bs,h0 with
 | b :: rest,_ =>
  refine⟨zI b,rest.map zI,rfl,fun u hu=>?_⟩
  obtain⟨i,hi,rfl⟩:=List.getElem_of_mem hu
  have h3:i+1 < rest.length:=by
   rw[List.length_dropLast,List.length_map]at hi;omega
  have:=h2 (i+1) (by simp;omega) (by omega) (by simp;omega)
  simp only[List.getElem_cons_succ]at this
  intro e
  rw[List.getElem_dropLast,List.getElem_map]at e
  have e2:=congrArg List.length e
  rw[yH,List.length_nil]at e2
  omega
theorem iS {bs:List ByteArray} {s:ByteArray} {k:Nat} (h:zZ bs (k:Int)=0) (hs:zP s (k:Int)=true):acc (yM bs (k:Int)) (st0 (yM bs (k:Int))) (zI s)=yU bs s:=by
 obtain⟨h1,h6,h0,h8,ht,hw,_⟩:=qAU h
 have h7:1<=k:=by omega
 have h5:k<=6:=by omega
 obtain⟨b,us,hb,h4⟩:=pat_nonempty h
 have h2:=(wV hs).1
 have h3:=mG h7 h5 h0 ht
 rw[yM,if_pos (wI.2 h),Int.toNat_natCast]
 show acc (minD (patD k (bs.map zI)) k) 0 (zI s)=_
 rw[qBC h3 h2]
 rw[Bool.eq_iff_iff,match_pat h hs,hb]
 exact pat_acc h4 h2
theorem patDfa_vd {bs:List ByteArray} {k:Nat} (h:zZ bs (k:Int)=0):∃ n,n<=66/\VD (yM bs (k:Int)) n k:=by
 obtain⟨h1,h6,h0,h8,ht,hw,_⟩:=qAU h
 have h2:=mG (k:=k) (by omega) (by omega) h0 ht
 have hl:=qN (k:=k) h0 ht
 rw[yM,if_pos (wI.2 h),Int.toNat_natCast]
 exact⟨_,Nat.le_trans (qBD h2) hl.2,pY h2⟩
theorem okByte_ofL {letters n:Int} (h:qQ letters n) (h6:letters<=6):tJ letters (UInt8.ofNat n.toNat)=true:=by
 unfold qQ at h
 have:(UInt8.ofNat n.toNat).toNat=n.toNat:=by
  rw[UInt8.toNat_ofNat']
  exact Nat.mod_eq_of_lt (by omega)
 simp only[tJ,this,decide_eq_true_eq]
 omega
theorem nD {letters:Int} {l:List Int} (h:∀ n∈l,qQ letters n) (h1:1<=letters) (h6:letters<=6) (hl:l.length<=2048):zP (strOfNums l) letters=true:=by
 unfold zP
 rw[Bool.and_eq_true,decide_eq_true_eq,rL,List.all_eq_true]
 refine⟨⟨h1,h6,by rw[strOfNums_size];exact hl⟩,fun c hc=>?_⟩
 obtain⟨n,hn,rfl⟩:=List.mem_map.1 hc
 exact okByte_ofL (h n hn) h6
theorem patValidate_ofL {letters:Int} {bs:List (List Int)} (h:wQ letters bs) (h1:1<=letters) (h6:letters<=6):zZ (bs.map strOfNums) letters=0:=by
 have h0:=patValidate_of h h6
 obtain⟨_,_,h3,h4,h5,h7⟩:=xF h0
 rw[sT (by omega) (by omega) (by omega) (by omega) (by omega),if_pos]
 refine pK _ _ fun j hj=>?_
 have:=rD h7 j hj
 unfold wU at this ⊢
 rw[Bool.and_eq_true]at this ⊢
 refine⟨?_,this.2⟩
 rw[Nat.zero_add]at *
 have h2:j < bs.length:=by simpa using hj
 have hg:=h.2.2 j h2
 simp only[List.getElem_map]
 exact nD hg.2.1 h1 h6 (by have:=hg.1;omega)
def ofE (d:DfaV) (ps:List (List ByteArray)):Int:=if xW d=0 then (if 300 < ps.length then 3 else wW d.letters ps) else xW d
def ofT (d:DfaV) (ps:List (List ByteArray)):List DfaV:=autD ps d.letters ++ [minD d d.letters.toNat]
theorem xG (ps:List (List ByteArray)) (k:Int):(autD ps k).length=ps.length:=by simp[autD]
theorem vB (d:DfaV) (ps:List (List ByteArray)):(ofT d ps).length=ps.length+1:=by rw[ofT,List.length_append,xG];rfl
theorem pL {d:DfaV} {ps:List (List ByteArray)} (h:ofE d ps=0):xW d=0/\ps.length<=300/\wW d.letters ps=0:=by
 unfold ofE at h
 split at h
 ·rename_i h1
  split at h
  ·omega
  ·exact⟨h1,by omega,h⟩
 ·omega
theorem ofE_bad {d:DfaV} {ps:List (List ByteArray)} (h:xW d≠0):ofE d ps=xW d:=if_neg h
theorem ofE_many {d:DfaV} {ps:List (List ByteArray)} (h:xW d=0) (h3:300 < ps.length):ofE d ps=3:=by rw[ofE,if_pos h,if_pos h3]
theorem ofE_pats {d:DfaV} {ps:List (List ByteArray)} (h:xW d=0) (h3:¬ 300 < ps.length):ofE d ps=wW d.letters ps:=by rw[ofE,if_pos h,if_neg h3]
theorem qAI {d:DfaV} (h:xW d=0):d.final.length<=512:=by
 unfold xW at h
 split at h
 ·omega
 split at h
 ·omega
 omega
theorem bF {d:DfaV} {ps:List (List ByteArray)} {i:Nat} (hi:i < ps.length):(ofT d ps).getD i dN=yM (ps.getD i []) d.letters:=by
 rw[ofT,sM (List.prefix_append _ _) (by rw[xG];exact hi),zF (by rw[xG];exact hi),zF hi]
 simp[autD]
theorem fE (d:DfaV) (ps:List (List ByteArray)):(ofT d ps).getD ps.length dN=minD d d.letters.toNat:=by
 rw[ofT,List.getD_eq_getElem?_getD,List.getElem?_append_right (by rw[xG];exact Nat.le_refl _),xG,Nat.sub_self];rfl
theorem qBT {ps:List (List ByteArray)} {k:Nat} (h:wW (k:Int) ps=0):OkT (autD ps (k:Int)) k:=fun i hi=>by
 rw[xG]at hi
 have e:(autD ps (k:Int)).getD i dN=yM (ps.getD i []) (k:Int):=by
  rw[zF (by rw[xG];exact hi),zF hi];simp[autD]
 have hp:patW (ps.getD i []) (k:Int)=0:=by rw[zF hi];exact vA.1 h _ (List.getElem_mem hi)
 obtain⟨n,hn,hv⟩:=patDfa_vd (wI.1 hp)
 exact⟨n,by rw[e];exact hv,by omega⟩
theorem OkT.snoc {ds:List DfaV} {k n:Nat} {d:DfaV} (h:OkT ds k) (hd:VD d n k) (hn:n<=512):OkT (ds ++ [d]) k:=fun i hi=>by
 rw[List.length_append,List.length_singleton]at hi
 rcases Nat.lt_succ_iff_lt_or_eq.1 hi with hi|rfl
 ·obtain⟨m,h1,h2⟩:=h i hi
  exact⟨m,by rw[sM (List.prefix_append _ _) hi];exact h1,h2⟩
 ·refine⟨n,?_,hn⟩
  rw[List.getD_eq_getElem?_getD,List.getElem?_append_right (Nat.le_refl _),Nat.sub_self];exact hd
theorem qAW {d:DfaV} {ps:List (List ByteArray)} (h:ofE d ps=0):OkT (ofT d ps) d.letters.toNat:=by
 obtain⟨h1,h2,h3⟩:=pL h
 have hv:=bA h1
 have h5:=qAI h1
 have hk:=hv.hk
 have e:((d.letters.toNat:Nat):Int)=d.letters:=hk.symm
 have ha:=qBT (ps:=ps) (k:=d.letters.toNat) (by rw[e];exact h3)
 rw[e]at ha
 exact ha.snoc (pY hv) (by have:=qBD hv;omega)
theorem bK {np:Nat} {cs:List ChoV} {m m':Nat->Bool} (hc:xD np cs cs.length) (h:∀ i,i < np->m i=m' i):∀ (f:Nat) (r:Int),r<=1+(cs.length:Int)->decF cs m f r=decF cs m' f r
 | 0,r,_=>rfl
 | f+1,r,hr=>by
  rw[decF,decF]
  split
  ·rfl
  ·rename_i h2
   have hi:r.toNat - 2 < cs.length:=by omega
   have hf:=pD (hc _ hi)
   rw[h _ (show (cs.getD (r.toNat - 2) default).p.toNat < np by omega)]
   split
   ·exact bK hc h f _ (by omega)
   ·exact bK hc h f _ (by omega)
theorem mQ {np:Nat} {cs:List ChoV} {m m':Nat->Bool} (hc:xD np cs cs.length) (h:∀ i,i < np->m i=m' i) {r:Int} (hr:r<=1+(cs.length:Int)):decG cs m r=decG cs m' r:=bK hc h _ r hr
theorem lY {ds:List DfaV} {np:Nat} (hn:np<=ds.length) (u:List Nat) {i:Nat} (hi:i < np):(mtsT ds np (sR (nxtT ds) (st0T ds) u)).getD i false=acc (ds.getD i dN) (st0 (ds.getD i dN)) u:=by
 rw[nO hi,wK (by omega)]
abbrev MT (ds:List DfaV) (np:Nat) (L:List (List Nat)):Nat->List Bool:=fun s=>mtsT ds np (L.getD s [])
abbrev AT (ds:List DfaV) (np:Nat) (L:List (List Nat)):Nat->Bool:=fun s=>accT ds (L.getD s []) np
theorem dia_dec {ds:List DfaV} {np k:Nat} {L:List (List Nat)} {l:List ClaV} {cs:List ChoV} {r:Int} (hn:np < ds.length) (hL:BfsD (nxtT ds) k (st0T ds) L) (hc:ClsI (MT ds np L) (AT ds np L) L.length L.length l) (hb:∀ c∈l,nA c=false) (hch:xD np cs cs.length) (hr:r<=1+(cs.length:Int)) (hd:∀ c∈l,decG cs (fun i=>c.m.getD i false) r=c.b) :
  ∀ u,zX k u->decG cs (fun i=>acc (ds.getD i dN) (st0 (ds.getD i dN)) u) r=acc (ds.getD np dN) (st0 (ds.getD np dN)) u:=fun u hu=>by
 obtain⟨i,hi,e⟩:=List.getElem_of_mem (hL.all u hL.mem0 hu)
 obtain⟨c,hcl,h1,h2⟩:=hc.dec hb hi
 have e2:L.getD i []=sR (nxtT ds) (st0T ds) u:=by rw[zF hi,e]
 rw[<- wK hn,<- e2]
 show _=AT ds np L i
 rw[<- h2,<- hd c hcl]
 refine mQ hch (fun j hj=>?_) hr
 show acc _ _ _=c.m.getD j false
 rw[h1]
 show _=(mtsT ds np (L.getD i [])).getD j false
 rw[e2,lY (by omega) u hj]
theorem cls_conf {ds:List DfaV} {np k:Nat} {L:List (List Nat)} {l:List ClaV} (hn:np < ds.length) (hL:BfsD (nxtT ds) k (st0T ds) L) (hc:ClsI (MT ds np L) (AT ds np L) L.length L.length l) {c:ClaV} (hcl:c∈l) (hb:nA c=true):Conf ds np k:=by
 obtain⟨y,n,_,_,hy,h0,h1,h2,h3⟩:=hc.both hcl hb
 exact(kE hn hL).2 ⟨_,_,by rw[zF hy];exact List.getElem_mem hy,by rw[zF h0];exact List.getElem_mem h0,h1,h2,h3⟩
theorem cls_noconf {ds:List DfaV} {np k:Nat} {L:List (List Nat)} {l:List ClaV} (hn:np < ds.length) (hL:BfsD (nxtT ds) k (st0T ds) L) (hc:ClsI (MT ds np L) (AT ds np L) L.length L.length l) (hb:∀ c∈l,nA c=false):¬ Conf ds np k:=fun h=>by
 obtain⟨x,y,hx,hy,h1,h2,h3⟩:=(kE hn hL).1 h
 obtain⟨i,hi,rfl⟩:=List.getElem_of_mem hx
 obtain⟨j,hj,rfl⟩:=List.getElem_of_mem hy
 rw[<- zF (d:=[]) hi]at h1 h2
 rw[<- zF (d:=[]) hj]at h1 h3
 exact hc.clash hb hi hj h1 h2 h3
inductive OfOut (w':World) (d:DfaV) (ps:List (List ByteArray)):Value->ByteArray->ByteArray->Int->Prop
 | bad (h:ofE d ps≠0):OfOut w' d ps (.agg #[.slice none 0 0,.slice none 0 0,.int .i64 0]) ⟨#[]⟩ ⟨#[]⟩ (ofE d ps)
 | over (h:ofE d ps=0) (ho:Over (ofT d ps) d.letters.toNat):OfOut w' d ps (.agg #[.slice none 0 0,.slice none 0 0,.int .i64 0]) ⟨#[]⟩ ⟨#[]⟩ 3
 | conf (h:ofE d ps=0) (hu:qCG (ofT d ps) d.letters.toNat) (hc:Conf (ofT d ps) ps.length d.letters.toNat) (u v:List Nat) (h1:zX d.letters.toNat u) (h2:zX d.letters.toNat v) (h3:u.length<=4000) (h4:v.length<=4000)
   (h5:∀ i,i < ps.length->acc (yM (ps.getD i []) d.letters) (st0 (yM (ps.getD i []) d.letters)) u=acc (yM (ps.getD i []) d.letters) (st0 (yM (ps.getD i []) d.letters)) v) (h6:acc d (st0 d) u=true) (h7:acc d (st0 d) v=false) :
   OfOut w' d ps (.agg #[.slice none 0 0,.slice none 0 0,.int .i64 0]) (strOfNums (lets u)) (strOfNums (lets v)) 20
 | ok (v:Value) (g:DiaV) (l:List ClaV) (L:List (List Nat)) (h:ofE d ps=0) (hL:BfsD (nxtT (ofT d ps)) d.letters.toNat (st0T (ofT d ps)) L) (hl4:L.length<=4000) (hn:¬ Conf (ofT d ps) ps.length d.letters.toNat) (hg:qG w'.heap.size w' v g) (h1:g.pats=ps) (h2:xD ps.length g.chos g.chos.length) (h3:0<=g.root) (h4:g.root<=1+(g.chos.length:Int))
   (h5:∀ u,zX d.letters.toNat u->decG g.chos (fun i=>acc (yM (ps.getD i []) d.letters) (st0 (yM (ps.getD i []) d.letters)) u) g.root=acc d (st0 d) u) (hc:ClsI (MT (ofT d ps) ps.length L) (AT (ofT d ps) ps.length L) L.length L.length l) (h6:g.chos.length+1<=l.length) :
   OfOut w' d ps v ⟨#[]⟩ ⟨#[]⟩ 0
theorem st0_min (d:DfaV) (k:Nat):st0 (minD d k)=0:=rfl
theorem kA {d:DfaV} {n k:Nat} (hd:VD d n k) {u:List Nat} (hu:zX k u):acc (minD d k) (st0 (minD d k)) u=acc d (st0 d) u:=by rw[st0_min];exact qBC hd hu
theorem of_conf {d:DfaV} {ps:List (List ByteArray)} {L:List (List Nat)} {y n:Nat} {u v:List Nat} (h:ofE d ps=0) (hL:BfsD (nxtT (ofT d ps)) d.letters.toNat (st0T (ofT d ps)) L) (hu:zX d.letters.toNat u) (hv:zX d.letters.toNat v)
  (h1:sR (nxtT (ofT d ps)) (L.getD 0 []) u=L.getD y []) (h2:sR (nxtT (ofT d ps)) (L.getD 0 []) v=L.getD n []) (hm:MT (ofT d ps) ps.length L y=MT (ofT d ps) ps.length L n) (ha:AT (ofT d ps) ps.length L y=true) (hb:AT (ofT d ps) ps.length L n=false) :
  (∀ i,i < ps.length->acc (yM (ps.getD i []) d.letters) (st0 (yM (ps.getD i []) d.letters)) u=acc (yM (ps.getD i []) d.letters) (st0 (yM (ps.getD i []) d.letters)) v)/\acc d (st0 d) u=true/\acc d (st0 d) v=false:=by
 have e0:L.getD 0 []=st0T (ofT d ps):=by rw[List.getD_eq_getElem?_getD,hL.hd];rfl
 rw[e0]at h1 h2
 have hn:ps.length < (ofT d ps).length:=by rw[vB];omega
 have h0:=bA (pL h).1
 refine⟨fun i hi=>?_,?_,?_⟩
 ·have e1:=lY (ds:=ofT d ps) (np:=ps.length) (by omega) u hi
  have e2:=lY (ds:=ofT d ps) (np:=ps.length) (by omega) v hi
  rw[bF hi,h1]at e1
  rw[bF hi,h2]at e2
  rw[<- e1,<- e2]
  exact congrArg (fun l=>l.getD i false) hm
 ·have e1:=wK hn u
  rw[h1,fE,kA h0 hu]at e1
  rw[<- e1];exact ha
 ·have e1:=wK hn v
  rw[h2,fE,kA h0 hv]at e1
  rw[<- e1];exact hb
theorem of_dec {d:DfaV} {ps:List (List ByteArray)} {L:List (List Nat)} {l:List ClaV} {cs:List ChoV} {r:Int} (h:ofE d ps=0) (hL:BfsD (nxtT (ofT d ps)) d.letters.toNat (st0T (ofT d ps)) L) (hc:ClsI (MT (ofT d ps) ps.length L) (AT (ofT d ps) ps.length L) L.length L.length l) (hb:∀ c∈l,nA c=false) (hch:xD ps.length cs cs.length) (hr:r<=1+(cs.length:Int)) (hd:∀ c∈l,decG cs (fun i=>c.m.getD i false) r=c.b) :
  ∀ u,zX d.letters.toNat u->decG cs (fun i=>acc (yM (ps.getD i []) d.letters) (st0 (yM (ps.getD i []) d.letters)) u) r=acc d (st0 d) u:=fun u hu=>by
 have hn:ps.length < (ofT d ps).length:=by rw[vB];omega
 have h1:=dia_dec hn hL hc hb hch hr hd u hu
 rw[fE,kA (bA (pL h).1) hu]at h1
 rw[<- h1]
 exact mQ hch (fun i hi=>by rw[bF hi]) hr
theorem of_short {d:DfaV} {ps:List (List ByteArray)} (h:ofE d ps=0):∀ p∈ps,p.length<=100000:=fun p hp=>by
 have h1:=vA.1 (pL h).2.2 p hp
 have:=xF (wI.1 h1)
 omega
end Go.Proofs.Ytjfdomfendbhfaa
namespace Go.Proofs.Ytjfdomfendbhfaa
open Go.RowKit Go.Maps
set_option maxRecDepth 100000 in
set_option maxHeartbeats 800000 in
theorem lA (Bd:Nat) (w:World) (o k:Nat) (pv:Value) (ds:List DfaV) (L:List (List Nat)) (nxl fr bl:List Nat) (sb sc nb nc fb fc bb bc s i:Nat) (h:ProdV w o k pv L nxl fr bl sb sc nb nc fb fc bb bc) (hd:DsIn Bd w pv ds) (hok:OkT ds k) (hs:s < L.length) (hi:i < ds.length) (hin:InT ds (L.getD s [])) (hl:ds.length<=400) (hL:L.length<=4000) :
  Calls Try.prog 69 #[.pointer (some ⟨o,0,none⟩),.int .i64 (s:Int),.int .i64 (i:Int)] w fun e w'=>e=.returned (.bool (accT ds (L.getD s []) i))/\w.grownBy w' none:=by
 obtain⟨b,off,cap,rfl,h9,h7,hd⟩:=hd.head (by omega)
 obtain⟨n,gb,go,gc,nb2,no2,nc2,RB,RO,RC,hv,h5,c1,c2,c3,c4,h2⟩:=hd.dfa hok hi
 obtain⟨x0,x1,x2,x3,x4,x5⟩:=h.cells
 have h4:L.getD s []≠[]:=fun e=>by have:=hin.1;rw[e]at this;simp at this;omega
 obtain⟨g,ro,rc,r1,r2,r3,r4⟩:=h.row s hs h4
 have h1:=h.caps
 rw[hin.1]at r1 r2 r4
 have r5:=r4 i hi
 have hq:=hin.2 i hi
 rw[hv.hn]at hq
 obtain⟨q,h0⟩:∃ q,q=(L.getD s []).getD i 0:=⟨_,rfl⟩
 have c5:=h2.fin (q:=q) (by rw[h0];exact hq)
 have h6:=h2.fcap
 have hA:accT ds (L.getD s []) i=(ds.getD i dN).final.getD q false:=by rw[accT,h0]
 rw[hA]
 rw[<- h0]at r5 hq
 obtain⟨np,h3⟩:∃ n,n=ds.length:=⟨_,rfl⟩
 obtain⟨m,hm⟩:∃ m,m=L.length:=⟨_,rfl⟩
 obtain⟨bo,h8⟩:∃ x,x=(ds.getD i dN).final.getD q false:=⟨_,rfl⟩
 rw[<- h3]at x1 r1 r2 hi h9 hl
 rw[<- hm]at x2 x4 x5 hs hL h1
 rw[<- h8]at c5 ⊢
 have k1:cap<=9223372036854775807:=by unfold maxLen at h7;omega
 have k2:sc<=9223372036854775807:=by have:=h1.2.1;unfold maxLen at this;omega
 have k3:rc<=9223372036854775807:=by unfold maxLen at r3;omega
 have k4:gc<=9223372036854775807:=by have:=h6.2;unfold maxLen at this;omega
 have H0:(s:Int) < m:=by omega
 have H2:(i:Int) < np:=by omega
 have H1:(q:Int) < n:=by omega
 clear h hd hv h2 hA h0 h3 hm h8 r4 hin h4 x0 x3 x4 x5 c1 c2 c4 h1 h6 h7 r3 hok
 go_enter Try.func69,Try.ntmps69
 go_upto_region 1 with fail
 go_quiet (fail)
 go_wp2
 go_ret
 first|exact⟨rfl,zU _ _ _⟩|exact⟨rfl,zL _ _⟩
end Go.Proofs.Ytjfdomfendbhfaa
