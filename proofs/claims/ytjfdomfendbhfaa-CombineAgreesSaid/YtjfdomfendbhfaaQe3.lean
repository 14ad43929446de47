/- Part 3 of the proof: Numb, PVal, CombP. -/
import Derived.Test.YtjfdomfendbhfaaQe2
set_option linter.unusedVariables false
set_option linter.unusedSimpArgs false
namespace Go.Proofs.Ytjfdomfendbhfaa
def xA {α:Type} [DecidableEq α] (acc:List α) (x:α):List α:=if x∈acc then acc else acc ++ [x]
def zV {α:Type} [DecidableEq α] (l:List α):List α:=l.foldl xA []
section
variable {α:Type} [DecidableEq α]
theorem uG {acc:List α} {x:α} (h:x∈acc):xA acc x=acc:=if_pos h
theorem wT {acc:List α} {x:α} (h:x ∉ acc):xA acc x=acc ++ [x]:=if_neg h
theorem pP {acc:List α} {x y:α}:y∈xA acc x ↔ y∈acc\/y=x:=by
 unfold xA
 split
 ·rename_i h
  exact⟨.inl,fun h'=>by rcases h' with h'|rfl <;> assumption⟩
 ·simp
theorem tY (l:List α) (x:α):zV (l ++ [x])=xA (zV l) x:=by simp[zV,List.foldl_append]
theorem mem_foldl_addNew (l:List α):∀ (acc:List α) (y:α),y∈l.foldl xA acc ↔ y∈acc\/y∈l:=by
 induction l with
 | nil=>intro acc y;simp
 | cons a l ih=>intro acc y;rw[List.foldl_cons,ih,pP,List.mem_cons];exact or_assoc
theorem xL {l:List α} {y:α}:y∈zV l ↔ y∈l:=by rw[zV,mem_foldl_addNew];simp
theorem lO {acc:List α} {x:α} (h:acc.Nodup):(xA acc x).Nodup:=by
 unfold xA
 split
 ·exact h
 ·rename_i hx
  rw[List.nodup_append]
  exact⟨h,by simp,fun a ha b hb=>by rw[List.mem_singleton]at hb;subst hb;rintro rfl;exact hx ha⟩
theorem foldl_addNew_nodup (l:List α):∀ {acc:List α},acc.Nodup->(l.foldl xA acc).Nodup:=by
 induction l with
 | nil=>intro acc h;exact h
 | cons a l ih=>intro acc h;exact ih (lO h)
theorem uY (l:List α):(zV l).Nodup:=foldl_addNew_nodup l (by simp)
theorem qC (acc:List α) (x:α):acc <+: xA acc x:=by
 unfold xA;split
 ·exact List.prefix_refl _
 ·exact List.prefix_append _ _
theorem foldl_addNew_prefix (l:List α):∀ (acc:List α),acc <+: l.foldl xA acc:=by
 induction l with
 | nil=>intro acc;exact List.prefix_refl _
 | cons a l ih=>intro acc;exact(qC acc a).trans (ih _)
theorem vX (l:List α) (k:Nat):zV (l.take k) <+: zV l:=by
 conv=>rhs;rw[<- List.take_append_drop k l]
 rw[zV,zV,List.foldl_append]
 exact foldl_addNew_prefix _ _
theorem vJ (l:List α):(zV l).length<=l.length:=by
 have key:∀ (l acc:List α),(l.foldl xA acc).length<=acc.length+l.length:=by
  intro l
  induction l with
  | nil=>intro acc;simp
  | cons a l ih =>
   intro acc
   rw[List.foldl_cons]
   have h1:=ih (xA acc a)
   have h2:(xA acc a).length<=acc.length+1:=by unfold xA;split <;> simp
   rw[List.length_cons];omega
 simpa [zV] using key l []
theorem lH {l m:List α} {x:α} (h:l <+: m) (hx:x∈l):m.idxOf x=l.idxOf x:=by
 obtain⟨r,rfl⟩:=h
 rw[List.idxOf_append,if_pos hx]
theorem dZ {l:List α} {x y:α} (hx:x∈l) (h:l.idxOf x=l.idxOf y):x=y:=by
 have h1:=List.idxOf_lt_length_of_mem hx
 have e1:=List.getElem_idxOf h1
 have e2:=List.getElem_idxOf (show l.idxOf y < l.length by omega)
 rw[<- e1,<- e2];simp only[h]
def numb (l:List α):List Nat:=l.map fun x=>(zV l).idxOf x
theorem yA (l:List α):(numb l).length=l.length:=by simp[numb]
theorem rS {l:List α} {i:Nat} (h:i < l.length):(numb l)[i]'(by rw[yA];exact h)=(zV l).idxOf l[i]:=by simp[numb]
theorem qAY {l:List α}:∀ c∈numb l,c < (zV l).length:=by
 intro c hc
 obtain⟨x,hx,rfl⟩:=List.mem_map.1 hc
 exact List.idxOf_lt_length_of_mem (xL.2 hx)
theorem rT {l:List α} {i j:Nat} (hi:i < l.length) (hj:j < l.length):(numb l).getD i 0=(numb l).getD j 0 ↔ l[i]=l[j]:=by
 simp only[List.getD,List.getElem?_eq_getElem (show i < (numb l).length by rw[yA];exact hi),List.getElem?_eq_getElem (show j < (numb l).length by rw[yA];exact hj),Option.getD_some,rS hi,rS hj]
 exact⟨fun h=>dZ (xL.2 (List.getElem_mem hi)) h,fun h=>by rw[h]⟩
theorem numb_take {l:List α} {k:Nat} (hk:k < l.length):(zV (l.take (k+1))).idxOf l[k]=(zV l).idxOf l[k]:=by
 refine(lH (vX l (k+1)) (xL.2 ?_)).symm
 rw[List.take_succ_eq_append_getElem hk];exact List.mem_append_right _ (List.mem_singleton_self _)
end
def SameKer (p q:List Nat):Prop:=p.length=q.length/\∀ i j,i < p.length->j < p.length->(p.getD i 0=p.getD j 0 ↔ q.getD i 0=q.getD j 0)
def Norm (p:List Nat):Prop:=numb p=p
theorem zF {α:Type} {l:List α} {i:Nat} {d:α} (h:i < l.length):l.getD i d=l[i]:=by simp[List.getD,List.getElem?_eq_getElem h]
theorem firsts_map_inj {α β:Type} [DecidableEq α] [DecidableEq β] (f:α->β) (l:List α) (h:∀ x∈l,∀ y∈l,f x=f y->x=y):zV (l.map f)=(zV l).map f:=by
 have key:∀ (m acc:List α),(∀ x∈acc ++ m,∀ y∈acc ++ m,f x=f y->x=y)->(m.map f).foldl xA (acc.map f)=(m.foldl xA acc).map f:=by
  intro m
  induction m with
  | nil=>intro acc _;rfl
  | cons a m ih =>
   intro acc hh
   rw[List.map_cons,List.foldl_cons,List.foldl_cons]
   have e:xA (acc.map f) (f a)=(xA acc a).map f:=by
    unfold xA
    by_cases ha:a∈acc
    ·rw[if_pos ha,if_pos (List.mem_map_of_mem ha)]
    ·rw[if_neg ha,if_neg]
     ·simp
     ·intro hm
      obtain⟨b,hb,e⟩:=List.mem_map.1 hm
      have:=hh b (by simp[hb]) a (by simp) e
      subst this
      exact ha hb
   rw[e]
   refine ih _ fun x hx y hy=>hh x ?_ y ?_
   ·rw[List.mem_append,pP]at hx;simp;rcases hx with (h|h)|h <;> simp[h]
   ·rw[List.mem_append,pP]at hy;simp;rcases hy with (h|h)|h <;> simp[h]
 have:=key l [] (by simpa using h)
 simpa [zV] using this
theorem idxOf_map_inj {α β:Type} [DecidableEq α] [DecidableEq β] (f:α->β) (l:List α) (x:α) (hx:x∈l) (h:∀ y∈l,f y=f x->y=x):(l.map f).idxOf (f x)=l.idxOf x:=by
 induction l with
 | nil=>simp at hx
 | cons a l ih =>
  rw[List.map_cons,List.idxOf_cons,List.idxOf_cons]
  by_cases e:a=x
  ·subst e;simp
  ·have:f a≠f x:=fun h'=>e (h a (by simp) h')
   simp only[beq_eq_false_iff_ne.2 this,beq_eq_false_iff_ne.2 e,cond_false]
   rw[ih (by simpa [Ne.symm e] using hx) (fun y hy=>h y (by simp[hy]))]
theorem pM {α β:Type} [DecidableEq α] [DecidableEq β]:∀ (l:List α) (m:List β) (he:l.length=m.length),(∀ i j (hi:i < l.length) (hj:j < l.length),(l[i]=l[j] ↔ m[i]'(by omega)=m[j]'(by omega)))->numb l=numb m:=by
 intro l m he h
 -- positions of first occurrences
 have key:∀ (k:Nat) (hk:k<=l.length),∃ ps:List (Fin l.length),zV (l.take k)=ps.map (fun i=>l[i])/\zV (m.take k)=ps.map (fun i=>m[i.1]'(by omega)):=by
  intro k
  induction k with
  | zero=>intro _;exact⟨[],by simp[zV],by simp[zV]⟩
  | succ k ih =>
   intro hk
   obtain⟨ps,h1,h2⟩:=ih (by omega)
   have h3:k < l.length:=by omega
   rw[List.take_succ_eq_append_getElem h3,List.take_succ_eq_append_getElem (show k < m.length by omega),tY,tY,h1,h2]
   have h0:(l[k]∈ps.map (fun i=>l[i])) ↔ (m[k]'(by omega)∈ps.map (fun i=>m[i.1]'(by omega))):=by
    simp only[List.mem_map]
    constructor
    ·rintro ⟨i,hi,e⟩;exact⟨i,hi,(h i.1 k i.2 h3).1 e⟩
    ·rintro ⟨i,hi,e⟩;exact⟨i,hi,(h i.1 k i.2 h3).2 e⟩
   by_cases hm:l[k]∈ps.map (fun i=>l[i])
   ·exact⟨ps,uG hm,uG (h0.1 hm)⟩
   ·refine⟨ps ++ [⟨k,h3⟩],?_,?_⟩
    ·rw[wT hm];simp
    ·rw[wT (fun h'=>hm (h0.2 h'))];simp
 obtain⟨ps,h1,h2⟩:=key l.length (Nat.le_refl _)
 rw[List.take_length]at h1
 rw[show m.take l.length=m from List.take_of_length_le (by omega)]at h2
 refine List.ext_getElem (by simp[numb,he]) fun i hi _=>?_
 rw[yA]at hi
 rw[rS hi,rS (by omega),h1,h2]
 have aux:∀ (qs:List (Fin l.length)),(qs.map (fun i=>l[i])).idxOf l[i]=(qs.map (fun i=>m[i.1]'(by omega))).idxOf (m[i]'(by omega)):=by
  intro qs
  induction qs with
  | nil=>simp
  | cons a qs ih =>
   rw[List.map_cons,List.map_cons,List.idxOf_cons,List.idxOf_cons,ih]
   have:=h a.1 i a.2 hi
   by_cases e:l[a]=l[i]
   ·have e':=this.1 e
    simp only[beq_iff_eq.2 e,beq_iff_eq.2 e']
   ·have e':¬ (m[a.1]'(by omega)=m[i]'(by omega)):=fun h'=>e (this.2 h')
    simp only[beq_eq_false_iff_ne.2 e,beq_eq_false_iff_ne.2 e']
 exact aux ps
theorem qR {α:Type} [DecidableEq α] (l:List α):Norm (numb l):=by
 refine pM _ _ (yA l) fun i j hi hj=>?_
 rw[yA]at hi hj
 have:=rT (l:=l) hi hj
 rw[zF (by rw[yA];exact hi),zF (by rw[yA];exact hj)]at this
 exact this
theorem nN {p q:List Nat} (hp:Norm p) (hq:Norm q) (h:SameKer p q):p=q:=by
 rw[<- hp,<- hq]
 refine pM _ _ h.1 fun i j hi hj=>?_
 have:=h.2 i j hi hj
 rw[zF hi,zF hj,zF (by rw[<- h.1];exact hi),zF (by rw[<- h.1];exact hj)]at this
 exact this
end Go.Proofs.Ytjfdomfendbhfaa
namespace Go.Proofs.Ytjfdomfendbhfaa
open Go.RowKit
def txtV (bs:List ByteArray):List Value:=bs.map .string
theorem yN (bs:List ByteArray):(txtV bs).length=bs.length:=by simp[txtV]
theorem nG {w:World} {b off:Nat} {bs:List ByteArray} (h:vH w b off (txtV bs)) (i:Nat) (hi:i < bs.length):w.cell? ⟨b,off+i,none⟩=some (.string (bs.getD i ⟨#[]⟩)):=by
 rw[h.map i hi,zF hi]
def totW (bs:List ByteArray):Int:=bs.foldl (fun a b=>wrap64 (a+(b.size:Int))) 0
theorem eR (bs:List ByteArray) (k:Nat) (hk:k < bs.length):totW (bs.take (k+1))=wrap64 (totW (bs.take k)+((bs.getD k ⟨#[]⟩).size:Int)):=by
 rw[List.take_succ_eq_append_getElem hk,totW,List.foldl_append,zF hk];rfl
theorem qAL (bs:List ByteArray) (h:∀ i (hi:i < bs.length),bs[i].size<=4294967296) (hl:bs.length<=4096):∀ k,k<=bs.length->totW (bs.take k)=(uP (bs.take k):Int)/\uP (bs.take k)<=k * 4294967296
 | 0,_=>⟨rfl,by simp[uP]⟩
 | k+1,hk=>by
  obtain⟨h1,h2⟩:=qAL bs h hl k (by omega)
  have h3:=h k (by omega)
  rw[eR bs k (by omega),h1,iH bs k (by omega),zF (show k < bs.length by omega)]
  refine⟨?_,by omega⟩
  rw[<- Int.natCast_add]
  exact IntWalk.wrap64_in _ (by omega)
def patW (bs:List ByteArray) (letters:Int):Int :=
 if letters < 1\/6 < letters then 1 else if 8 < bs.length then 3 else if 64 < totW bs then 3
 else if bs.length=0 then 22 else if wB bs.length letters 0 bs then 0 else 22
theorem ok_sizes {bs:List ByteArray} {letters:Int}:∀ {n i:Nat},wB n letters i bs=true->∀ j (hj:j < bs.length),bs[j].size<=2048:=by
 induction bs with
 | nil=>intro n i _ j hj;simp at hj
 | cons u us ih =>
  intro n i h j hj
  rw[wB,Bool.and_eq_true]at h
  cases j with
  | zero =>
   have h1:=h.1
   simp only[wU,zP,Bool.and_eq_true,decide_eq_true_eq]at h1
   exact h1.1.1.2.2
  | succ j=>simpa using ih h.2 j (by simpa using hj)
theorem patW_facts {bs:List ByteArray} {letters:Int} (h:patW bs letters=0):¬ (letters < 1\/6 < letters)/\¬ 8 < bs.length/\¬ 64 < totW bs/\¬ bs.length=0/\wB bs.length letters 0 bs=true:=by
 unfold patW at h
 split at h
 ·omega
 split at h
 ·omega
 split at h
 ·omega
 split at h
 ·omega
 split at h
 ·exact⟨by assumption,by assumption,by assumption,by assumption,by assumption⟩
 ·omega
theorem bE {bs:List ByteArray} {letters:Int} (h1:¬ (letters < 1\/6 < letters)) (h2:¬ 8 < bs.length) (h3:¬ 64 < totW bs) (h4:¬ bs.length=0):patW bs letters=if wB bs.length letters 0 bs then 0 else 22:=by
 unfold patW
 rw[if_neg h1,if_neg h2,if_neg h3,if_neg h4]
theorem bS {bs:List ByteArray} {letters:Int} (h2:¬ 8 < bs.length) (h3:wB bs.length letters 0 bs=true):totW bs=(uP bs:Int):=by
 have hs:=ok_sizes h3
 have ht:=(qAL bs (fun i hi=>by have:=hs i hi;omega) (by omega) bs.length (Nat.le_refl _)).1
 rwa [List.take_length]at ht
theorem wI {bs:List ByteArray} {letters:Int}:patW bs letters=0 ↔ zZ bs letters=0:=by
 constructor
 ·intro h
  obtain⟨h1,h2,h3,h4,h5⟩:=patW_facts h
  rw[sT (by omega) (by omega) h2 (by have:=bS h2 h5;omega) h4,if_pos h5]
 ·intro h
  obtain⟨h1,h2,h3,h4,h5,h6⟩:=xF h
  rw[bE (by omega) (by omega) (by have:=bS (by omega) h6;omega) (by omega),if_pos h6]
set_option maxRecDepth 100000 in
set_option maxHeartbeats 400000 in
theorem nK (B : Nat) (w : World) (v : Value) (bs : List ByteArray) (letters : Int) (h : Row B w v (txtV bs)) (hs : ∀ i (hi : i < bs.length), bs[i].size ≤ maxLen) :
    Calls Try.prog 36 #[.agg #[v], .int .i64 letters] w fun e w' => e = .returned (.int .i64 (patW bs letters)) ∧ w.grownBy w' none := by
  have hlm := h.len_le
  rw [yN] at hlm
  have hlm' : bs.length ≤ 9223372036854775807 := by unfold maxLen at hlm; omega
  have H := Kh h; have HS := Kh hs
  obtain ⟨a, cap, rfl⟩ := h.shape
  rw [yN] at H ⊢
  clear h hs hlm
  by_cases h1 : letters < 1
  · go_enter Try.func36, Try.ntmps36
    go_wp2
    go_ret
    exact ⟨yF (by simp [patW, h1]), Ga _ _ _⟩
  by_cases h2 : 6 < letters
  · go_enter Try.func36, Try.ntmps36
    go_wp2
    go_ret
    exact ⟨yF (by simp [patW, h2]), Ga _ _ _⟩
  by_cases h3 : 8 < bs.length
  · have h3' : (8 : Int) < bs.length := by omega
    go_enter Try.func36, Try.ntmps36
    go_wp2
    go_ret
    exact ⟨yF (by simp [patW, h1, h2, h3]), Ga _ _ _⟩
  have h3' : ¬ (8 : Int) < bs.length := by omega
  go_enter Try.func36, Try.ntmps36
  go_wp2
  go_loopg [5, 7, 24] bs.length (fun gh t a7 i wr => w.alloc (.cells #[.slice a bs.length cap] 28) = wr ∧ ∃ k : Nat, gh + k = bs.length ∧ i = .int .i64 k ∧ t = .int .i64 (totW (bs.take k)))
  case atStart => exact ⟨rfl, 0, rfl, rfl, rfl⟩
  case round =>
    obtain ⟨hw, k, hgh, rfl, rfl⟩ := hrel
    have HGH := Kh hgh
    clear hgh
    by_cases hlt : k < bs.length
    · have hlt' : (k : Int) < bs.length := by omega
      obtain ⟨kb, off, kc, e, _, hk1, hk2, hkr⟩ := (H.out.kept (Ga w (.cells #[.slice a bs.length cap] 28) none) (by simp)).some_ (by rw [yN]; omega)
      rw [hw] at hkr
      rw [yN] at e hk1
      simp only [Value.slice.injEq] at e
      obtain ⟨rfl, _, rfl⟩ := e
      have hc := nG hkr k hlt
      have HS2 := Kh (eR bs k hlt)
      obtain ⟨u, hu⟩ : ∃ u, u = bs.getD k ⟨#[]⟩ := ⟨_, rfl⟩
      have hus : u.size ≤ 9223372036854775807 := by
        rw [hu, zF hlt]; have := HS.out k hlt; unfold maxLen at this; omega
      rw [← hu] at hc HS2
      have HW := Kh hw
      clear hkr hu hw
      go_wp2
      go_roundg (bs.length - (k + 1))
      case measure => have := HGH.out; omega
      case rel => exact ⟨HW.out, k + 1, by have := HGH.out; omega, by go_num, by rw [HS2.out]⟩
    · have hkn : k = bs.length := by have := HGH.out; omega
      have HT : Hid (totW (bs.take k) = totW bs) := Kh (by rw [hkn, List.take_length])
      rw [HT.out]
      have hkn' : ¬ (k : Int) < bs.length := by omega
      have HG : Hid (w.grownBy wr none) := Kh (by rw [← hw]; exact Ga _ _ _)
      have hb := heap_alloc_new w (.cells #[.slice a bs.length cap] 28)
      rw [hw] at hb
      have c0 : wr.cell? ⟨w.heap.size, 0, none⟩ = some (.slice a bs.length cap) := by simpa using zK hb 0 (by simp)
      have HR : Hid (Row B wr (.slice a bs.length cap) (txtV bs)) := Kh (H.out.kept HG.out (by simp))
      clear hkn hw hb HGH
      obtain ⟨tw, htw⟩ : ∃ tw, tw = totW bs := ⟨_, rfl⟩
      rw [← htw]
      have HTW := Kh htw
      clear htw
      by_cases h4 : 64 < tw
      · go_wp2
        go_ret
        exact ⟨yF (by rw [patW, if_neg (by omega), if_neg (by omega), if_pos (by rw [← HTW.out]; omega)]), HG.out⟩
      by_cases h5 : bs.length = 0
      · have h5' : ((bs.length : Int) == 0) = true := by simp [h5]
        have H5 := Kh h5; clear h5
        go_wp2
        go_ret
        exact ⟨yF (by rw [patW, if_neg (by omega), if_neg (by omega), if_neg (by rw [← HTW.out]; omega), if_pos H5.out]), HG.out⟩
      have h5' : ((bs.length : Int) == 0) = false := by rw [beq_eq_false_iff_ne]; omega
      go_wp2
      go_loopg [8, 9, 42] bs.length (fun gh a8 a9 i wq => wr = wq ∧ ∃ k : Nat, gh + k = bs.length ∧ i = .int .i64 k ∧ wB bs.length letters k (bs.drop k) = wB bs.length letters 0 bs)
      case atStart => exact ⟨rfl, 0, rfl, rfl, rfl⟩
      case round =>
        obtain ⟨rfl, j, hgh, rfl, hok⟩ := hrel
        have HGH := Kh hgh; have HOK := Kh hok
        clear hgh hok
        by_cases hj : j < bs.length
        · have hj' : (j : Int) < bs.length := by omega
          obtain ⟨kb, off, kc, e, _, hk1, hk2, hkr⟩ := HR.out.some_ (by rw [yN]; omega)
          rw [yN] at e hk1
          simp only [Value.slice.injEq] at e
          obtain ⟨rfl, _, rfl⟩ := e
          have hc := nG hkr j hj
          obtain ⟨u, hu⟩ : ∃ u, u = bs.getD j ⟨#[]⟩ := ⟨_, rfl⟩
          have hus : u.size ≤ maxLen := by rw [hu, zF hj]; exact HS.out j hj
          rw [← hu] at hc
          have HU : Hid (u = bs[j]) := Kh (by rw [hu, zF hj])
          clear hkr hu
          go_wp2_with (go_at_call 39; refine (tK u letters _ hus).mono ?_; rintro e w' ⟨rfl, rfl⟩)
          all_goals first
            | (go_ret
               exact ⟨yF (by rw [bE (by omega) (by omega) (by rw [← HTW.out]; omega) (by omega), okFrom_bad hj (by rw [← HU.out]; first | exact okBlock_no2 (by assumption) (by assumption) (by assumption) | exact okBlock_no1 (by assumption)) HOK.out]; rfl), HG.out⟩)
            | (go_roundg (bs.length - (j + 1))
               case rel => exact ⟨rfl, j + 1, by have := HGH.out; omega, by go_num, okFrom_step hj (okBlock_yes (by rw [← HU.out]; assumption) (by rw [← HU.out]; first | (left; omega) | (right; assumption))) HOK.out⟩
               case measure => have := HGH.out; omega)
        · have hj' : ¬ (j : Int) < bs.length := by omega
          have e : wB bs.length letters j (bs.drop j) = true := by rw [List.drop_eq_nil_of_le (by omega)]; rfl
          have HE := Kh e
          clear e
          go_wp2
          go_ret
          exact ⟨yF (by rw [bE (by omega) (by omega) (by rw [← HTW.out]; omega) (by omega), ← HOK.out, HE.out]; rfl), HG.out⟩
end Go.Proofs.Ytjfdomfendbhfaa
namespace Go.Proofs.Ytjfdomfendbhfaa
structure ChoV where
 p:Int
 y:Int
 n:Int
deriving Inhabited,DecidableEq
structure DiaV where
 pats:List (List ByteArray)
 chos:List ChoV
 root:Int
def refB (cs:List ChoV) (i:Nat) (p r:Int):Bool:=decide (0<=r/\r<=1+(i:Int)) && decide (r < 2\/p < (cs.getD (r.toNat - 2) default).p)
def choB (np:Nat) (cs:List ChoV) (i:Nat):Bool :=
 decide (0<=(cs.getD i default).p/\(cs.getD i default).p < np) && (refB cs i (cs.getD i default).p (cs.getD i default).y && refB cs i (cs.getD i default).p (cs.getD i default).n)
def wW (letters:Int):List (List ByteArray)->Int
 | []=>0
 | p :: ps=>if patW p letters=0 then wW letters ps else patW p letters
def iC (np:Nat) (cs:List ChoV) (root:Int):Int:=if (List.range cs.length).all (choB np cs)=true/\0<=root/\root<=1+(cs.length:Int) then 0 else 22
def diaE (g:DiaV) (letters:Int):Int :=
 if letters < 1\/6 < letters then 1 else if 300 < g.pats.length\/20000 < g.chos.length then 3
 else if wW letters g.pats=0 then iC g.pats.length g.chos g.root else wW letters g.pats
theorem iR {letters:Int} {ps:List (List ByteArray)} {k:Nat} (hk:k < ps.length) (h:patW (ps.getD k []) letters=0):wW letters (ps.drop (k+1))=wW letters (ps.drop k):=by
 rw[List.drop_eq_getElem_cons hk,wW,if_pos (by rw[zF hk]at h;exact h)]
theorem dG {letters:Int} {ps:List (List ByteArray)} {k:Nat} (hk:k < ps.length) (h:patW (ps.getD k []) letters≠0):wW letters (ps.drop k)=patW (ps.getD k []) letters:=by
 rw[List.drop_eq_getElem_cons hk,wW,if_neg (by rw[zF hk]at h;exact h),zF hk]
theorem dF {letters:Int} {ps:List (List ByteArray)} {k:Nat} (hk:¬ k < ps.length):wW letters (ps.drop k)=0:=by
 rw[List.drop_eq_nil_of_le (by omega)];rfl
theorem vA {letters:Int}:∀ {ps:List (List ByteArray)},wW letters ps=0 ↔ ∀ p∈ps,patW p letters=0
 | []=>by simp[wW]
 | p :: ps=>by
  rw[wW]
  split
  ·rename_i h;rw[vA];simp[h]
  ·rename_i h;simp[h]
def xD (np:Nat) (cs:List ChoV) (k:Nat):Prop:=∀ i,i < k->choB np cs i=true
theorem chosTo_zero (np:Nat) (cs:List ChoV):xD np cs 0:=fun i hi=>by omega
theorem oZ {np:Nat} {cs:List ChoV} {k:Nat} (h:xD np cs k) (hk:choB np cs k=true):xD np cs (k+1):=fun i hi=>by
 rcases Nat.lt_succ_iff_lt_or_eq.1 hi with hi|rfl
 ·exact h i hi
 ·exact hk
theorem nV {np:Nat} {cs:List ChoV} {root:Int} {k:Nat} (hk:k < cs.length) (h:choB np cs k=false):iC np cs root=22:=by
 unfold iC
 rw[if_neg]
 rintro ⟨h1,_⟩
 rw[List.all_eq_true]at h1
 have:=h1 k (List.mem_range.2 hk)
 rw[h]at this
 cases this
theorem cQ {np:Nat} {cs:List ChoV} {root:Int} {k:Nat} (hk:¬ k < cs.length) (h:xD np cs k):iC np cs root=if 0<=root/\root<=1+(cs.length:Int) then 0 else 22:=by
 unfold iC
 have:(List.range cs.length).all (choB np cs)=true:=List.all_eq_true.2 fun i hi=>h i (by have:=List.mem_range.1 hi;omega)
 rw[this];simp
theorem chosE_zero {np:Nat} {cs:List ChoV} {root:Int} (h:iC np cs root=0):xD np cs cs.length/\0<=root/\root<=1+(cs.length:Int):=by
 unfold iC at h
 split at h
 ·rename_i h1
  exact⟨fun i hi=>List.all_eq_true.1 h1.1 i (List.mem_range.2 hi),h1.2⟩
 ·omega
theorem chosE_of {np:Nat} {cs:List ChoV} {root:Int} (h:xD np cs cs.length) (h1:0<=root) (h2:root<=1+(cs.length:Int)):iC np cs root=0:=by
 rw[cQ (Nat.lt_irrefl _) h,if_pos ⟨h1,h2⟩]
theorem qZ {g:DiaV} {letters:Int} (h:diaE g letters=0):1<=letters/\letters<=6/\g.pats.length<=300/\g.chos.length<=20000/\(∀ p∈g.pats,patW p letters=0)/\xD g.pats.length g.chos g.chos.length/\0<=g.root/\g.root<=1+(g.chos.length:Int):=by
 unfold diaE at h
 split at h
 ·omega
 split at h
 ·omega
 split at h
 ·rename_i h3
  obtain⟨h4,h5,h6⟩:=chosE_zero h
  exact⟨by omega,by omega,by omega,by omega,vA.1 h3,h4,h5,h6⟩
 ·omega
theorem fX {g:DiaV} {letters:Int} (h1:1<=letters) (h2:letters<=6) (h3:g.pats.length<=300) (h4:g.chos.length<=20000) (h5:∀ p∈g.pats,patW p letters=0) (h6:xD g.pats.length g.chos g.chos.length) (h7:0<=g.root) (h8:g.root<=1+(g.chos.length:Int)):diaE g letters=0:=by
 unfold diaE
 rw[if_neg (by omega),if_neg (by omega),if_pos (vA.2 h5),chosE_of h6 h7 h8]
theorem aU {g:DiaV} {letters:Int} (h:letters < 1\/6 < letters):diaE g letters=1:=if_pos h
theorem aT {g:DiaV} {letters:Int} (h:¬ (letters < 1\/6 < letters)) (h2:300 < g.pats.length\/20000 < g.chos.length):diaE g letters=3:=by
 unfold diaE;rw[if_neg h,if_pos h2]
theorem diaE_pat {g:DiaV} {letters:Int} (h:¬ (letters < 1\/6 < letters)) (h2:¬ (300 < g.pats.length\/20000 < g.chos.length)) {k:Nat} (hk:k < g.pats.length) (h3:wW letters (g.pats.drop k)=wW letters g.pats) (h4:patW (g.pats.getD k []) letters≠0):diaE g letters=patW (g.pats.getD k []) letters:=by
 have e:=dG hk h4
 rw[h3]at e
 unfold diaE;rw[if_neg h,if_neg h2,if_neg (by rw[e];exact h4),e]
theorem diaE_cho {g:DiaV} {letters:Int} (h:¬ (letters < 1\/6 < letters)) (h2:¬ (300 < g.pats.length\/20000 < g.chos.length)) (h3:wW letters g.pats=0):diaE g letters=iC g.pats.length g.chos g.root:=by
 unfold diaE;rw[if_neg h,if_neg h2,if_pos h3]
def decF (cs:List ChoV) (m:Nat->Bool):Nat->Int->Bool
 | 0,r=>decide (r=1)
 | f+1,r=>if r < 2 then decide (r=1) else decF cs m f (if m (cs.getD (r.toNat - 2) default).p.toNat then (cs.getD (r.toNat - 2) default).y else (cs.getD (r.toNat - 2) default).n)
def decG (cs:List ChoV) (m:Nat->Bool) (r:Int):Bool:=decF cs m r.toNat r
theorem pD {np:Nat} {cs:List ChoV} {i:Nat} (h:choB np cs i=true):0<=(cs.getD i default).p/\(cs.getD i default).p < np/\0<=(cs.getD i default).y/\(cs.getD i default).y<=1+(i:Int)/\0<=(cs.getD i default).n/\(cs.getD i default).n<=1+(i:Int):=by
 simp only[choB,refB,Bool.and_eq_true,decide_eq_true_eq]at h
 omega
theorem jM {np:Nat} {cs:List ChoV} {m:Nat->Bool} (h:xD np cs cs.length):∀ (f:Nat) (r:Int) (e:Nat),r.toNat<=f->r<=1+(cs.length:Int)->decF cs m (f+e) r=decF cs m f r
 | 0,r,e,hf,_=>by
  cases e with
  | zero=>rfl
  | succ e=>rw[Nat.zero_add,decF,decF,if_pos (by omega)]
 | f+1,r,e,hf,hr=>by
  rw[show f+1+e=(f+e)+1 by omega,decF,decF]
  split
  ·rfl
  ·rename_i h2
   have hi:r.toNat - 2 < cs.length:=by omega
   have hc:=pD (h _ hi)
   split
   ·exact jM h f _ e (by omega) (by omega)
   ·exact jM h f _ e (by omega) (by omega)
theorem aX (cs:List ChoV) (m:Nat->Bool) {r:Int} (h:r < 2):decG cs m r=decide (r=1):=by
 unfold decG
 cases r.toNat with
 | zero=>rfl
 | succ f=>rw[decF,if_pos h]
theorem jL {np:Nat} {cs:List ChoV} {m:Nat->Bool} (h:xD np cs cs.length) {r:Int} (h2:2<=r) (hr:r<=1+(cs.length:Int)):decG cs m r=decG cs m (if m (cs.getD (r.toNat - 2) default).p.toNat then (cs.getD (r.toNat - 2) default).y else (cs.getD (r.toNat - 2) default).n):=by
 have hc:=pD (h (r.toNat - 2) (by omega))
 have hx:∀ x:Int,x.toNat<=r.toNat - 1->x<=1+(cs.length:Int)->decF cs m (r.toNat - 1) x=decG cs m x:=fun x h1 h3=>by
  have:=jM (m:=m) h x.toNat x (r.toNat - 1 - x.toNat) (Nat.le_refl _) h3
  rw[show x.toNat+(r.toNat - 1 - x.toNat)=r.toNat - 1 by omega]at this
  exact this
 have e:decG cs m r=decF cs m (r.toNat - 1) (if m (cs.getD (r.toNat - 2) default).p.toNat then (cs.getD (r.toNat - 2) default).y else (cs.getD (r.toNat - 2) default).n):=by
  have hf:r.toNat=(r.toNat - 1)+1:=by omega
  show decF cs m r.toNat r=_
  conv=>lhs;rw[hf]
  rw[decF,if_neg (by omega)]
 rw[e]
 refine hx _ ?_ ?_ <;> split <;> omega
end Go.Proofs.Ytjfdomfendbhfaa
