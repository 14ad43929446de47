/- Part 9 of the proof. -/
import Derived.Test.YtcoimliafiammaaGreatQa8
import Derived.Deep.DeepCutAuto
import Derived.BigQuiet
import Derived.Laws.IdiomCopy
import Derived.Deep.RegionLaw
import Derived.BigRegion
set_option linter.unusedVariables false
set_option linter.unusedSimpArgs false
set_option maxRecDepth 100000
set_option maxHeartbeats 16000000
namespace Go.Proofs.YtcoimliafiammaaGreat
open Go.RowKit
def txtV (bs:List ByteArray):List Value:=bs.map .string
theorem yD (bs:List ByteArray):(txtV bs).length=bs.length:=by simp[txtV]
theorem vL {w:World}{b off:Nat}{bs:List ByteArray}(h:uQ w b off (txtV bs))(i:Nat)(hi:i<bs.length):w.cell? ⟨b,off+i,none⟩=some (.string (bs.getD i ⟨#[]⟩)):=by
 rw[h.map i hi,zG hi]
def totW (bs:List ByteArray):Int:=bs.foldl (fun a b=>wrap64 (a+(b.size:Int))) 0
theorem eL (bs:List ByteArray)(k:Nat)(hk:k<bs.length):totW (bs.take (k+1))=wrap64 (totW (bs.take k)+((bs.getD k ⟨#[]⟩).size:Int)):=by
 rw[List.take_succ_eq_append_getElem hk,totW,List.foldl_append,zG hk];rfl
theorem qOW (bs:List ByteArray)(h:∀i (hi:i<bs.length),bs[i].size<=4294967296)(hl:bs.length<=4096):∀k,k<=bs.length->totW (bs.take k)=(rM (bs.take k):Int)/\rM (bs.take k)<=k*4294967296
 | 0,_=>⟨rfl,by simp[rM]⟩
 | k+1,hk=>by
  obtain⟨h1,h2⟩:=qOW bs h hl k (by omega)
  have h3:=h k (by omega)
  rw[eL bs k (by omega),h1,aB bs k (by omega),zG (show k<bs.length by omega)]
  refine⟨?_,by omega⟩
  rw[<-Int.natCast_add]
  exact IntWalk.wrap64_in _ (by omega)
def patW (bs:List ByteArray)(letters:Int):Int :=
 if letters<1\/6<letters then 1 else if 8<bs.length then 3 else if 64<totW bs then 3
 else if bs.length=0 then 22 else if vP bs.length letters 0 bs then 0 else 22
theorem qVM {bs:List ByteArray}{letters:Int}:∀ {n i:Nat},vP n letters i bs=true->∀j (hj:j<bs.length),bs[j].size<=2048:=by
 induction bs with
 | nil=>intro n i _ j hj;simp at hj
 | cons u us ih =>
  intro n i h j hj;rw[vP,Bool.and_eq_true]at h;cases j with
  | zero =>
   have h1:=h.1;simp only[tQ,zU,Bool.and_eq_true,decide_eq_true_eq]at h1;exact h1.1.1.2.2
  | succ j=>simpa using ih h.2 j (by simpa using hj)
theorem qMS {bs:List ByteArray}{letters:Int}(h:patW bs letters=0):¬(letters<1\/6<letters)/\¬8<bs.length/\¬64<totW bs/\¬bs.length=0/\vP bs.length letters 0 bs=true:=by
 unfold patW at h
 split at h
 ·omega
 split at h
 ·omega
 split at h
 ·omega
 split at h
 ·omega
 split at h
 ·exact⟨by assumption,by assumption,by assumption,by assumption,by assumption⟩
 omega
theorem dB {bs:List ByteArray}{letters:Int}(h1:¬(letters<1\/6<letters))(h2:¬8<bs.length)(h3:¬64<totW bs)(h4:¬bs.length=0):patW bs letters=if vP bs.length letters 0 bs then 0 else 22:=by
 unfold patW;rw[if_neg h1,if_neg h2,if_neg h3,if_neg h4]
theorem qJC {bs:List ByteArray}{letters:Int}(h2:¬8<bs.length)(h3:vP bs.length letters 0 bs=true):totW bs=(rM bs:Int):=by
 have hs:=qVM h3;have ht:=(qOW bs (fun i hi=>by have:=hs i hi;omega) (by omega) bs.length (Nat.le_refl _)).1
 rwa [List.take_length]at ht
theorem vO {bs:List ByteArray}{letters:Int}:patW bs letters=0↔yT bs letters=0:=by
 constructor
 ·intro h
  obtain⟨h1,h2,h3,h4,h5⟩:=qMS h;rw[kJ (by omega) (by omega) h2 (by have:=qJC h2 h5;omega) h4,if_pos h5]
 intro h;obtain⟨h1,h2,h3,h4,h5,h6⟩:=vH h;rw[dB (by omega) (by omega) (by have:=qJC (by omega) h6;omega) (by omega),if_pos h6]
theorem jU (B:Nat)(w:World)(v:Value)(bs:List ByteArray)(letters:Int)(h:Row B w v (txtV bs))(hs:∀i (hi:i<bs.length),bs[i].size<=maxLen):Calls Tryz.prog 34 #[.agg #[v],.int .i64 letters] w fun e w'=>e=.returned (.int .i64 (patW bs letters))/\w.grownBy w' none:=by
 have H0:=h.len_le;rw[yD]at H0;have H9:bs.length<=9223372036854775807:=by unfold maxLen at H0;omega
 have H:=Kh h;have HS:=Kh hs;obtain⟨a,cap,rfl⟩:=h.shape;rw[yD]at H⊢;clear h hs H0;by_cases h1:letters<1
 ·go_enter Tryz.func34,Tryz.ntmps34
  go_wp2;go_ret;exact⟨yA (by simp[patW,h1]),Ga _ _ _⟩
 by_cases h2:6<letters
 ·go_enter Tryz.func34,Tryz.ntmps34
  go_wp2;go_ret;exact⟨yA (by simp[patW,h2]),Ga _ _ _⟩
 by_cases h3:8<bs.length
 ·have a4:(8:Int)<bs.length:=by omega
  go_enter Tryz.func34,Tryz.ntmps34;go_wp2;go_ret;exact⟨yA (by simp[patW,h1,h2,h3]),Ga _ _ _⟩
 have a4:¬(8:Int)<bs.length:=by omega
 go_enter Tryz.func34,Tryz.ntmps34;go_wp2
 go_loopg [5,7,24] bs.length (fun gh t a7 i wr=>w.alloc (.cells #[.slice a bs.length cap] 65)=wr/\∃k:Nat,gh+k=bs.length/\i=.int .i64 k/\t=.int .i64 (totW (bs.take k)))
 case atStart=>exact⟨rfl,0,rfl,rfl,rfl⟩
 obtain⟨hw,k,h7,rfl,rfl⟩:=hrel;have h0:=Kh h7;clear h7;by_cases hlt:k<bs.length
 ·have H8:(k:Int)<bs.length:=by omega
  obtain⟨kb,off,kc,e,_,H1,a1,h6⟩:=(H.out.kept (Ga w (.cells #[.slice a bs.length cap] 65) none) (by simp)).some_ (by rw[yD];omega);rw[hw]at h6;rw[yD]at e H1;simp only[Value.slice.injEq]at e;obtain⟨rfl,_,rfl⟩:=e;have hc:=vL h6 k hlt;have H7:=Kh (eL bs k hlt);obtain⟨u,hu⟩:=Nm (bs.getD k ⟨#[]⟩)
  have H3:u.size<=9223372036854775807:=by
   rw[hu,zG hlt];have:=HS.out k hlt;unfold maxLen at this;omega
  rw[<-hu]at hc H7;have HW:=Kh hw;clear h6 hu hw;go_wp2;go_roundg (bs.length-(k+1))
  case measure=>have:=h0.out;omega
  exact⟨HW.out,k+1,by have:=h0.out;omega,by go_num,by rw[H7.out]⟩
 have H6:k=bs.length:=by have:=h0.out;omega
 have HT:Hid (totW (bs.take k)=totW bs):=Kh (by rw[H6,List.take_length]);rw[HT.out];have a0:¬(k:Int)<bs.length:=(by omega);have HG:Hid (w.grownBy wr none):=Kh (by rw[<-hw];exact Ga _ _ _);have hb:=heap_alloc_new w (.cells #[.slice a bs.length cap] 65);rw[hw]at hb;have c0:wr.cell? ⟨w.heap.size,0,none⟩=some (.slice a bs.length cap):=by simpa using zJ hb 0
 have HR:Hid (Row B wr (.slice a bs.length cap) (txtV bs)):=Kh (H.out.kept HG.out (by simp));clear H6 hw hb h0;obtain⟨tw,h9⟩:=Nm (totW bs);rw[<-h9];have h8:=Kh h9;clear h9;by_cases h4:64<tw
 ·go_wp2
  go_ret;exact⟨yA (by rw[patW,if_neg (by omega),if_neg (by omega),if_pos (by rw[<-h8.out];omega)]),HG.out⟩
 by_cases h5:bs.length=0
 ·have a3:((bs.length:Int) == 0)=true:=by simp[h5]
  have H5:=Kh h5;clear h5;go_wp2;go_ret;exact⟨yA (by rw[patW,if_neg (by omega),if_neg (by omega),if_neg (by rw[<-h8.out];omega),if_pos H5.out]),HG.out⟩
 have a3:((bs.length:Int) == 0)=false:=by rw[beq_eq_false_iff_ne];omega
 go_wp2
 go_loopg [8,9,42] bs.length (fun gh a8 a9 i wq=>wr=wq/\∃k:Nat,gh+k=bs.length/\i=.int .i64 k/\vP bs.length letters k (bs.drop k)=vP bs.length letters 0 bs)
 case atStart=>exact⟨rfl,0,rfl,rfl,rfl⟩
 obtain⟨rfl,j,h7,rfl,H4⟩:=hrel;have h0:=Kh h7;have H2:=Kh H4;clear h7 H4;by_cases hj:j<bs.length
 ·have a2:(j:Int)<bs.length:=by omega
  obtain⟨kb,off,kc,e,_,H1,a1,h6⟩:=HR.out.some_ (by rw[yD];omega);rw[yD]at e H1;simp only[Value.slice.injEq]at e;obtain⟨rfl,_,rfl⟩:=e;have hc:=vL h6 j hj;obtain⟨u,hu⟩:=Nm (bs.getD j ⟨#[]⟩);have H3:u.size<=maxLen:=by rw[hu,zG hj];exact HS.out j hj
  rw[<-hu]at hc;have HU:Hid (u=bs[j]):=Kh (by rw[hu,zG hj]);clear h6 hu;go_wp2_with (go_at_call 53;refine(oT u letters _ H3).mono ?_;rintro e w' ⟨rfl,rfl⟩)
  all_goals first
   |
    go_ret;exact⟨yA (by rw[dB (by omega) (by omega) (by rw[<-h8.out];omega) (by omega),aV hj (by rw[<-HU.out];first|exact dH (by assumption) (by assumption) (by assumption)|exact dI (by assumption)) H2.out];rfl),HG.out⟩
   |
    go_roundg (bs.length-(j+1))
    case rel=>exact⟨rfl,j+1,by have:=h0.out;omega,by go_num,dE hj (dG (by rw[<-HU.out];assumption) (by rw[<-HU.out];first|(left;omega)|(right;assumption))) H2.out⟩
    have:=h0.out;omega
 have a2:¬(j:Int)<bs.length:=by omega
 have e:vP bs.length letters j (bs.drop j)=true:=by rw[List.drop_eq_nil_of_le (by omega)];rfl
 have HE:=Kh e;clear e;go_wp2;go_ret;exact⟨yA (by rw[dB (by omega) (by omega) (by rw[<-h8.out];omega) (by omega),<-H2.out,HE.out];rfl),HG.out⟩
end Go.Proofs.YtcoimliafiammaaGreat
namespace Go.Proofs.YtcoimliafiammaaGreat
structure ChoV where
 p:Int
 y:Int
 n:Int
deriving Inhabited,DecidableEq
structure DiaV where
 pats:List (List ByteArray)
 chos:List ChoV
 root:Int
def refB (cs:List ChoV)(i:Nat)(p r:Int):Bool:=decide (0<=r/\r<=1+(i:Int)) && decide (r<2\/p<(cs.getD (r.toNat-2) default).p)
def choB (np:Nat)(cs:List ChoV)(i:Nat):Bool :=
 decide (0<=(cs.getD i default).p/\(cs.getD i default).p<np) && (refB cs i (cs.getD i default).p (cs.getD i default).y && refB cs i (cs.getD i default).p (cs.getD i default).n)
def vV (letters:Int):List (List ByteArray)->Int
 | []=>0
 | p::ps=>if patW p letters=0 then vV letters ps else patW p letters
def bA (np:Nat)(cs:List ChoV)(root:Int):Int:=if (List.range cs.length).all (choB np cs)=true/\0<=root/\root<=1+(cs.length:Int) then 0 else 22
def diaE (g:DiaV)(letters:Int):Int :=
 if letters<1\/6<letters then 1 else if 300<g.pats.length\/20000<g.chos.length then 3
 else if vV letters g.pats=0 then bA g.pats.length g.chos g.root else vV letters g.pats
theorem lL {letters:Int}{ps:List (List ByteArray)}{k:Nat}(hk:k<ps.length)(h:patW (ps.getD k []) letters=0):vV letters (ps.drop (k+1))=vV letters (ps.drop k):=by
 rw[List.drop_eq_getElem_cons hk,vV,if_pos (by rw[zG hk]at h;exact h)]
theorem dA {letters:Int}{ps:List (List ByteArray)}{k:Nat}(hk:k<ps.length)(h:patW (ps.getD k []) letters≠0):vV letters (ps.drop k)=patW (ps.getD k []) letters:=by
 rw[List.drop_eq_getElem_cons hk,vV,if_neg (by rw[zG hk]at h;exact h),zG hk]
theorem jW {letters:Int}{ps:List (List ByteArray)}{k:Nat}(hk:¬k<ps.length):vV letters (ps.drop k)=0:=by
 rw[List.drop_eq_nil_of_le (by omega)];rfl
theorem tE {letters:Int}:∀ {ps:List (List ByteArray)},vV letters ps=0↔∀p∈ps,patW p letters=0
 | []=>by simp[vV]
 | p::ps=>by
  rw[vV]
  split
  ·rename_i h;rw[tE];simp[h]
  ·rename_i h;simp[h]
def wT (np:Nat)(cs:List ChoV)(k:Nat):Prop:=∀i,i<k->choB np cs i=true
theorem cY (np:Nat)(cs:List ChoV):wT np cs 0:=fun i hi=>by omega
theorem jE {np:Nat}{cs:List ChoV}{k:Nat}(h:wT np cs k)(hk:choB np cs k=true):wT np cs (k+1):=fun i hi=>by
 rcases Nat.lt_succ_iff_lt_or_eq.1 hi with hi|rfl
 ·exact h i hi
 ·exact hk
theorem sV {np:Nat}{cs:List ChoV}{root:Int}{k:Nat}(hk:k<cs.length)(h:choB np cs k=false):bA np cs root=22:=by
 unfold bA;rw[if_neg];rintro ⟨h1,_⟩;rw[List.all_eq_true]at h1;have:=h1 k (List.mem_range.2 hk);rw[h]at this;cases this
theorem cZ {np:Nat}{cs:List ChoV}{root:Int}{k:Nat}(hk:¬k<cs.length)(h:wT np cs k):bA np cs root=if 0<=root/\root<=1+(cs.length:Int) then 0 else 22:=by
 unfold bA;have:(List.range cs.length).all (choB np cs)=true:=List.all_eq_true.2 fun i hi=>h i (by have:=List.mem_range.1 hi;omega);rw[this];simp
theorem qNY {np:Nat}{cs:List ChoV}{root:Int}(h:bA np cs root=0):wT np cs cs.length/\0<=root/\root<=1+(cs.length:Int):=by
 unfold bA at h
 split at h
 ·rename_i h1
  exact⟨fun i hi=>List.all_eq_true.1 h1.1 i (List.mem_range.2 hi),h1.2⟩
 omega
theorem qXS {np:Nat}{cs:List ChoV}{root:Int}(h:wT np cs cs.length)(h1:0<=root)(h2:root<=1+(cs.length:Int)):bA np cs root=0:=by
 rw[cZ (Nat.lt_irrefl _) h,if_pos ⟨h1,h2⟩]
theorem cM {g:DiaV}{letters:Int}(h:diaE g letters=0):1<=letters/\letters<=6/\g.pats.length<=300/\g.chos.length<=20000/\(∀p∈g.pats,patW p letters=0)/\wT g.pats.length g.chos g.chos.length/\0<=g.root/\g.root<=1+(g.chos.length:Int):=by
 unfold diaE at h
 split at h
 ·omega
 split at h
 ·omega
 split at h
 ·rename_i h3
  obtain⟨h4,h5,h6⟩:=qNY h;exact⟨by omega,by omega,by omega,by omega,tE.1 h3,h4,h5,h6⟩
 omega
theorem qST {g:DiaV}{letters:Int}(h1:1<=letters)(h2:letters<=6)(h3:g.pats.length<=300)(h4:g.chos.length<=20000)(h5:∀p∈g.pats,patW p letters=0)(h6:wT g.pats.length g.chos g.chos.length)(h7:0<=g.root)(h8:g.root<=1+(g.chos.length:Int)):diaE g letters=0:=by
 unfold diaE;rw[if_neg (by omega),if_neg (by omega),if_pos (tE.2 h5),qXS h6 h7 h8]
theorem qCF {g:DiaV}{letters:Int}(h:letters<1\/6<letters):diaE g letters=1:=if_pos h
theorem eC {g:DiaV}{letters:Int}(h:¬(letters<1\/6<letters))(h2:300<g.pats.length\/20000<g.chos.length):diaE g letters=3:=by
 unfold diaE;rw[if_neg h,if_pos h2]
theorem qKS {g:DiaV}{letters:Int}(h:¬(letters<1\/6<letters))(h2:¬(300<g.pats.length\/20000<g.chos.length)){k:Nat}(hk:k<g.pats.length)(h3:vV letters (g.pats.drop k)=vV letters g.pats)(h4:patW (g.pats.getD k []) letters≠0):diaE g letters=patW (g.pats.getD k []) letters:=by
 have e:=dA hk h4;rw[h3]at e;unfold diaE;rw[if_neg h,if_neg h2,if_neg (by rw[e];exact h4),e]
theorem qKT {g:DiaV}{letters:Int}(h:¬(letters<1\/6<letters))(h2:¬(300<g.pats.length\/20000<g.chos.length))(h3:vV letters g.pats=0):diaE g letters=bA g.pats.length g.chos g.root:=by
 unfold diaE;rw[if_neg h,if_neg h2,if_pos h3]
def decF (cs:List ChoV)(m:Nat->Bool):Nat->Int->Bool
 | 0,r=>decide (r=1)
 | f+1,r=>if r<2 then decide (r=1) else decF cs m f (if m (cs.getD (r.toNat-2) default).p.toNat then (cs.getD (r.toNat-2) default).y else (cs.getD (r.toNat-2) default).n)
def decG (cs:List ChoV)(m:Nat->Bool)(r:Int):Bool:=decF cs m r.toNat r
theorem qY {np:Nat}{cs:List ChoV}{i:Nat}(h:choB np cs i=true):0<=(cs.getD i default).p/\(cs.getD i default).p<np/\0<=(cs.getD i default).y/\(cs.getD i default).y<=1+(i:Int)/\0<=(cs.getD i default).n/\(cs.getD i default).n<=1+(i:Int):=by
 simp only[choB,refB,Bool.and_eq_true,decide_eq_true_eq]at h;omega
theorem cQ {np:Nat}{cs:List ChoV}{m:Nat->Bool}(h:wT np cs cs.length):∀(f:Nat) (r:Int) (e:Nat),r.toNat<=f->r<=1+(cs.length:Int)->decF cs m (f+e) r=decF cs m f r
 | 0,r,e,hf,_=>by
  cases e with
  | zero=>rfl
  | succ e=>rw[Nat.zero_add,decF,decF,if_pos (by omega)]
 | f+1,r,e,hf,hr=>by
  rw[show f+1+e=(f+e)+1 by omega,decF,decF]
  split
  ·rfl
  ·rename_i h2
   have hi:r.toNat-2<cs.length:=by omega
   have hc:=qY (h _ hi)
   split
   ·exact cQ h f _ e (by omega) (by omega)
   ·exact cQ h f _ e (by omega) (by omega)
theorem qCG (cs:List ChoV)(m:Nat->Bool){r:Int}(h:r<2):decG cs m r=decide (r=1):=by
 unfold decG;cases r.toNat with
 | zero=>rfl
 | succ f=>rw[decF,if_pos h]
theorem iO {np:Nat}{cs:List ChoV}{m:Nat->Bool}(h:wT np cs cs.length){r:Int}(h2:2<=r)(hr:r<=1+(cs.length:Int)):decG cs m r=decG cs m (if m (cs.getD (r.toNat-2) default).p.toNat then (cs.getD (r.toNat-2) default).y else (cs.getD (r.toNat-2) default).n):=by
 have hc:=qY (h (r.toNat-2) (by omega))
 have hx:∀x:Int,x.toNat<=r.toNat-1->x<=1+(cs.length:Int)->decF cs m (r.toNat-1) x=decG cs m x:=fun x h1 h3=>by
  have:=cQ (m:=m) h x.toNat x (r.toNat-1-x.toNat) (Nat.le_refl _) h3;rw[show x.toNat+(r.toNat-1-x.toNat)=r.toNat-1 by omega]at this;exact this
 have e:decG cs m r=decF cs m (r.toNat-1) (if m (cs.getD (r.toNat-2) default).p.toNat then (cs.getD (r.toNat-2) default).y else (cs.getD (r.toNat-2) default).n):=by
  have hf:r.toNat=(r.toNat-1)+1:=by omega
  show decF cs m r.toNat r=_
  conv=>lhs;rw[hf]
  rw[decF,if_neg (by omega)]
 rw[e];refine hx _ ?_ ?_<;>split<;>omega
open Go.RowKit
theorem xG {w w':World}{p:Addr}{u:Value}(h:w.cell? p=some u)(hg:w.grownBy w' none):w'.cell? p=some u:=(World.cell?_of_block (hg.block p.block (World.block_lt_of_cell? w p h) (by simp))).trans h
def vE (B:Nat)(w:World)(v:Value)(ps:List (List ByteArray)):Prop :=
 ∃svs,Row B w v svs/\svs.length=ps.length/\∀i (h1:i<svs.length) (h2:i<ps.length),Row B w svs[i] (txtV ps[i])/\∀j (hj:j<ps[i].length),ps[i][j].size<=maxLen
section
variable {B:Nat} {w:World} {v:Value} {ps:List (List ByteArray)}
theorem vE.kept {w':World}{row:Option Nat}(h:vE B w v ps)(hg:w.grownBy w' row)(hr:∀k,row=some k->B<=k):vE B w' v ps:=by
 obtain⟨svs,h1,h2,h3⟩:=h;exact⟨svs,h1.kept hg hr,h2,fun i h4 h5=>⟨(h3 i h4 h5).1.kept hg hr,(h3 i h4 h5).2⟩⟩
theorem vE.mono {B':Nat}(h:vE B w v ps)(hB:B<=B'):vE B' w v ps:=by
 obtain⟨svs,h1,h2,h3⟩:=h;exact⟨svs,h1.mono hB,h2,fun i h4 h5=>⟨(h3 i h4 h5).1.mono hB,(h3 i h4 h5).2⟩⟩
theorem vE.shape (h:vE B w v ps):∃a c,v=.slice a ps.length c:=by
 obtain⟨svs,h1,h2,h3⟩:=h;obtain⟨a,c,rfl⟩:=h1.shape;exact⟨a,c,by rw[h2]⟩
theorem vE.len_le (h:vE B w v ps):ps.length<=maxLen:=by
 obtain⟨svs,h1,h2,h3⟩:=h;rw[<-h2];exact h1.len_le
theorem vE.nil (a:Option Addr)(c:Nat):vE B w (.slice a 0 c) []:=⟨[],.inl ⟨a,c,rfl,rfl⟩,rfl,fun i h=>by simp at h⟩
theorem vE.at_ (h:vE B w v ps)(h0:0<ps.length):∃b off cap,v=.slice (some ⟨b,off,none⟩) ps.length cap/\b<B/\ps.length<=cap/\cap<=maxLen/\∀i,i<ps.length->∃sa sc,w.cell? ⟨b,off+i,none⟩=some (.slice sa (ps.getD i []).length sc)/\Row B w (.slice sa (ps.getD i []).length sc) (txtV (ps.getD i []))/\∀j (hj:j<(ps.getD i []).length),(ps.getD i [])[j].size<=maxLen:=by
 obtain⟨svs,h1,h2,h3⟩:=h;obtain⟨b,off,cap,rfl,hb,hc,hm,h7⟩:=h1.some_ (by omega);refine⟨b,off,cap,by rw[h2],hb,by omega,hm,fun i hi=>?_⟩;have h6:i<svs.length:=by omega
 obtain⟨h4,h5⟩:=h3 i h6 hi;obtain⟨sa,sc,e⟩:=h4.shape;rw[yD]at e;have hc:=h7.2 i h6;have e2:ps.getD i []=ps[i]:=zG hi;rw[e2];refine⟨sa,sc,by rw[hc,e],by rw[<-e];exact h4,h5⟩
end
structure ChosO (w:World)(g off:Nat)(cs:List ChoV):Prop where
 lt:g<w.heap.size
 p:∀i,i<cs.length->w.cell? ⟨g,off+i*3,none⟩=some (.int .i64 (cs.getD i default).p)
 y:∀i,i<cs.length->w.cell? ⟨g,off+i*3+1,none⟩=some (.int .i64 (cs.getD i default).y)
 n:∀i,i<cs.length->w.cell? ⟨g,off+i*3+2,none⟩=some (.int .i64 (cs.getD i default).n)
theorem ChosO.kept {w w':World}{g off:Nat}{cs:List ChoV}{row:Option Nat}(h:ChosO w g off cs)(hg:w.grownBy w' row)(hr:row≠some g):ChosO w' g off cs:=by
 have hb:=hg.block g h.lt (fun e=>hr e.symm);exact⟨Nat.lt_of_lt_of_le h.lt hg.size,fun i hi=>(World.cell?_of_block hb).trans (h.p i hi),fun i hi=>(World.cell?_of_block hb).trans (h.y i hi),fun i hi=>(World.cell?_of_block hb).trans (h.n i hi)⟩
def pD (B:Nat)(w:World)(v:Value)(cs:List ChoV):Prop :=
 (∃a cap,v=.slice a 0 cap/\cs=[])\/∃b off cap,v=.slice (some ⟨b,off,none⟩) cs.length cap/\b<B/\cs.length<=cap/\cap<=maxLen/\ChosO w b off cs
section
variable {B:Nat} {w:World} {v:Value} {cs:List ChoV}
theorem pD.kept {w':World}{row:Option Nat}(h:pD B w v cs)(hg:w.grownBy w' row)(hr:∀k,row=some k->B<=k):pD B w' v cs:=by
 rcases h with h|⟨b,off,cap,h1,h2,h3,h4,h5⟩
 ·exact .inl h
 exact .inr ⟨b,off,cap,h1,h2,h3,h4,h5.kept hg (fun e=>by have:=hr b e;omega)⟩
theorem pD.mono {B':Nat}(h:pD B w v cs)(hB:B<=B'):pD B' w v cs:=by
 rcases h with h|⟨b,off,cap,h1,h2,h3⟩
 ·exact .inl h
 exact .inr ⟨b,off,cap,h1,by omega,h3⟩
theorem pD.shape (h:pD B w v cs):∃a c,v=.slice a cs.length c:=by
 rcases h with ⟨a,c,rfl,rfl⟩|⟨b,off,cap,rfl,_⟩
 ·exact⟨a,c,rfl⟩
 exact⟨_,_,rfl⟩
theorem pD.len_le (h:pD B w v cs):cs.length<=maxLen:=by
 rcases h with ⟨a,c,rfl,rfl⟩|⟨b,off,cap,rfl,h1,h2,h3,_⟩
 ·exact Nat.zero_le _
 omega
theorem pD.at_ (h:pD B w v cs)(h0:0<cs.length):∃b off cap,v=.slice (some ⟨b,off,none⟩) cs.length cap/\b<B/\cs.length<=cap/\cap<=maxLen/\ChosO w b off cs:=by
 rcases h with ⟨a,c,rfl,rfl⟩|h
 ·simp at h0
 exact h
end
def mB (B:Nat)(w:World)(v:Value)(g:DiaV):Prop:=∃pv cv,v=.agg #[pv,cv,.int .i64 g.root]/\vE B w pv g.pats/\pD B w cv g.chos
theorem mB.kept {B:Nat}{w w':World}{v:Value}{g:DiaV}{row:Option Nat}(h:mB B w v g)(hg:w.grownBy w' row)(hr:∀k,row=some k->B<=k):mB B w' v g:=by
 obtain⟨pv,cv,h1,h2,h3⟩:=h;exact⟨pv,cv,h1,h2.kept hg hr,h3.kept hg hr⟩
theorem mB.mono {B B':Nat}{w:World}{v:Value}{g:DiaV}(h:mB B w v g)(hB:B<=B'):mB B' w v g:=by
 obtain⟨pv,cv,h1,h2,h3⟩:=h;exact⟨pv,cv,h1,h2.mono hB,h3.mono hB⟩
theorem zQ {w:World}{p e:Nat}{x0 x1 x2:Value}{m:Nat×Nat}(h:w.heap[p]?=some (.cells #[x0,x1,x2] e m)):w.cell? ⟨p,0,none⟩=some x0/\w.cell? ⟨p,1,none⟩=some x1/\w.cell? ⟨p,2,none⟩=some x2:=by
 have c0:=zJ h 0;have c1:=zJ h 1;have c2:=zJ h 2;exact⟨by simpa using c0,by simpa using c1,by simpa using c2⟩
theorem wK {w:World}{p e:Nat}{x0 x1 x2:Value}(h:w.heap[p]?=some (.cells #[x0,x1,x2] e (0,0))):
  w.frozen? ⟨p,0,none⟩=false/\w.frozen? ⟨p,1,none⟩=false/\w.frozen? ⟨p,2,none⟩=false/\p<w.heap.size/\w.cell? ⟨p,0,none⟩=some x0/\w.cell? ⟨p,1,none⟩=some x1/\w.cell? ⟨p,2,none⟩=some x2 :=
 ⟨zF h 0,zF h 1,zF h 2,zM h,zQ h⟩
theorem uP {w:World}{p e:Nat}{x0 x1 x2:Value}(h:w.heap[p]?=some (.cells #[x0,x1,x2] e (0,0)))(y0 y1 y2:Value):∃w',w'=((w.setCell ⟨p,0,none⟩ y0).setCell ⟨p,1,none⟩ y1).setCell ⟨p,2,none⟩ y2/\w.grownBy w' (some p)/\w'.heap[p]?=some (.cells #[y0,y1,y2] e (0,0))/\w'.cell? ⟨p,0,none⟩=some y0/\w'.cell? ⟨p,1,none⟩=some y1/\w'.cell? ⟨p,2,none⟩=some y2:=by
 have g1:=zC (zC (zD w ⟨p,0,none⟩ y0) (zD _ ⟨p,1,none⟩ y1)) (zD _ ⟨p,2,none⟩ y2);have z1:=heap_setCell_same _ p 2 _ _ y2 (heap_setCell_same _ p 1 _ _ y1 (heap_setCell_same w p 0 _ _ y0 h));simp only[Array.setIfInBounds,List.size_toArray,List.length_cons,List.length_nil]at z1;exact⟨_,rfl,g1,z1,zQ z1⟩
theorem iM:ElemN Tryz.prog 82 30 4 (.agg #[.int .i64 0,.int .i64 0,.slice none 0 0,.slice none 0 0]) 64:=⟨by kernel_rfl,by kernel_rfl,by rfl,by decide⟩
def dval (x:DfaV×Value×Value):List Value:=[.int .i64 x.1.letters,.int .i64 x.1.start,x.2.1,x.2.2]
def jC (l:List (DfaV×Value×Value)):List Value:=l.flatMap dval
theorem qNQ (l:List (DfaV×Value×Value))(x:DfaV×Value×Value):jC (l++[x])=jC l++dval x:=by simp[jC]
theorem qFP:∀(l:List (DfaV×Value×Value)) (i:Nat) (h:i<l.length),(jC l)[i*4]?=some (.int .i64 l[i].1.letters)/\(jC l)[i*4+1]?=some (.int .i64 l[i].1.start)/\(jC l)[i*4+2]?=some l[i].2.1/\(jC l)[i*4+3]?=some l[i].2.2
 | [],i,h=>by simp at h
 | x::l,0,_=>⟨rfl,rfl,rfl,rfl⟩
 | x::l,i+1,h=>by
  have h1:=qFP l i (by simpa using h)
  have e:jC (x::l)=.int .i64 x.1.letters::.int .i64 x.1.start::x.2.1::x.2.2::jC l:=rfl
  rw[e,show (i+1)*4=i*4+1+1+1+1 by omega]
  rw[show i*4+1+1+1+1+1=(i*4+1)+1+1+1+1 by omega,show i*4+1+1+1+1+2=(i*4+2)+1+1+1+1 by omega,show i*4+1+1+1+1+3=(i*4+3)+1+1+1+1 by omega]
  simpa using h1
structure DsUp (base:Nat)(w:World)(v:Value)(l:List (DfaV×Value×Value)):Prop where
 own:w.ownsRow base 30 4 v l.length (jC l)
 ok:∀x∈l,DfaT w x.2.1 x.2.2 x.1
section
variable {base:Nat} {w w':World} {v:Value} {l:List (DfaV×Value×Value)}
theorem DsUp.grow (h:DsUp base w v l)(hg:w.grownBy w' none):DsUp base w' v l:=⟨zP h.own hg,fun x hx=>(h.ok x hx).grow hg⟩
theorem DsUp.other {n:Nat}{xs:List Value}(h:w.ownsRow base 30 4 v n xs):∀k,v.ownBlock=some k->yC w 4 k/\yC w 22 k/\yC w 3 k:=fun k hk=>⟨zZ h (by decide) k hk,zZ h (by decide) k hk,zZ h (by decide) k hk⟩
theorem DsUp.push {v':Value}{x:DfaV×Value×Value}(h:DsUp base w v l)(hx:DfaT w x.2.1 x.2.2 x.1)(ho:w'.ownsRow base 30 4 v' (l.length+1) (jC l++dval x))(hg:w.grownBy w' v.ownBlock):DsUp base w' v' (l++[x]) :=
 ⟨by rw[qNQ,List.length_append];exact ho,fun y hy=>by
  have hot:∀k,v.ownBlock=some k->yC w 4 k/\yC w 22 k/\yC w 3 k:=DsUp.other h.own
  rcases List.mem_append.1 hy with hy|hy
  ·exact(h.ok y hy).kept hg hot
  ·simp at hy;subst hy;exact hx.kept hg hot⟩
end
structure DsO (B:Nat)(w:World)(g off:Nat)(ds:List DfaV):Prop where
 lt:g<w.heap.size
 gB:g<B
 at_:∀i,i<ds.length->∃f nx,w.cell? ⟨g,off+i*4,none⟩=some (.int .i64 (ds.getD i dN).letters)/\w.cell? ⟨g,off+i*4+1,none⟩=some (.int .i64 (ds.getD i dN).start)/\w.cell? ⟨g,off+i*4+2,none⟩=some f/\w.cell? ⟨g,off+i*4+3,none⟩=some nx/\tM B w (.agg #[.int .i64 (ds.getD i dN).letters,.int .i64 (ds.getD i dN).start,f,nx]) (ds.getD i dN)
theorem DsO.kept {B:Nat}{w w':World}{g off:Nat}{ds:List DfaV}{row:Option Nat}(h:DsO B w g off ds)(hg:w.grownBy w' row)(hr:∀k,row=some k->B<=k):DsO B w' g off ds:=by
 have hb:=hg.block g h.lt (fun e=>by have:=hr g e.symm;have:=h.gB;omega);refine⟨Nat.lt_of_lt_of_le h.lt hg.size,h.gB,fun i hi=>?_⟩;obtain⟨f,nx,h1,h2,h3,h4,h5⟩:=h.at_ i hi;exact⟨f,nx,(World.cell?_of_block hb).trans h1,(World.cell?_of_block hb).trans h2,(World.cell?_of_block hb).trans h3,(World.cell?_of_block hb).trans h4,h5.kept hg hr⟩
def DsIn (B:Nat)(w:World)(v:Value)(ds:List DfaV):Prop :=
 (∃a cap,v=.slice a 0 cap/\ds=[])\/∃b off cap,v=.slice (some ⟨b,off,none⟩) ds.length cap/\ds.length<=cap/\cap<=maxLen/\DsO B w b off ds
theorem DsIn.kept {B:Nat}{w w':World}{v:Value}{ds:List DfaV}{row:Option Nat}(h:DsIn B w v ds)(hg:w.grownBy w' row)(hr:∀k,row=some k->B<=k):DsIn B w' v ds:=by
 rcases h with h|⟨b,off,cap,h1,h2,h3,h4⟩
 ·exact .inl h
 exact .inr ⟨b,off,cap,h1,h2,h3,h4.kept hg hr⟩
theorem DsIn.shape {B:Nat}{w:World}{v:Value}{ds:List DfaV}(h:DsIn B w v ds):∃a c,v=.slice a ds.length c:=by
 rcases h with ⟨a,c,rfl,rfl⟩|⟨b,off,cap,rfl,_⟩
 ·exact⟨a,c,rfl⟩
 exact⟨_,_,rfl⟩
theorem DsIn.head {B:Nat}{w:World}{v:Value}{ds:List DfaV}(h:DsIn B w v ds)(h0:0<ds.length):∃b off cap,v=.slice (some ⟨b,off,none⟩) ds.length cap/\ds.length<=cap/\cap<=maxLen/\DsO B w b off ds:=by
 rcases h with ⟨a,c,rfl,rfl⟩|h
 ·simp at h0
 exact h
theorem DsUp.in_ {base:Nat}{w:World}{v:Value}{l:List (DfaV×Value×Value)}(h:DsUp base w v l):DsIn w.heap.size w v (l.map (·.1)):=by
 have h5:∀g j,(⟨g,0,none⟩:Addr).add j=⟨g,j,none⟩:=fun g j=>by unfold Addr.add;split<;>simp_all
 rcases h.own.2 with ⟨rfl,h0⟩|⟨g,cap,cur,rfl,hb,hg,hnc,hcm,_⟩
 ·exact .inl ⟨_,_,rfl,by rw[List.map_eq_nil_iff];exact List.eq_nil_of_length_eq_zero h0⟩
 refine .inr ⟨g,0,cap,by rw[List.length_map],by rw[List.length_map];exact hnc,hcm,zM hg,zM hg,fun i hi=>?_⟩;rw[List.length_map]at hi;obtain⟨h1,h2,h3,h4⟩:=qFP l i hi;have c1:=h.own.cells (g:=g) rfl _ _ h1;have c2:=h.own.cells (g:=g) rfl _ _ h2;have c3:=h.own.cells (g:=g) rfl _ _ h3;have c4:=h.own.cells (g:=g) rfl _ _ h4;rw[h5]at c1 c2 c3 c4;have e:(l.map (·.1)).getD i dN=l[i].1:=by rw[zG (by simpa using hi)];simp
 rw[e,Nat.zero_add];exact⟨_,_,c1,c2,c3,c4,(h.ok _ (List.getElem_mem hi)).ok⟩
theorem xBR {P:Program}{w:World}{ops:Array Oper}{a9:List Oper}{o:Oper}{a:Act}{Q:Exit->Act->World->Prop}(a8:o.guard=none)(l c:Operand)(t:TypeId)(ho:o.op=.makeSlice t l c){e:TypeId}{sz:Nat}{z:Value}{bytes:Nat}(E:ElemN P t e sz z bytes)(kl kc:IntKind)(C:Int)(n:Nat)(hl:a.eval l=.int kl 0)(hc:a.eval c=.int kc C)(hC:C=(n:Int))(hb:bytes*n<=281474976710656)(a7:n<=maxLen)(h:∀w',w'.ownsRow w.heap.size e sz (.slice (some ⟨w.heap.size,0,none⟩) 0 n) 0 []->w.grownBy w' none->wpList P ops Q a9 (a.put o.dst (.slice (some ⟨w.heap.size,0,none⟩) 0 n)) w'):wpList P ops Q (o::a9) a w:=by
 obtain⟨i,hi,h0,h1,h2⟩:=info_parts E.hi;exact wpList_make_own w a8 l c t ho w.heap.size e i z sz E.ht hi h0 h1 kl kc C n hl hc hC (by rw[h2];exact hb) a7 (Nat.le_refl _) h
end Go.Proofs.YtcoimliafiammaaGreat
namespace Go.Proofs.YtcoimliafiammaaGreat
def TlN:List (List Nat)->List Nat->Prop
 | [],r=>r=[]
 | u::us,r=>∃p r',r=p++u++r'/\TlN us r'
def PatN:List (List Nat)->List Nat->Prop
 | [],_=>False
 | b::us,s=>∃r,s=b++r/\TlN us r
theorem TlN.more {us:List (List Nat)}{r:List Nat}(p:List Nat)(h0:us≠[])(h:TlN us r):TlN us (p++r):=by
 match us,h0,h with
 | u::us,_,⟨q,r',h,ht⟩=>exact⟨p++q,r',by rw[h];simp only[List.append_assoc],ht⟩
def qBW (u t:List Nat):Nat->Nat
 | 0=>0
 | l+1=>if u.take (l+1) <:+ t then l+1 else qBW u t l
def kmp (u t:List Nat):Nat:=qBW u t u.length
theorem qKJ (u t:List Nat):∀l,qBW u t l<=l
 | 0=>Nat.le_refl _
 | l+1=>by
  unfold qBW
  split
  ·exact Nat.le_refl _
  ·exact Nat.le_succ_of_le (qKJ u t l)
theorem qEX (u t:List Nat):∀l,u.take (qBW u t l) <:+ t
 | 0=>by simp[qBW]
 | l+1=>by
  unfold qBW
  split
  ·assumption
  ·exact qEX u t l
theorem qEY (u t:List Nat):∀l m,m<=l->u.take m <:+ t->m<=qBW u t l
 | 0,m,h,_=>by omega
 | l+1,m,h,hs=>by
  unfold qBW
  split
  ·omega
  ·rename_i hn
   have:m≠l+1:=fun e=>hn (e ▸ hs)
   exact qEY u t l m (by omega) hs
theorem pR (u t:List Nat):kmp u t<=u.length:=qKJ u t _
theorem qU (u t:List Nat):u.take (kmp u t) <:+ t:=qEX u t _
theorem kX {u t:List Nat}{m:Nat}(h:m<=u.length)(hs:u.take m <:+ t):m<=kmp u t:=qEY u t _ m h hs
theorem eB {u t:List Nat}:kmp u t=u.length↔u <:+ t:=by
 constructor
 ·intro h
  have:=qU u t
  rwa [h,List.take_length]at this
 intro h;exact Nat.le_antisymm (pR u t) (kX (Nat.le_refl _) (by rwa [List.take_length]))
theorem xAA (u:List Nat):kmp u []=0:=by
 have h:=qU u [];have h1:=List.suffix_nil.1 h;have h2:=congrArg List.length h1;rw[List.length_take,List.length_nil]at h2;have:=pR u [];omega
theorem qGQ {x t:List Nat}{b a:Nat}:x++[b] <:+ t++[a]↔b=a/\x <:+ t:=by
 constructor
 ·rintro ⟨p,h⟩
  rw[<-List.append_assoc]at h;obtain⟨h1,h2⟩:=List.append_inj' h rfl;exact⟨by simpa using h2,⟨p,h1⟩⟩
 rintro ⟨rfl,p,rfl⟩;exact⟨p,by simp⟩
theorem eN {u:List Nat}{l:Nat}(h:l<u.length):u.take (l+1)=u.take l++[u.getD l 0]:=zT (d:=0) h
theorem qC {u t:List Nat}{l a:Nat}(h:l<u.length):u.take (l+1) <:+ t++[a]↔u.getD l 0=a/\u.take l <:+ t:=by
 rw[eN h,qGQ]
theorem qBV (u t:List Nat)(a:Nat):kmp u (t++[a])=kmp u (u.take (kmp u t)++[a]):=by
 refine Nat.le_antisymm ?_ ?_
 ·have hs:=qU u (t++[a])
  have hl:=pR u (t++[a])
  generalize kmp u (t++[a])=m at hs hl⊢
  cases m with
  | zero=>exact Nat.zero_le _
  | succ l =>
   obtain⟨h1,h2⟩:=(qC (by omega)).1 hs;refine kX hl ((qC (by omega)).2 ⟨h1,?_⟩);have h3:=kX (show l<=u.length by omega) h2;refine List.suffix_of_suffix_length_le h2 (qU u t) ?_;rw[List.length_take,List.length_take];omega
 refine kX (pR _ _) (List.IsSuffix.trans (qU u _) ?_);obtain⟨p,hp⟩:=qU u t;refine⟨p,?_⟩;rw[<-List.append_assoc,hp]
theorem qYM {u:List Nat}{j:Nat}(h:j<u.length):kmp u (u.take j++[u.getD j 0])=j+1:=by
 rw[<-eN h];refine Nat.le_antisymm ?_ (kX h (List.suffix_refl _));have h1:=(qU u (u.take (j+1))).length_le;have h2:=pR u (u.take (j+1));rw[List.length_take,List.length_take]at h1;omega
theorem iN {u:List Nat}{j:Nat}(h:j<=u.length):((u.take j).drop 1).length=j-1:=by
 rw[List.length_drop,List.length_take];omega
theorem qWS {u:List Nat}{j a:Nat}(h0:0<j)(h:j<=u.length)(hn:j=u.length\/u.getD j 0≠a):kmp u (u.take j++[a])=kmp u ((u.take j).drop 1++[a]):=by
 refine Nat.le_antisymm ?_ ?_
 ·have hs:=qU u (u.take j++[a])
  have hl:=pR u (u.take j++[a]);refine kX hl ?_
  have h2:kmp u (u.take j++[a])<=j:=by
   apply Classical.byContradiction;intro h3;have h1:=hs.length_le;rw[List.length_take,List.length_append,List.length_take]at h1;simp only[List.length_singleton]at h1;have e:kmp u (u.take j++[a])=j+1:=by omega
   rw[e]at hs;have:=((qC (by omega)).1 hs).1;rcases hn with hn|hn
   ·omega
   exact hn this
  refine List.suffix_of_suffix_length_le hs (?_:(u.take j).drop 1++[a] <:+ u.take j++[a]) ?_
  ·refine⟨(u.take j).take 1,?_⟩
   rw[<-List.append_assoc,List.take_append_drop]
  rw[List.length_take,List.length_append,iN h];simp only[List.length_singleton];omega
 refine kX (pR _ _) ((qU u _).trans ?_);refine⟨(u.take j).take 1,?_⟩;rw[<-List.append_assoc,List.take_append_drop]
def kD (u:List Nat)(j:Nat):Nat:=kmp u ((u.take j).drop 1)
theorem qCN {u:List Nat}{j:Nat}(h0:0<j)(h:j<=u.length):kD u j<j:=by
 have h1:=(qU u ((u.take j).drop 1)).length_le;have h2:=pR u ((u.take j).drop 1);rw[iN h,List.length_take]at h1;unfold kD;omega
theorem qTL {u:List Nat}(h:1<=u.length):kD u 1=0:=by have:=qCN (u:=u) (j:=1) (by omega) h;omega
theorem qOD {u:List Nat}{j:Nat}(h0:0<j)(h:j<u.length):kD u (j+1)=kmp u (u.take (kD u j)++[u.getD j 0]):=by
 unfold kD;rw[eN h,<-qBV];congr 1;rw[List.drop_append_of_le_length (by rw[List.length_take];omega)]
theorem qKI {u:List Nat}{j a:Nat}(h0:0<j)(h:j<=u.length)(hn:j=u.length\/u.getD j 0≠a):kmp u (u.take j++[a])=kmp u (u.take (kD u j)++[a]):=by
 rw[qWS h0 h hn,qBV];rfl
theorem qKH {u:List Nat}{a:Nat}(hn:u=[]\/u.getD 0 0≠a):kmp u (u.take 0++[a])=0:=by
 have hs:=qU u (u.take 0++[a]);have hl:=pR u (u.take 0++[a]);have h1:=hs.length_le;rw[List.length_take]at h1;simp only[List.take_zero,List.nil_append,List.length_singleton]at h1 hs hl⊢;rcases hn with rfl|hn
 ·simpa using hl
 apply Classical.byContradiction;intro h0;have e:kmp u [a]=0+1:=by omega
 rw[e]at hs;exact hn ((qC (t:=[]) (by omega)).1 hs).1
def qYF (d:DfaV)(k c:Nat)(u:List Nat)(m:Nat):Prop:=∀j a,j<m->a<k->nx d (c+j) a=c+kmp u (u.take j++[a])
theorem qBE {d:DfaV}{k c:Nat}{u:List Nat}{m:Nat}(h:qYF d k c u m)(hm:u.length<=m):∀(n:Nat) (t:List Nat),t.length=n->yO k t->(∀t1 a t2,t=t1++a::t2->kmp u t1<m)->run d c t=c+kmp u t
 | 0,t,hl,_,_=>by
  have:=List.eq_nil_of_length_eq_zero hl
  subst this
  rw[xAA];rfl
 | n+1,t,hl,hw,hn=>by
  have hne:t≠[]:=by intro e;subst e;simp at hl
  have e:=(List.dropLast_concat_getLast hne).symm
  have h0:t.dropLast.length=n:=by rw[List.length_dropLast];omega
  rw[e]at hw hn⊢
  have h1:=qBE h hm n t.dropLast h0 (fun a ha=>hw a (List.mem_append_left _ ha)) (fun t1 a t2 e2=>hn t1 a (t2++[t.getLast hne]) (by rw[e2];simp))
  rw[qBC,h1,h _ _ (hn _ _ [] rfl) (hw _ (by simp)),<-qBV]
def iT (d:DfaV)(k:Nat):Nat->List (List Nat)->Nat->Prop
 | c,[],F=>c=F/\∀a,a<k->nx d c a=0
 | c,[v],F=>F=c+v.length/\qYF d k c v (v.length+1)
 | c,u::v::us,F=>u≠[]/\qYF d k c u u.length/\iT d k (c+u.length) (v::us) F
theorem iT.le {d:DfaV}{k:Nat}:∀ {us:List (List Nat)} {c F:Nat},iT d k c us F->c<=F
 | [],c,F,h=>Nat.le_of_eq h.1
 | [v],c,F,h=>by have:=h.1;omega
 | u::v::us,c,F,h=>by have:=iT.le h.2.2;omega
theorem qSG (u r:List Nat):(∀t,t <+: r->¬u <:+ t)\/∃t r',r=t++r'/\u <:+ t/\∀t1 a t2,t=t1++a::t2->¬u <:+ t1:=by
 by_cases h:∃l,u <:+ r.take l
 ·have key:∀n l,l<=n->u <:+ r.take l->∃l,u <:+ r.take l/\∀m,m<l->¬u <:+ r.take m:=fun n=>by
   induction n with
   | zero=>intro l hl hu;exact⟨l,hu,fun m hm=>by omega⟩
   | succ n ih =>
    intro l hl hu;by_cases h2:∃m,m<l/\u <:+ r.take m
    ·obtain⟨m,hm,h0⟩:=h2
     exact ih m (by omega) h0
    ·exact⟨l,hu,fun m hm h0=>h2 ⟨m,hm,h0⟩⟩
  obtain⟨l0,h1⟩:=h;obtain⟨l,hf,hm⟩:=key l0 l0 (Nat.le_refl _) h1;refine .inr ⟨r.take l,r.drop l,(List.take_append_drop l r).symm,hf,fun t1 a t2 e hs=>?_⟩
  have hl:t1.length<l:=by
   have:=congrArg List.length e;rw[List.length_take,List.length_append,List.length_cons]at this;omega
  refine hm _ hl ?_
  have:r.take t1.length=t1:=by
   have e2:(r.take l).take t1.length=t1:=by rw[e,List.take_left]
   rwa [List.take_take,Nat.min_eq_left (by omega)]at e2
  rwa [this]
 refine .inl fun t ht hs=>h ⟨t.length,?_⟩
 rwa [<-List.prefix_iff_eq_take.1 ht]
theorem qBD {d:DfaV}{k:Nat}(h:∀a,a<k->nx d 0 a=0):∀(w:List Nat),yO k w->run d 0 w=0
 | [],_=>rfl
 | a::w,hw=>by
  show run d (nx d 0 a) w=0
  rw[h a (hw a (by simp))]
  exact qBD h w (fun b hb=>hw b (List.mem_cons_of_mem _ hb))
theorem qJF {d:DfaV}{k:Nat}(h0:∀a,a<k->nx d 0 a=0):∀ {us:List (List Nat)} {c F:Nat},0<F->iT d k c us F->∀r,yO k r->(run d c r=F↔TlN us r)
 | [],c,F,hF,h,r,hr=>by
  obtain⟨rfl,h⟩:=h
  cases r with
  | nil=>exact⟨fun _=>rfl,fun _=>rfl⟩
  | cons a r =>
   constructor
   ·intro e
    have:run d (nx d c a) r=c:=e
    rw[h a (hr a (by simp)),qBD h0 r (fun b hb=>hr b (List.mem_cons_of_mem _ hb))]at this
    omega
   ·intro e;cases e
 | [v],c,F,hF,h,r,hr=>by
  obtain⟨rfl,h⟩:=h
  rw[qBE h (by omega) r.length r rfl hr (fun t1 a t2 _=>by have:=pR v t1;omega)]
  have e:c+kmp v r=c+v.length↔kmp v r=v.length:=by omega
  rw[e,eB]
  constructor
  ·rintro ⟨p,rfl⟩;exact⟨p,[],by simp,rfl⟩
  ·rintro ⟨p,r',rfl,rfl⟩;exact⟨p,by simp⟩
 | u::v::us,c,F,hF,h,r,hr=>by
  obtain⟨hu,hb,ht⟩:=h
  have h5:=iT.le ht
  rcases qSG u r with hno|⟨t,r',rfl,hs,hmin⟩
  ·have h1:∀t,t <+: r->kmp u t<u.length:=fun t ht=>by
    have:=pR u t
    have:kmp u t≠u.length:=fun e=>hno t ht (eB.1 e)
    omega
   rw[qBE hb (Nat.le_refl _) r.length r rfl hr (fun t1 a t2 e=>h1 t1 ⟨a::t2,e.symm⟩)]
   have:=h1 r (List.prefix_refl r)
   constructor
   ·intro e;omega
   ·rintro ⟨p,q,e,_⟩
    exact absurd ⟨p,rfl⟩ (hno (p++u) ⟨q,e.symm⟩)
  ·have hk:∀t1 a t2,t=t1++a::t2->kmp u t1<u.length:=fun t1 a t2 e=>by
    have:=pR u t1
    have:kmp u t1≠u.length:=fun e2=>hmin t1 a t2 e (eB.1 e2)
    omega
   have h3:yO k t:=fun a ha=>hr a (List.mem_append_left _ ha)
   have h4:yO k r':=fun a ha=>hr a (List.mem_append_right _ ha)
   rw[qMA,qBE hb (Nat.le_refl _) t.length t rfl h3 hk,eB.2 hs,qJF h0 hF ht r' h4]
   constructor
   ·intro h
    obtain⟨p,rfl⟩:=hs
    exact⟨p,r',rfl,h⟩
   ·rintro ⟨p,q,e,h⟩
    have h2:t.length<=(p++u).length:=by
     apply Classical.byContradiction;intro h1
     have e1:p++u=t.take (p++u).length:=by
      have:=congrArg (List.take (p++u).length) e;rw[List.take_left,List.take_append_of_le_length (by omega)]at this;exact this.symm
     have e2:t=(p++u)++t.drop (p++u).length:=by
      conv=>lhs;rw[<-List.take_append_drop (p++u).length t]
      rw[<-e1]
     cases hd:t.drop (p++u).length with
     | nil=>have:=congrArg List.length hd;rw[List.length_drop]at this;simp at this;simp at h1;omega
     | cons a t2 =>
      rw[hd]at e2;exact hmin (p++u) a t2 e2 ⟨p,rfl⟩
    have e3:r'=(p++u).drop t.length++q:=by
     have:=congrArg (List.drop t.length) e;rw[List.drop_left,List.drop_append_of_le_length h2]at this;exact this
    rw[e3];exact h.more _ (by simp)
def xAX (d:DfaV)(k:Nat)(b:List Nat):Prop:=∀j a,j<b.length->a<k->nx d (1+j) a=if b.getD j 0=a then 2+j else 0
theorem aE {d:DfaV}{k:Nat}{b:List Nat}(h0:∀a,a<k->nx d 0 a=0)(h:xAX d k b):∀(m j:Nat),b.length-j=m->j<=b.length->∀s,yO k s ->
  (∃r,s=b.drop j++r/\run d (1+j) s=run d (1+b.length) r)\/((¬∃r,s=b.drop j++r)/\run d (1+j) s<1+b.length)
 | 0,j,hm,hj,s,hs=>.inl ⟨s,by rw[show j=b.length by omega];simp,by rw[show j=b.length by omega]⟩
 | m+1,j,hm,hj,s,hs=>by
  have hd:b.drop j=b.getD j 0::b.drop (j+1):=by
   rw[List.drop_eq_getElem_cons (show j<b.length by omega),zG (show j<b.length by omega)]
  cases s with
  | nil =>
   refine .inr ⟨?_,?_⟩
   ·rintro ⟨r,e⟩;rw[hd]at e;cases e
   ·show 1+j<_;omega
  | cons a s =>
   have ha:a<k:=hs a (by simp);have h3:yO k s:=fun b hb=>hs b (List.mem_cons_of_mem _ hb);have e1:run d (1+j) (a::s)=run d (nx d (1+j) a) s:=rfl;rw[e1,h j a (by omega) ha];by_cases e:b.getD j 0=a
   ·rw[if_pos e]
    rcases aE h0 h m (j+1) (by omega) (by omega) s h3 with ⟨r,e2,e3⟩|⟨h1,h2⟩
    ·refine .inl ⟨r,by rw[hd,e,e2];rfl,?_⟩
     rw[<-e3,show 2+j=1+(j+1) by omega]
    ·refine .inr ⟨?_,by rw[show 2+j=1+(j+1) by omega];exact h2⟩
     rintro ⟨r,e2⟩;rw[hd]at e2;simp only[List.cons_append,List.cons.injEq]at e2;exact h1 ⟨r,e2.2⟩
   ·rw[if_neg e,qBD h0 s h3]
    refine .inr ⟨?_,by omega⟩;rintro ⟨r,e2⟩;rw[hd]at e2;simp only[List.cons_append,List.cons.injEq]at e2;exact e e2.1.symm
theorem qZM {d:DfaV}{k F:Nat}{b:List Nat}{us:List (List Nat)}(h0:∀a,a<k->nx d 0 a=0)(hp:xAX d k b)(ht:iT d k (1+b.length) us F)(s:List Nat)(hs:yO k s):run d 1 s=F↔PatN (b::us) s:=by
 have hF:=ht.le;rcases aE h0 hp _ 0 rfl (Nat.zero_le _) s hs with ⟨r,e,e2⟩|⟨h1,h2⟩
 ·rw[List.drop_zero]at e
  subst e;rw[show (1:Nat)=1+0 by rfl,e2,qJF h0 (by omega) ht r (fun a ha=>hs a (List.mem_append_right _ ha))];exact⟨fun h=>⟨r,rfl,h⟩,fun⟨q,e,h⟩=>by rw[List.append_cancel_left e];exact h⟩
 rw[List.drop_zero]at h1;constructor
 ·intro e;rw[show (1:Nat)+0=1 by rfl]at h2;omega
 rintro ⟨r,e,_⟩;exact absurd ⟨r,e⟩ h1
def qAF (k c:Nat)(u:List Nat)(j:Nat):List Int:=(List.range k).map fun a=>((c+kmp u (u.take j++[a]):Nat):Int)
def xS (k c:Nat)(u:List Nat)(m:Nat):List (List Int):=(List.range m).map (qAF k c u)
def qDT (k:Nat)(b:List Nat)(j:Nat):List Int:=(List.range k).map fun a=>((if b.getD j 0=a then 2+j else 0:Nat):Int)
def sM (k:Nat)(b:List Nat)(m:Nat):List (List Int):=(List.range m).map (qDT k b)
def wG (k:Nat):Nat->List (List Nat)->List (List Int)
 | _,[]=>[List.replicate k 0]
 | c,[v]=>xS k c v (v.length+1)
 | c,u::v::us=>xS k c u u.length++wG k (c+u.length) (v::us)
def sO (k:Nat)(bs:List (List Nat)):List (List Int):=match bs with
 | []=>[]
 | b::us=>List.replicate k 0::(sM k b b.length++wG k (1+b.length) us)
def patD (k:Nat)(bs:List (List Nat)):DfaV:=⟨k,1,List.replicate ((sO k bs).length-1) false++[true],sO k bs⟩
def yQ (us:List (List Nat)):Nat:=(us.map List.length).sum
theorem sL (k:Nat):∀(us:List (List Nat)) (c:Nat),(wG k c us).length=yQ us+1
 | [],c=>rfl
 | [v],c=>by simp[wG,xS,yQ]
 | u::v::us,c=>by
  have:=sL k (v::us) (c+u.length)
  simp only[wG,List.length_append,this,xS,List.length_map,List.length_range,yQ,List.map_cons,List.sum_cons]
  omega
theorem pY (k:Nat)(b:List Nat)(us:List (List Nat)):(sO k (b::us)).length=2+b.length+yQ us:=by
 simp only[sO,List.length_cons,List.length_append,sL,sM,List.length_map,List.length_range];omega
theorem xO {α:Type}(f:Nat->α){m i:Nat}(h:i<m)(x:α):((List.range m).map f).getD i x=f i:=by
 rw[zG (by simpa using h)];simp
theorem wW {α:Type}{l m:List α}{i:Nat}(x:α):(l++m).getD (l.length+i) x=m.getD i x:=by
 simp only[List.getD_eq_getElem?_getD];rw[List.getElem?_append_right (by omega)];congr 2;omega
theorem yN {α:Type}{l m:List α}{i:Nat}(h:i<l.length)(x:α):(l++m).getD i x=l.getD i x:=by
 simp only[List.getD_eq_getElem?_getD];rw[List.getElem?_append_left h]
def From (d:DfaV)(c:Nat)(l:List (List Int)):Prop:=∀i,i<l.length->d.next.getD (c+i) []=l.getD i []
theorem From.nx {d:DfaV}{c:Nat}{l:List (List Int)}(h:From d c l){i:Nat}(hi:i<l.length)(a:Nat):nx d (c+i) a=((l.getD i []).getD a 0).toNat:=by
 unfold Go.Proofs.YtcoimliafiammaaGreat.nx entN;show (ent d.next (c+i) a).toNat=_;unfold ent;rw[h i hi]
theorem From.left {d:DfaV}{c:Nat}{l m:List (List Int)}(h:From d c (l++m)):From d c l:=fun i hi=>by
 rw[h i (by rw[List.length_append];omega),yN hi]
theorem From.right {d:DfaV}{c:Nat}{l m:List (List Int)}(h:From d c (l++m)):From d (c+l.length) m:=fun i hi=>by
 have:=h (l.length+i) (by rw[List.length_append];omega)
 rw[wW]at this
 rw[<-this];congr 1;omega
theorem gC {k c j a:Nat}{u:List Nat}(h:a<k):(qAF k c u j).getD a 0=((c+kmp u (u.take j++[a]):Nat):Int):=xO _ h _
theorem From.block {d:DfaV}{k c:Nat}{u:List Nat}{m:Nat}(h:From d c (xS k c u m)):qYF d k c u m:=fun j a hj ha=>by
 rw[h.nx (by simpa [xS] using hj),xS,xO _ hj,gC ha];omega
theorem From.tail {d:DfaV}{k:Nat}:∀ {us:List (List Nat)} {c:Nat},From d c (wG k c us)->(∀u∈us.dropLast,u≠[])->iT d k c us (c+yQ us)
 | [],c,h,_=>⟨rfl,fun a ha=>by
  have:=h.nx (i:=0) (by simp[wG]) a
  simpa [wG,List.getD,List.getElem?_replicate,ha] using this⟩
 | [v],c,h,_=>⟨by simp[yQ],From.block h⟩
 | u::v::us,c,h,hne=>by
  refine⟨hne u (by simp),From.block (From.left h),?_⟩
  have h2:=From.right h
  rw[show (xS k c u u.length).length=u.length by simp[xS]]at h2
  have:=From.tail h2 (fun w hw=>hne w (by rw[List.dropLast_cons_of_ne_nil (by simp)];exact List.mem_cons_of_mem _ hw))
  rwa [show c+yQ (u::v::us)=c+u.length+yQ (v::us) by simp[yQ];omega]
theorem qBJ (k:Nat)(b:List Nat)(us:List (List Nat)):From (patD k (b::us)) 1 (sM k b b.length++wG k (1+b.length) us):=fun i hi=>by
 show (sO k (b::us)).getD (1+i) []=_
 unfold sO
 rw[Nat.add_comm]
 rfl
theorem qZN (k:Nat)(b:List Nat)(us:List (List Nat)):xAX (patD k (b::us)) k b:=fun j a hj ha=>by
 rw[(qBJ k b us).left.nx (by simpa [sM] using hj),sM,xO _ hj,qDT,xO _ ha];omega
theorem qVE (k:Nat)(b:List Nat)(us:List (List Nat)):∀a,a<k->nx (patD k (b::us)) 0 a=0:=fun a ha=>by
 show (((List.replicate k (0:Int)).getD a 0)).toNat=0
 simp[List.getD,List.getElem?_replicate,ha]
theorem qVD (k:Nat)(b:List Nat)(us:List (List Nat))(h:∀u∈us.dropLast,u≠[]):iT (patD k (b::us)) k (1+b.length) us (1+b.length+yQ us):=by
 have:=(qBJ k b us).right;rw[show (sM k b b.length).length=b.length by simp[sM]]at this;exact From.tail this h
theorem qQL {k:Nat}{b:List Nat}{us:List (List Nat)}{q:Nat}:(patD k (b::us)).final.getD q false=decide (q=1+b.length+yQ us):=by
 show (List.replicate ((sO k (b::us)).length-1) false++[true]).getD q false=_;rw[pY,show 2+b.length+yQ us-1=1+b.length+yQ us by omega]
 generalize 1+b.length+yQ us=m
 simp only[List.getD_eq_getElem?_getD];rcases Nat.lt_trichotomy q m with h|rfl|h
 ·rw[List.getElem?_append_left (by simpa using h),List.getElem?_replicate,if_pos h,decide_eq_false (by omega)];rfl
 ·rw[List.getElem?_append_right (by simp)];simp
 rw[List.getElem?_append_right (by simp;omega),decide_eq_false (by omega)];rw[List.length_replicate,List.getElem?_eq_none (by simp;omega)];rfl
theorem eP (k:Nat):∀(us:List (List Nat)) (c i:Nat),i<(wG k c us).length->((wG k c us).getD i []).length=k/\∀a,a<k->0<=((wG k c us).getD i []).getD a 0/\((wG k c us).getD i []).getD a 0<=((c+yQ us:Nat):Int)
 | [],c,i,h=>by
  have:i=0:=by simpa [wG] using h
  subst this
  refine⟨by simp[wG],fun a ha=>?_⟩
  simp[wG,List.getD,List.getElem?_replicate,ha]
  omega
 | [v],c,i,h=>by
  simp only[wG,xS,List.length_map,List.length_range]at h⊢
  rw[xO _ h]
  refine⟨by simp[qAF],fun a ha=>?_⟩
  rw[gC ha]
  have:=pR v (v.take i++[a])
  simp only[yQ,List.map_cons,List.map_nil,List.sum_cons,List.sum_nil]
  omega
 | u::v::us,c,i,h=>by
  simp only[wG]at h⊢
  have hl:(xS k c u u.length).length=u.length:=by simp[xS]
  by_cases hi:i<u.length
  ·rw[yN (by omega),xS,xO _ hi]
   refine⟨by simp[qAF],fun a ha=>?_⟩
   rw[gC ha]
   have:=pR u (u.take i++[a])
   simp only[yQ,List.map_cons,List.sum_cons]
   omega
  ·have e:i=(xS k c u u.length).length+(i-u.length):=by omega
   rw[e,wW]
   have:=eP k (v::us) (c+u.length) (i-u.length) (by rw[List.length_append]at h;omega)
   rwa [show c+yQ (u::v::us)=c+u.length+yQ (v::us) by simp[yQ];omega]
theorem xBJ {k:Nat}{b:List Nat}{us:List (List Nat)}(h1:1<=k)(h6:k<=6)(hl:b.length+yQ us<=64):VD (patD k (b::us)) (2+b.length+yQ us) k:=by
 have hn:=pY k b us
 have key:∀q,q<2+b.length+yQ us->((patD k (b::us)).next.getD q []).length=k/\∀a,a<k->0<=((patD k (b::us)).next.getD q []).getD a 0/\((patD k (b::us)).next.getD q []).getD a 0<((2+b.length+yQ us:Nat):Int):=by
  intro q hq;cases q with
  | zero =>
   refine⟨by simp[patD,sO],fun a ha=>?_⟩;simp[patD,sO,List.getD,List.getElem?_replicate,ha];omega
  | succ q =>
   have e:=qBJ k b us q (by rw[List.length_append,sL];simp[sM];omega);rw[Nat.add_comm]at e;rw[e];have h0:(sM k b b.length).length=b.length:=by simp[sM]
   by_cases hi:q<b.length
   ·rw[yN (by omega),sM,xO _ hi]
    refine⟨by simp[qDT],fun a ha=>?_⟩;rw[qDT,xO _ ha]
    split<;>omega
   rw[show q=(sM k b b.length).length+(q-b.length) by omega,wW];have:=eP k us (1+b.length) (q-b.length) (by rw[sL];omega);refine⟨this.1,fun a ha=>?_⟩;have:=this.2 a ha;omega
 exact⟨rfl,h1,h6,by show (List.replicate _ false++[true]).length=_;rw[List.length_append,List.length_replicate,hn];simp;omega,by omega,by omega,hn,by show (0:Int)<=1;omega,by show (1:Int)<_;omega,fun q hq=>(key q hq).1,fun q a hq ha=>((key q hq).2 a ha).1,fun q a hq ha=>((key q hq).2 a ha).2⟩
theorem qQN {k:Nat}{b:List Nat}{us:List (List Nat)}(a9:∀u∈us.dropLast,u≠[]){s:List Nat}(hs:yO k s):acc (patD k (b::us)) (st0 (patD k (b::us))) s=true↔PatN (b::us) s:=by
 unfold acc;rw[qQL,decide_eq_true_eq];exact qZM (qVE k b us) (qZN k b us) (qVD k b us a9) s hs
open Go.RowKit
theorem qFJ {gs:List Nat}{i:Nat}(h:i<gs.length):gs.getD i 0∈gs:=by rw[zG h];exact List.getElem_mem h
theorem qHL {gs:List Nat}(hn:gs.Nodup){i j:Nat}(hi:i<gs.length)(hj:j<gs.length)(e:gs.getD i 0=gs.getD j 0):i=j:=by
 rw[zG hi,zG hj]at e;rw[<-hn.idxOf_getElem i hi,e,hn.idxOf_getElem j hj]
theorem jO {α:Type}{l:List α}{i:Nat}{x y:α}(h:i<l.length):(l.set i x).getD i y=x:=by
 rw[zG (by simpa using h)];simp
theorem eU {α:Type}{l:List α}{i j:Nat}{x y:α}(h:i≠j):(l.set i x).getD j y=l.getD j y:=by
 simp only[List.getD_eq_getElem?_getD];rw[List.getElem?_set_ne h]
theorem mF {α:Type}{l:List α}{x y:α}{n:Nat}(h:n=l.length):(l++[x]).getD n y=x:=by
 subst h;rw[zG (by simp)];simp
theorem qJH {α:Type}{l:List α}{x y:α}{n:Nat}(h:n=l.length):(l++[x]).set n y=l++[y]:=by
 subst h;rw[List.set_append_right _ _ (Nat.le_refl _),Nat.sub_self];rfl
def zI (s:ByteArray):List Nat:=s.data.toList.map fun c=>c.toNat-97
theorem yM (s:ByteArray):(zI s).length=s.size:=by simp[zI]
theorem nK {s:ByteArray}{i:Nat}(h:i<s.size):(zI s).getD i 0=s[i].toNat-97:=by
 rw[zG (by rw[yM];exact h)];simp[zI];rfl
theorem aX {k:Nat}{c:UInt8}:pK (k:Int) c=true↔97<=c.toNat/\c.toNat-97<k:=by
 unfold pK;rw[decide_eq_true_eq];omega
theorem uI {s:ByteArray}{k:Nat}(h:zU s (k:Int)=true):yO k (zI s)/\(∀i (hi:i<s.size),97<=s[i].toNat/\s[i].toNat-97<k)/\s.size<=2048:=by
 simp only[zU,Bool.and_eq_true,decide_eq_true_eq,List.all_eq_true]at h;refine⟨fun a ha=>?_,fun i hi=>?_,h.1.2.2⟩
 ·obtain⟨c,hc,rfl⟩:=List.mem_map.1 ha
  exact(aX.1 (h.2 c hc)).2
 have hm:s[i]∈s.data.toList:=by
  have:s[i]=s.data.toList[i]'(by simpa using hi):=by simp;rfl
  rw[this];exact List.getElem_mem _
 exact aX.1 (h.2 _ hm)
theorem qOR {c:Nat}(h:97<=c)(h2:c<256):IntKind.u8.wrap ((c:Int)-97)=((c-97:Nat):Int):=by
 unfold IntKind.wrap;simp[IntKind.bits,IntKind.signed];omega
theorem qIO {u:ByteArray}{k i:Nat}(h:∀i (hi:i<u.size),97<=u[i].toNat/\u[i].toNat-97<k)(hi:i<u.size):∃b a:Nat,(u[i].toNat:Int)=(b:Int)/\IntKind.u8.wrap ((b:Int)-97)=(a:Int)/\((b:Int)-97) % 256=(a:Int)/\a<k/\(zI u).getD i 0=a:=by
 have hb:=h i hi;have h0:u[i].toNat<256:=u[i].toNat_lt;exact⟨u[i].toNat,u[i].toNat-97,rfl,qOR hb.1 h0,by omega,hb.2,nK hi⟩
def rowv (k g:Nat):Value:=.slice (some ⟨g,0,none⟩) k k
structure BB (W0 W:World)(bb k:Nat)(t:List (List Nat))(gs:List Nat)(sn:Option Addr)(cn:Nat):Prop where
 box:W.heap[bb]?=some (.cells #[.int .i64 (k:Int),.slice sn t.length cn] 134 (0,0))
 own:W.ownsRow bb 22 1 (.slice sn t.length cn) t.length (gs.map (rowv k))
 len:gs.length=t.length
 row:∀i,i<t.length->Arr W (gs.getD i 0) 3 (nats (t.getD i []))/\(t.getD i []).length=k
 nd:gs.Nodup
 lo:W0.heap.size<=bb
 glo:∀g∈gs,W0.heap.size<=g
 grown:W0.grownBy W none
section
variable {W0 W W':World} {bb k:Nat} {t:List (List Nat)} {gs:List Nat} {sn:Option Addr} {cn:Nat}
theorem BB.start {bb k:Nat}(hb:W.heap[bb]?=some (.cells #[.int .i64 (k:Int),.slice none 0 0] 134 (0,0)))(h0:W0.heap.size<=bb)(hg:W0.grownBy W none):BB W0 W bb k [] [] none 0 :=
 ⟨hb,World.ownsRow_nil _ _ _ _,rfl,fun i hi=>by simp at hi,by simp,h0,by simp,hg⟩
theorem BB.cells (h:BB W0 W bb k t gs sn cn):W.cell? ⟨bb,0,none⟩=some (.int .i64 (k:Int))/\W.cell? ⟨bb,1,none⟩=some (.slice sn t.length cn)/\W.frozen? ⟨bb,1,none⟩=false:=by
 have c0:=zJ h.box 0;have c1:=zJ h.box 1;exact⟨by simpa using c0,by simpa using c1,zF h.box 1⟩
theorem BB.grow (h:BB W0 W bb k t gs sn cn)(hg:W.grownBy W' none):BB W0 W' bb k t gs sn cn where
 box:=zB h.box hg
 own:=zP h.own hg
 len:=h.len
 row:=fun i hi=>⟨(h.row i hi).1.kept hg (by simp),(h.row i hi).2⟩
 nd:=h.nd
 lo:=h.lo
 glo:=h.glo
 grown:=zA h.grown hg
theorem BB.hd (h:BB W0 W bb k t gs sn cn)(h0:0<t.length):∃q cap,sn=some ⟨q,0,none⟩/\cn=cap/\t.length<=cap/\cap<=maxLen/\∀i,i<t.length->W.cell? ⟨q,i,none⟩=some (rowv k (gs.getD i 0)):=by
 rcases id h.own.2 with ⟨e,_⟩|⟨q,cap,cur,e,_,_,hnc,hcm,_⟩
 ·simp only[Value.slice.injEq]at e;omega
 simp only[Value.slice.injEq]at e;obtain⟨rfl,_,rfl⟩:=e;refine⟨q,cn,rfl,rfl,hnc,hcm,fun i hi=>?_⟩;have h1:i<gs.length:=by rw[h.len];exact hi
 rw[h.own.cellAt i (by omega),List.getElem?_map,List.getElem?_eq_getElem h1,zG h1];rfl
theorem BB.set (h:BB W0 W bb k t gs sn cn){i:Nat}(hi:i<t.length){r:List Nat}(hr:r.length=k)(hg:W.grownBy W' (some (gs.getD i 0)))(ha:Arr W' (gs.getD i 0) 3 (nats r)):BB W0 W' bb k (t.set i r) gs sn cn:=by
 obtain⟨cur,rest,hc,_⟩:=(h.row i hi).1
 have h1:gs.getD i 0≠bb:=fun e=>by
  rw[e,h.box]at hc;simp only[Option.some.injEq,Obj.cells.injEq]at hc;exact absurd hc.2.1 (by decide)
 have h0:i<gs.length:=by rw[h.len];exact hi
 refine⟨?_,?_,by rw[List.length_set];exact h.len,fun j hj=>?_,h.nd,h.lo,h.glo,zA h.grown hg (fun q e=>by have:=Oj e;subst this;exact h.glo _ (qFJ h0))⟩
 ·rw[List.length_set];exact zB h.box hg (fun e=>h1 (Oj e))
 ·rw[List.length_set];exact h.own.kept hg (.inr (zO h.own hc (by decide)))
 rw[List.length_set]at hj;by_cases e:i=j
 ·subst e
  rw[jO hi];exact⟨ha,hr⟩
 rw[eU e];exact⟨(h.row j hj).1.kept hg (fun e2=>e (qHL h.nd h0 (by rw[h.len];exact hj) (Oj e2))),(h.row j hj).2⟩
theorem BB.put (h:BB W0 W bb k t gs sn cn){i j:Nat}(hi:i<t.length)(hj:j<k)(c:Nat):BB W0 (W.setCell ⟨gs.getD i 0,j,none⟩ (.int .i64 (c:Int))) bb k (t.set i ((t.getD i []).set j c)) gs sn cn:=by
 have hr:=h.row i hi;exact h.set hi (by rw[List.length_set];exact hr.2) (zD W ⟨gs.getD i 0,j,none⟩ _) (hr.1.nat_set j (by rw[hr.2];exact hj) c)
theorem BB.off (h:BB W0 W bb k t gs sn cn){g:Nat}{c:Array Value}{m:Nat×Nat}(hg:W.grownBy W' (some g))(hc:W.heap[g]?=some (.cells c 3 m))(hn:g ∉ gs)(h0:W0.heap.size<=g):BB W0 W' bb k t gs sn cn where
 box:=zB h.box hg (fun e=>by
  have:=Oj e
  subst this
  rw[h.box]at hc
  simp only[Option.some.injEq,Obj.cells.injEq]at hc
  exact absurd hc.2.1 (by decide))
 own:=h.own.kept hg (.inr (zO h.own hc (by decide)))
 len:=h.len
 row:=fun i hi=>⟨(h.row i hi).1.kept hg (fun e=>hn (by rw[Oj e];exact qFJ (by rw[h.len];exact hi))),(h.row i hi).2⟩
 nd:=h.nd
 lo:=h.lo
 glo:=h.glo
 grown:=zA h.grown hg (fun q e=>by have:=Oj e;omega)
theorem BB.lt (h:BB W0 W bb k t gs sn cn):∀g∈gs,g<W.heap.size:=fun g hg=>by
 obtain⟨i,hi,rfl⟩:=List.getElem_of_mem hg
 have:=(h.row i (by rw[<-h.len];exact hi)).1.lt
 rwa [zG hi]at this
theorem BB.push (h:BB W0 W bb k t gs sn cn){g:Nat}{r:List Nat}{a9:Option Addr}{a8:Nat}(hr:r.length=k)(ha:Arr W g 3 (nats r))(a7:∀x∈gs,x≠g)(a6:W0.heap.size<=g)(ho:W'.ownsRow bb 22 1 (.slice a9 (t.length+1) a8) (t.length+1) (gs.map (rowv k)++[rowv k g]))(hg:W.grownBy W' (Value.slice sn t.length cn).ownBlock){W2:World}(a5:W2=W'.setCell ⟨bb,1,none⟩ (.slice a9 (t.length+1) a8)):BB W0 W2 bb k (t++[r]) (gs++[g]) a9 a8:=by
 have hb:=zB h.box hg (zO h.own h.box (by decide));have h1:=heap_setCell_same W' bb 1 _ _ (.slice a9 (t.length+1) a8) hb;have g2:=zD W' ⟨bb,1,none⟩ (.slice a9 (t.length+1) a8);rw[<-a5]at h1 g2
 have h0:∀ {q:Nat} {xs:List Value},Arr W q 3 xs->Arr W2 q 3 xs:=fun {q xs} hq=>by
  obtain⟨cu,rs,hc,_⟩:=id hq
  exact(hq.kept hg (zO h.own hc (by decide))).kept g2 (fun e=>by
   have e:bb=q:=Oj e;subst e;rw[h.box]at hc;simp only[Option.some.injEq,Obj.cells.injEq]at hc
   exact absurd hc.2.1 (by decide))
 have e1:(t++[r]).length=t.length+1:=by simp
 refine⟨?_,?_,by simp[h.len],fun i hi=>?_,?_,h.lo,?_,zY (zA h.grown hg (fun j e=>Nat.le_trans h.lo (h.own.lt j e).1)) g2 (by show _<=bb;have:=h.lo;omega)⟩
 ·rw[h1,e1];simp
 ·rw[e1,List.map_append];exact ho.kept g2 (.inr (zO ho hb (by decide)))
 ·rw[e1]at hi
  by_cases hi':i<t.length
  ·rw[yN (by rw[h.len];exact hi'),yN hi']
   exact⟨h0 (h.row i hi').1,(h.row i hi').2⟩
  have:i=t.length+0:=by omega
  rw[this,wW];rw[show (gs++[g]).getD (t.length+0) 0=g by rw[<-h.len,wW];rfl];exact⟨h0 ha,hr⟩
 ·rw[List.nodup_append]
  exact⟨h.nd,by simp,fun x hx y hy e=>by simp at hy;subst hy;exact a7 x hx e⟩
 intro x hx;rcases List.mem_append.1 hx with hx|hx
 ·exact h.glo x hx
 simp at hx;subst hx;exact a6
end
section
variable {W0 W W':World} {bb k:Nat} {t:List (List Nat)} {gs:List Nat} {sn:Option Addr} {cn:Nat} {r:List Nat} {g:Nat}
theorem BB.lastlen (h:BB W0 W bb k (t++[r]) (gs++[g]) sn cn):gs.length=t.length:=by have:=h.len;simp at this;exact this
theorem BB.last (h:BB W0 W bb k (t++[r]) (gs++[g]) sn cn):Arr W g 3 (nats r)/\r.length=k:=by
 have:=h.row t.length (by simp)
 rwa [mF rfl,mF h.lastlen.symm]at this
theorem BB.putLast (h:BB W0 W bb k (t++[r]) (gs++[g]) sn cn){j:Nat}(hj:j<k)(c:Nat):BB W0 (W.setCell ⟨g,j,none⟩ (.int .i64 (c:Int))) bb k (t++[r.set j c]) (gs++[g]) sn cn:=by
 have:=h.put (i:=t.length) (by simp) hj c
 rwa [mF rfl,mF h.lastlen.symm,qJH rfl]at this
end
def qYB (W0:World)(bb k:Nat)(t:List (List Nat))(gs:List Nat)(u0:Nat)(e:Ending)(W':World):Prop :=
 ∃g sn cn,e=.returned (.slice (some ⟨g,0,none⟩) k k)/\BB W0 W' bb k (t++[List.replicate k u0]) (gs++[g]) sn cn
theorem nP (W0 W:World)(bb k:Nat)(t:List (List Nat))(gs:List Nat)(sn:Option Addr)(cn u0:Nat)(h:BB W0 W bb k t gs sn cn)(a8:1<=k)(a9:k<=6)(ht:t.length<=1000):Calls Tryz.prog 80 #[.pointer (some ⟨bb,0,none⟩),.int .i64 (u0:Int)] W (qYB W0 bb k t gs u0):=by
 obtain⟨c0,c1,f1⟩:=h.cells;have H:=Kh h;clear h;go_enter Tryz.func80,Tryz.ntmps80;go_wp2_with (first|(at_make;refine kW rfl _ _ _ rfl yP rfl .i64 .i64 _ _ k rfl rfl rfl rfl ?b1 ?b2 ?_;(case b1=>omega);(case b2=>(unfold maxLen;omega));intro w2 h0 H6 h4)|fail);obtain⟨g,hg⟩:=Nm W.heap.size;rw[<-hg]at h0 h4⊢;have H9:=Kh (H.out.grow H6);have H4:g ∉ gs:=fun hm=>by have:=H.out.lt g hm;omega
 have H7:W0.heap.size<=g:=by have:=H.out.grown.size;omega
 have H3:Hid (Arr w2 g 3 (nats (List.replicate 0 u0++List.replicate (k-0) 0))):=Kh (by
  rw[show List.replicate 0 u0++List.replicate (k-0) 0=List.replicate k 0 by simp,xJ];exact h0)
 have H8:=Kh H4;clear h0 H6 hg H4 c0 c1 f1 h4
 go_loopg [6,14] k (fun gh a6 i wr=>∃x:Nat,gh+x=k/\i=.int .i64 x/\Arr wr g 3 (nats (List.replicate x u0++List.replicate (k-x) 0))/\w2.grownBy wr (some g))
 case atStart=>exact⟨0,rfl,rfl,H3.out,zH _ _⟩
 obtain⟨x,H5,rfl,h0,h9⟩:=hrel;obtain⟨h6,HA,a7⟩:=K3 H5 h0 h9;clear H5
 have h7:(List.replicate x u0++List.replicate (k-x) 0).length=k:=by
  have:=h6.out;simp;omega
 by_cases hx:x<k
 ·have b4:(x:Int)<k:=by omega
  have cx:=h0.nat x (by omega);have fx:=h0.frozen x
  have h3:(List.replicate x u0++List.replicate (k-x) 0).set x u0=List.replicate (x+1) u0++List.replicate (k-(x+1)) 0:=by
   rw[List.set_append_right _ _ (by simp),List.length_replicate,Nat.sub_self,show k-x=(k-(x+1))+1 by omega,List.replicate_succ,List.set_cons_zero,List.replicate_succ',List.append_assoc];rfl
  have H2:=Kh h3;have a4:=Kh h7;clear h0 h9 h3 h7;go_wp2;go_roundg (k-(x+1))
  case measure=>have:=h6.out;omega
  exact⟨x+1,by have:=h6.out;omega,by go_num,by rw[<-H2.out];exact HA.out.nat_set x (by rw[a4.out];exact hx) u0,zC a7.out (zD wr ⟨g,x,none⟩ _)⟩
 have a0:x=k:=by have:=h6.out;omega
 subst a0;have hr:List.replicate x u0++List.replicate (x-x) 0=List.replicate x u0:=by simp
 rw[hr]at HA;obtain⟨cur,rest,h5,_⟩:=H3.out;have h2:=Kh (H9.out.off h9 h5 H8.out H7);obtain⟨c0,c1,f1⟩:=h2.out.cells;clear h5 h7 hr h0 H3 H9;have b7:=zM h2.out.box;go_wp2_with (first|(at_builtin;refine qGF rfl _ _ _ rfl vX bb (.slice sn t.length cn) t.length (gs.map (rowv x)) rfl h2.out.own (rowv x g) rfl rfl ?a1 ?a2 ?a3 ?_;(case a1=>(unfold maxLen;omega));(case a2=>omega);(case a3=>omega);intro sn6 cn6 w6 h1 H0 b3 h8;(have a5:=Kh h1);(have b0:=Kh H0);(have H1:=zB h2.out.box H0 (zO h2.out.own h2.out.box (by decide)));(have b6:w6.cell? ⟨bb,1,none⟩=some (.slice sn t.length cn):=by simpa using zJ H1 1);(have b5:=zF H1 1);clear h1 H0 h8 H1)|fail);go_ret;exact⟨g,sn6,cn6,rfl,h2.out.push (by simp) HA.out (fun y hy e=>H8.out (e ▸ hy)) H7 a5.out b0.out rfl⟩
def preN (k:Nat)(b:List Nat)(j:Nat):List Nat:=(List.range k).map fun a=>if b.getD j 0=a then 2+j else 0
def pF (k:Nat)(b:List Nat)(m:Nat):List (List Nat):=(List.range m).map (preN k b)
theorem qBB {k a c:Nat}:(List.replicate k 0).set a c=(List.range k).map fun i=>if a=i then c else 0:=by
 refine List.ext_getElem (by simp) fun i h1 h2=>?_;rw[List.getElem_set];simp
theorem qMQ (k:Nat)(b:List Nat)(m:Nat):pF k b (m+1)=pF k b m++[preN k b m]:=by
 simp[pF,List.range_succ]
def qLJ (W0:World)(bb k:Nat)(t:List (List Nat))(e:Ending)(W':World):Prop:=∃gs sn cn,e=.returned (.tuple #[])/\BB W0 W' bb k t gs sn cn
theorem qIQ (W0 W:World)(bb k:Nat)(t:List (List Nat))(gs:List Nat)(sn:Option Addr)(cn:Nat)(u:ByteArray)(h:BB W0 W bb k t gs sn cn)(ht:t.length=1)(a8:1<=k)(a9:k<=6)(hu:zU u (k:Int)=true)(hl:u.size<=64):Calls Tryz.prog 81 #[.pointer (some ⟨bb,0,none⟩),.string u] W (qLJ W0 bb k (t++pF k (zI u) u.size)):=by
 have H:=Kh h;have HU:=Kh (uI hu);have H5:t.length<=1:=by omega
 have HT:=Kh ht;clear h hu ht;go_enter Tryz.func81,Tryz.ntmps81;go_wp2_with fail
 go_loopg [4,5,8] u.size (fun gh a4 a5 i wr=>∃(j:Nat) (gs:List Nat) (sn:Option Addr) (cn:Nat),gh+j=u.size/\i=.int .i64 j/\BB W0 wr bb k (t++pF k (zI u) j) gs sn cn)
 case atStart=>exact⟨0,gs,sn,cn,rfl,rfl,by simpa [pF] using H.out⟩
 clear H;obtain⟨j,gs,sn,cn,h7,rfl,h2⟩:=hrel;have h6:=Kh h7;have H8:=Kh h2;clear h7;by_cases hj:j<u.size
 ·have H6:(j:Int)<u.size:=by omega
  have h4:(t++pF k (zI u) j).length=j+1:=by have:=HT.out;simp[pF];omega
  have H7:=Kh h4;go_wp2_with fail;refine(nP W0 wr bb k _ gs sn cn 0 h2 a8 a9 (by omega)).mono ?_;rintro e w1 ⟨g,sn1,cn1,rfl,h3⟩;obtain⟨c0,c1,f1⟩:=h3.cells;have hr:=h3.last;rw[List.length_append,h4]at c1;have hb:=HU.out.2.1 j hj;obtain⟨by0,h1⟩:=Nm (u[j].toNat);have h5:by0<256:=(by rw[h1];exact u[j].toNat_lt);rw[<-h1]at hb;obtain⟨a,ha⟩:=Nm (by0-97);have h9:=qOR hb.1 h5;rw[<-ha]at h9;have h8:((by0:Int)-97) % 256=(a:Int):=by omega
  have H3:a<k:=(by omega);have H2:(a:Int)<k:=(by omega);have ca:=hr.1.nat a (by simp;omega);have fa:=hr.1.frozen a;have h0:(zI u).getD j 0=a:=by rw[nK hj,<-h1,ha]
  obtain⟨HL,H4,HR⟩:=K3 h0 h3 hr;have H1:(u[j].toNat:Int)=(by0:Int):=by rw[h1]
  clear hb h1 ha hr h2 h3 h0 h4;go_wp2_with fail
  go_region
  all_goals (try go_frame)
  all_goals go_wp2
  all_goals
   go_roundg (u.size-(j+1))
   case measure=>have:=h6.out;omega
   have hp:=(H4.out.putLast H3 (2+j)).grow (zN _ none);have e:((2+j:Nat):Int)=(j:Int)+1+1:=by omega
   rw[e,qBB,<-HL.out,List.append_assoc]at hp;rw[<-HL.out];exact⟨j+1,gs++[g],sn1,cn1,by have:=h6.out;omega,by go_num,by rw[qMQ];exact hp⟩
 have H0:j=u.size:=by have:=h6.out;omega
 subst H0;go_wp2;exact bodyPost_ret (v:=.tuple #[]) (by simp[results,Tryz.results81,go_sem]) rfl ⟨gs,sn,cn,rfl,h2⟩
end Go.Proofs.YtcoimliafiammaaGreat
