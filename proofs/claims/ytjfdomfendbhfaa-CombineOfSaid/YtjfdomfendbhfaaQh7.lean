/- Part 7 of the proof. -/
import Derived.Test.YtjfdomfendbhfaaQh6
import Derived.Deep.DeepCutAuto
import Derived.BigQuiet
import Derived.Laws.IdiomCopy
import Derived.Deep.RegionLaw
import Derived.BigRegion
set_option linter.unusedVariables false
set_option linter.unusedSimpArgs false
set_option maxRecDepth 100000
set_option maxHeartbeats 16000000
namespace Go.Proofs.Ytjfdomfendbhfaa
open Go.RowKit
def SomeLen (w:World):Prop:=0<w.heap.size/\∃m:Int,w.cell? ⟨0,0,none⟩=some (.int .i64 m)
theorem SomeLen.kept {w w':World}{row:Option Nat}(h:SomeLen w)(hg:w.grownBy w' row)(hr:row≠some 0):SomeLen w' :=
 ⟨Nat.lt_of_lt_of_le h.1 hg.size,h.2.imp fun _ hm=>(World.cell?_of_block (hg.block _ h.1 (fun e=>hr e.symm))).trans hm⟩
def rO:List (List UInt8)->List UInt8->Option (List UInt8)
 | [],r=>some r
 | u::us,r=>if (Lib.cut r u).2.2 then rO us (Lib.cut r u).2.1 else none
def mX (bs:List (List UInt8))(r v:List UInt8):Bool:=match rO bs r with
 | some r=>Lib.hasSuffix r v
 | none=>false
def wL (bs:List (List UInt8))(s:List UInt8):Bool :=
 match bs with
 | []=>false
 | [b]=>s == b
 | b::rest=>Lib.hasPrefix s b && mX rest.dropLast (s.drop b.length) (rest.getLastD [])
def yI (bs:List ByteArray)(s:ByteArray):Bool:=decide (yT bs 6=0) && (zU s 6 && wL (bs.map (·.data.toList)) s.data.toList)
theorem wY {bs:List ByteArray}{letters:Int}(h:yT bs letters=0):1<=letters/\letters<=6/\bs.length<=8/\sQ bs<=64/\0<bs.length/\vK bs.length letters 0 bs=true:=by
 unfold yT at h
 split at h
 ·omega
 split at h
 ·omega
 split at h
 ·omega
 split at h
 ·omega
 split at h
 ·exact⟨by omega,by omega,by omega,by omega,by omega,by assumption⟩
 ·omega
theorem patMatch_one {bs:List ByteArray}{s:ByteArray}(h:yT bs 6=0)(hW:zU s 6=true)(h1:bs.length=1)(h0:0<bs.length):yI bs s=(s.toList == bs[0].toList):=by
 match bs,h1 with
 | [b],_=>simp[yI,h,hW,wL,ByteArray.toList_eq]
def mid (bs:List ByteArray):List (List UInt8):=((bs.map (·.data.toList)).drop 1).dropLast
theorem rZ (bs:List ByteArray):(mid bs).length=bs.length-1-1:=by simp[mid]
theorem qDK (bs:List ByteArray)(k:Nat)(h:k<bs.length-1-1):(mid bs)[k]'(by rw[rZ];exact h)=bs[1+k].data.toList:=by
 simp[mid,Nat.add_comm]
theorem findAll_step (bs:List ByteArray)(r:List UInt8)(k:Nat)(h:k<bs.length-1-1)(hf:(Lib.cut r bs[1+k].data.toList).2.2=true):rO ((mid bs).drop (k+1)) (Lib.cut r bs[1+k].data.toList).2.1=rO ((mid bs).drop k) r:=by
 rw[List.drop_eq_getElem_cons (show k<(mid bs).length by rw[rZ];exact h),qDK bs k h];simp[rO,hf]
theorem findAll_stop (bs:List ByteArray)(r:List UInt8)(k:Nat)(h:k<bs.length-1-1)(hf:¬(Lib.cut r bs[1+k].data.toList).2.2=true):rO ((mid bs).drop k) r=none:=by
 rw[List.drop_eq_getElem_cons (show k<(mid bs).length by rw[rZ];exact h),qDK bs k h];simp[rO,hf]
theorem cut_le (r u:List UInt8):(Lib.cut r u).2.1.length<=r.length:=by
 unfold Lib.cut
 split
 ·simp
 ·simp
theorem two_le {α:Type}{bs:List α}(h0:0<bs.length)(h1:bs.length≠1):∃b c rest,bs=b::c::rest:=by
 match bs,h0,h1 with
 | b::c::rest,_,_=>exact⟨b,c,rest,rfl⟩
theorem patMatch_none {bs:List ByteArray}{s:ByteArray}(h0:0<bs.length)(h1:bs.length≠1)(hF:rO (mid bs) (Lib.trimPrefix s.data.toList bs[0].data.toList)=none):yI bs s=false:=by
 match bs,h0,h1 with
 | b::c::rest,_,_ =>
  by_cases hP:Lib.hasPrefix s.data.toList b.data.toList=true
  ·have e:Lib.trimPrefix s.data.toList b.data.toList=s.data.toList.drop b.data.toList.length:=by simp only[Lib.trimPrefix,hP,if_true]
   simp only[List.getElem_cons_zero,e,mid,List.map_cons,List.drop_succ_cons,List.drop_zero]at hF;simp only[yI,wL,List.map_cons,mX,hF,Bool.and_false]
  ·simp only[Bool.not_eq_true]at hP
   simp[yI,wL,hP]
theorem patMatch_end {bs:List ByteArray}{s:ByteArray}{r:List UInt8}(h:yT bs 6=0)(hW:zU s 6=true)(h0:0<bs.length)(h1:bs.length≠1)(hP:Lib.hasPrefix s.data.toList bs[0].data.toList=true)(hF:rO (mid bs) (Lib.trimPrefix s.data.toList bs[0].data.toList)=some r):yI bs s=Lib.hasSuffix r bs[bs.length-1].data.toList:=by
 have hl:(bs.drop 1).map (·.data.toList)≠[]:=by
  intro e;have:=congrArg List.length e;simp at this;omega
 have hg:((bs.drop 1).map (·.data.toList)).getLastD []=bs[bs.length-1].data.toList:=by
  rw[List.getLastD_eq_getLast?,List.getLast?_eq_getElem?];simp only[List.length_map,List.length_drop,List.getElem?_map,List.getElem?_drop];rw[show 1+(bs.length-1-1)=bs.length-1 by omega,List.getElem?_eq_getElem (by omega)];rfl
 obtain⟨b,c,rest,rfl⟩:=two_le h0 h1
 ·have h2:Lib.hasPrefix s.data.toList b.data.toList=true:=hP
  have e:Lib.trimPrefix s.data.toList b.data.toList=s.data.toList.drop b.data.toList.length:=by simp only[Lib.trimPrefix,h2,if_true]
  simp only[List.getElem_cons_zero,e,mid,List.map_cons,List.drop_succ_cons,List.drop_zero]at hF;simp only[List.drop_succ_cons,List.drop_zero,List.map_cons]at hg;simp only[yI,h,hW,decide_true,Bool.true_and,wL,List.map_cons,mX,hF,h2,hg]
theorem trim_le {s:ByteArray}{b:List UInt8}{bs:List ByteArray}(_h:yT bs 6=0)(hW:zU s 6=true):(Lib.trimPrefix s.data.toList b).length<=2048:=by
 have hs:s.size<=2048:=by simp[zU]at hW;omega
 have e:s.data.toList.length=s.size:=by simp
 unfold Lib.trimPrefix
 split
 ·rw[List.length_drop];omega
 ·omega
theorem patMatch_nopre {bs:List ByteArray}{s:ByteArray}(h0:0<bs.length)(h1:bs.length≠1)(hP:¬Lib.hasPrefix s.data.toList bs[0].data.toList=true):yI bs s=false:=by
 match bs,h0,h1 with
 | b::c::rest,_,_ =>
  simp only[List.getElem_cons_zero,Bool.not_eq_true]at hP;simp[yI,wL,hP]
theorem yK (w:World)(n:Int):Calls Try.prog 38 #[.int .i64 n] w fun e w'=>e=.returned (.bool (decide (1<=n/\n<=6)))/\w=w':=by
 by_cases h:1<=n
 ·go_enter Try.func38,Try.ntmps38
  go_wp2;go_ret;exact⟨yA (by simp[h]),rfl⟩
 ·go_enter Try.func38,Try.ntmps38
  go_wp2;go_ret;exact⟨yA (by simp;omega),rfl⟩
theorem oG (s:ByteArray)(letters:Int)(w:World)(hs:s.size<=maxLen):Calls Try.prog 43 #[.string s,.int .i64 letters] w fun e w'=>e=.returned (.bool (zU s letters))/\w=w':=by
 unfold maxLen at hs;by_cases h1:¬(1<=letters/\letters<=6)
 ·have e1:decide (1<=letters/\letters<=6)=false:=decide_eq_false h1
  go_enter Try.func43,Try.ntmps43;go_wp2_with fail;refine(yK w letters).mono ?_;rintro e w' ⟨rfl,rfl⟩;rw[e1];go_wp2;go_ret;exact⟨yA (by simp[zU];omega),rfl⟩
 have e1:decide (1<=letters/\letters<=6)=true:=by simpa using h1
 by_cases h3:2048<s.size
 ·go_enter Try.func43,Try.ntmps43
  go_wp2_with fail;refine(yK w letters).mono ?_;rintro e w' ⟨rfl,rfl⟩;rw[e1];go_wp2;go_ret;exact⟨yA (by simp[zU];omega),rfl⟩
 go_enter Try.func43,Try.ntmps43;go_wp2_with fail;refine(yK w letters).mono ?_;rintro e w' ⟨rfl,rfl⟩;rw[e1];go_wp2
 go_loop [5] (fun i=>∃k:Nat,k<=s.size/\i=.int .i64 k/\(s.data.toList.take k).all (qW letters)=true) (fun i=>s.size-(intOf i).toNat)
 case atStart=>exact⟨0,Nat.zero_le _,rfl,rfl⟩
 case round =>
  obtain⟨k,hk,rfl,h0⟩:=hrel;have HA:=Kh h0;clear h0;by_cases hlt:k<s.size
  ·go_wp2
   ·go_ret
    exact⟨yA (by rw[eq_comm];exact qT s letters k hlt (by omega)),rfl⟩
   ·go_round
    case rel=>exact⟨k+1,by omega,by go_num,qFW s letters k hlt HA.out (by omega)⟩
    case measure=>simp[intOf];omega
   ·go_ret
    exact⟨yA (by rw[eq_comm];exact qT s letters k hlt (by omega)),rfl⟩
  ·go_wp2
   go_ret;exact⟨yA (by rw[eq_comm];exact kN s letters k (by omega) (by omega) HA.out),rfl⟩
def txtV (bs:List ByteArray):List Value:=bs.map .string
theorem yC (bs:List ByteArray):(txtV bs).length=bs.length:=by simp[txtV]
theorem vG {w:World}{b off:Nat}{bs:List ByteArray}(h:uJ w b off (txtV bs))(i:Nat)(hi:i<bs.length):w.cell? ⟨b,off+i,none⟩=some (.string (bs.getD i ⟨#[]⟩)):=by
 rw[h.map i hi,zG hi]
def totW (bs:List ByteArray):Int:=bs.foldl (fun a b=>wrap64 (a+(b.size:Int))) 0
theorem fH (bs:List ByteArray)(k:Nat)(hk:k<bs.length):totW (bs.take (k+1))=wrap64 (totW (bs.take k)+((bs.getD k ⟨#[]⟩).size:Int)):=by
 rw[List.take_succ_eq_append_getElem hk,totW,List.foldl_append,zG hk];rfl
theorem qGL (bs:List ByteArray)(h:∀i (hi:i<bs.length),bs[i].size<=4294967296)(hl:bs.length<=4096):∀k,k<=bs.length->totW (bs.take k)=(sQ (bs.take k):Int)/\sQ (bs.take k)<=k*4294967296
 | 0,_=>⟨rfl,by simp[sQ]⟩
 | k+1,hk=>by
  obtain⟨h1,h2⟩:=qGL bs h hl k (by omega)
  have h3:=h k (by omega)
  rw[fH bs k (by omega),h1,cU bs k (by omega),zG (show k<bs.length by omega)]
  refine⟨?_,by omega⟩
  rw[<-Int.natCast_add]
  exact IntWalk.wrap64_in _ (by omega)
def patW (bs:List ByteArray)(letters:Int):Int :=
 if letters<1\/6<letters then 1 else if 8<bs.length then 3 else if 64<totW bs then 3
 else if bs.length=0 then 22 else if vK bs.length letters 0 bs then 0 else 22
theorem ok_sizes {bs:List ByteArray}{letters:Int}:∀ {n i:Nat},vK n letters i bs=true->∀j (hj:j<bs.length),bs[j].size<=2048:=by
 induction bs with
 | nil=>intro n i _ j hj;simp at hj
 | cons u us ih =>
  intro n i h j hj;rw[vK,Bool.and_eq_true]at h;cases j with
  | zero =>
   have h1:=h.1;simp only[tB,zU,Bool.and_eq_true,decide_eq_true_eq]at h1;exact h1.1.1.2.2
  | succ j=>simpa using ih h.2 j (by simpa using hj)
theorem patW_facts {bs:List ByteArray}{letters:Int}(h:patW bs letters=0):¬(letters<1\/6<letters)/\¬8<bs.length/\¬64<totW bs/\¬bs.length=0/\vK bs.length letters 0 bs=true:=by
 unfold patW at h
 split at h
 ·omega
 split at h
 ·omega
 split at h
 ·omega
 split at h
 ·omega
 split at h
 ·exact⟨by assumption,by assumption,by assumption,by assumption,by assumption⟩
 ·omega
theorem fX {bs:List ByteArray}{letters:Int}(h1:¬(letters<1\/6<letters))(h2:¬8<bs.length)(h3:¬64<totW bs)(h4:¬bs.length=0):patW bs letters=if vK bs.length letters 0 bs then 0 else 22:=by
 unfold patW;rw[if_neg h1,if_neg h2,if_neg h3,if_neg h4]
theorem qDZ {bs:List ByteArray}{letters:Int}(h2:¬8<bs.length)(h3:vK bs.length letters 0 bs=true):totW bs=(sQ bs:Int):=by
 have hs:=ok_sizes h3;have ht:=(qGL bs (fun i hi=>by have:=hs i hi;omega) (by omega) bs.length (Nat.le_refl _)).1
 rwa [List.take_length]at ht
theorem vJ {bs:List ByteArray}{letters:Int}:patW bs letters=0↔yT bs letters=0:=by
 constructor
 ·intro h
  obtain⟨h1,h2,h3,h4,h5⟩:=patW_facts h;rw[lR (by omega) (by omega) h2 (by have:=qDZ h2 h5;omega) h4,if_pos h5]
 ·intro h
  obtain⟨h1,h2,h3,h4,h5,h6⟩:=wY h;rw[fX (by omega) (by omega) (by have:=qDZ (by omega) h6;omega) (by omega),if_pos h6]
theorem kY (B:Nat)(w:World)(v:Value)(bs:List ByteArray)(letters:Int)(h:Row B w v (txtV bs))(hs:∀i (hi:i<bs.length),bs[i].size<=maxLen):Calls Try.prog 36 #[.agg #[v],.int .i64 letters] w fun e w'=>e=.returned (.int .i64 (patW bs letters))/\w.grownBy w' none:=by
 have H0:=h.len_le;rw[yC]at H0;have H9:bs.length<=9223372036854775807:=by unfold maxLen at H0;omega
 have H:=Kh h;have HS:=Kh hs;obtain⟨a,cap,rfl⟩:=h.shape;rw[yC]at H⊢;clear h hs H0;by_cases h1:letters<1
 ·go_enter Try.func36,Try.ntmps36
  go_wp2;go_ret;exact⟨yB (by simp[patW,h1]),Ga _ _ _⟩
 by_cases h2:6<letters
 ·go_enter Try.func36,Try.ntmps36
  go_wp2;go_ret;exact⟨yB (by simp[patW,h2]),Ga _ _ _⟩
 by_cases h3:8<bs.length
 ·have a4:(8:Int)<bs.length:=by omega
  go_enter Try.func36,Try.ntmps36;go_wp2;go_ret;exact⟨yB (by simp[patW,h1,h2,h3]),Ga _ _ _⟩
 have a4:¬(8:Int)<bs.length:=by omega
 go_enter Try.func36,Try.ntmps36;go_wp2
 go_loopg [5,7,24] bs.length (fun gh t a7 i wr=>w.alloc (.cells #[.slice a bs.length cap] 28)=wr/\∃k:Nat,gh+k=bs.length/\i=.int .i64 k/\t=.int .i64 (totW (bs.take k)))
 case atStart=>exact⟨rfl,0,rfl,rfl,rfl⟩
 case round =>
  obtain⟨hw,k,h7,rfl,rfl⟩:=hrel;have h0:=Kh h7;clear h7;by_cases hlt:k<bs.length
  ·have H8:(k:Int)<bs.length:=by omega
   obtain⟨kb,off,kc,e,_,H1,a1,h6⟩:=(H.out.kept (Ga w (.cells #[.slice a bs.length cap] 28) none) (by simp)).some_ (by rw[yC];omega);rw[hw]at h6;rw[yC]at e H1;simp only[Value.slice.injEq]at e;obtain⟨rfl,_,rfl⟩:=e;have hc:=vG h6 k hlt;have H7:=Kh (fH bs k hlt);obtain⟨u,hu⟩:∃u,u=bs.getD k ⟨#[]⟩:=⟨_,rfl⟩
   have H3:u.size<=9223372036854775807:=by
    rw[hu,zG hlt];have:=HS.out k hlt;unfold maxLen at this;omega
   rw[<-hu]at hc H7;have HW:=Kh hw;clear h6 hu hw;go_wp2;go_roundg (bs.length-(k+1))
   case measure=>have:=h0.out;omega
   case rel=>exact⟨HW.out,k+1,by have:=h0.out;omega,by go_num,by rw[H7.out]⟩
  ·have H6:k=bs.length:=by have:=h0.out;omega
   have HT:Hid (totW (bs.take k)=totW bs):=Kh (by rw[H6,List.take_length]);rw[HT.out];have a0:¬(k:Int)<bs.length:=(by omega);have HG:Hid (w.grownBy wr none):=Kh (by rw[<-hw];exact Ga _ _ _);have hb:=heap_alloc_new w (.cells #[.slice a bs.length cap] 28);rw[hw]at hb;have c0:wr.cell? ⟨w.heap.size,0,none⟩=some (.slice a bs.length cap):=by simpa using zI hb 0 (by simp)
   have HR:Hid (Row B wr (.slice a bs.length cap) (txtV bs)):=Kh (H.out.kept HG.out (by simp));clear H6 hw hb h0;obtain⟨tw,h9⟩:∃tw,tw=totW bs:=⟨_,rfl⟩;rw[<-h9];have h8:=Kh h9;clear h9;by_cases h4:64<tw
   ·go_wp2
    go_ret;exact⟨yB (by rw[patW,if_neg (by omega),if_neg (by omega),if_pos (by rw[<-h8.out];omega)]),HG.out⟩
   by_cases h5:bs.length=0
   ·have a3:((bs.length:Int) == 0)=true:=by simp[h5]
    have H5:=Kh h5;clear h5;go_wp2;go_ret;exact⟨yB (by rw[patW,if_neg (by omega),if_neg (by omega),if_neg (by rw[<-h8.out];omega),if_pos H5.out]),HG.out⟩
   have a3:((bs.length:Int) == 0)=false:=by rw[beq_eq_false_iff_ne];omega
   go_wp2
   go_loopg [8,9,42] bs.length (fun gh a8 a9 i wq=>wr=wq/\∃k:Nat,gh+k=bs.length/\i=.int .i64 k/\vK bs.length letters k (bs.drop k)=vK bs.length letters 0 bs)
   case atStart=>exact⟨rfl,0,rfl,rfl,rfl⟩
   case round =>
    obtain⟨rfl,j,h7,rfl,H4⟩:=hrel;have h0:=Kh h7;have H2:=Kh H4;clear h7 H4;by_cases hj:j<bs.length
    ·have a2:(j:Int)<bs.length:=by omega
     obtain⟨kb,off,kc,e,_,H1,a1,h6⟩:=HR.out.some_ (by rw[yC];omega);rw[yC]at e H1;simp only[Value.slice.injEq]at e;obtain⟨rfl,_,rfl⟩:=e;have hc:=vG h6 j hj;obtain⟨u,hu⟩:∃u,u=bs.getD j ⟨#[]⟩:=⟨_,rfl⟩;have H3:u.size<=maxLen:=by rw[hu,zG hj];exact HS.out j hj
     rw[<-hu]at hc;have HU:Hid (u=bs[j]):=Kh (by rw[hu,zG hj]);clear h6 hu;go_wp2_with (go_at_call 39;refine(oF u letters _ H3).mono ?_;rintro e w' ⟨rfl,rfl⟩)
     all_goals first
      |
       go_ret;exact⟨yB (by rw[fX (by omega) (by omega) (by rw[<-h8.out];omega) (by omega),bN hj (by rw[<-HU.out];first|exact eD (by assumption) (by assumption) (by assumption)|exact eE (by assumption)) H2.out];rfl),HG.out⟩
      |
       go_roundg (bs.length-(j+1))
       case rel=>exact⟨rfl,j+1,by have:=h0.out;omega,by go_num,fZ hj (eC (by rw[<-HU.out];assumption) (by rw[<-HU.out];first|(left;omega)|(right;assumption))) H2.out⟩
       case measure=>have:=h0.out;omega
    ·have a2:¬(j:Int)<bs.length:=by omega
     have e:vK bs.length letters j (bs.drop j)=true:=by rw[List.drop_eq_nil_of_le (by omega)];rfl
     have HE:=Kh e;clear e;go_wp2;go_ret;exact⟨yB (by rw[fX (by omega) (by omega) (by rw[<-h8.out];omega) (by omega),<-H2.out,HE.out];rfl),HG.out⟩
end Go.Proofs.Ytjfdomfendbhfaa
namespace Go.Proofs.Ytjfdomfendbhfaa
structure ChoV where
 p:Int
 y:Int
 n:Int
deriving Inhabited,DecidableEq
structure DiaV where
 pats:List (List ByteArray)
 chos:List ChoV
 root:Int
def refB (cs:List ChoV)(i:Nat)(p r:Int):Bool:=decide (0<=r/\r<=1+(i:Int)) && decide (r<2\/p<(cs.getD (r.toNat-2) default).p)
def choB (np:Nat)(cs:List ChoV)(i:Nat):Bool :=
 decide (0<=(cs.getD i default).p/\(cs.getD i default).p<np) && (refB cs i (cs.getD i default).p (cs.getD i default).y && refB cs i (cs.getD i default).p (cs.getD i default).n)
def vI (letters:Int):List (List ByteArray)->Int
 | []=>0
 | p::ps=>if patW p letters=0 then vI letters ps else patW p letters
def dH (np:Nat)(cs:List ChoV)(root:Int):Int:=if (List.range cs.length).all (choB np cs)=true/\0<=root/\root<=1+(cs.length:Int) then 0 else 22
def diaE (g:DiaV)(letters:Int):Int :=
 if letters<1\/6<letters then 1 else if 300<g.pats.length\/20000<g.chos.length then 3
 else if vI letters g.pats=0 then dH g.pats.length g.chos g.root else vI letters g.pats
theorem mU {letters:Int}{ps:List (List ByteArray)}{k:Nat}(hk:k<ps.length)(h:patW (ps.getD k []) letters=0):vI letters (ps.drop (k+1))=vI letters (ps.drop k):=by
 rw[List.drop_eq_getElem_cons hk,vI,if_pos (by rw[zG hk]at h;exact h)]
theorem fW {letters:Int}{ps:List (List ByteArray)}{k:Nat}(hk:k<ps.length)(h:patW (ps.getD k []) letters≠0):vI letters (ps.drop k)=patW (ps.getD k []) letters:=by
 rw[List.drop_eq_getElem_cons hk,vI,if_neg (by rw[zG hk]at h;exact h),zG hk]
theorem kZ {letters:Int}{ps:List (List ByteArray)}{k:Nat}(hk:¬k<ps.length):vI letters (ps.drop k)=0:=by
 rw[List.drop_eq_nil_of_le (by omega)];rfl
theorem uU {letters:Int}:∀ {ps:List (List ByteArray)},vI letters ps=0↔∀p∈ps,patW p letters=0
 | []=>by simp[vI]
 | p::ps=>by
  rw[vI]
  split
  ·rename_i h;rw[uU];simp[h]
  ·rename_i h;simp[h]
def wH (np:Nat)(cs:List ChoV)(k:Nat):Prop:=∀i,i<k->choB np cs i=true
theorem dF (np:Nat)(cs:List ChoV):wH np cs 0:=fun i hi=>by omega
theorem kK {np:Nat}{cs:List ChoV}{k:Nat}(h:wH np cs k)(hk:choB np cs k=true):wH np cs (k+1):=fun i hi=>by
 rcases Nat.lt_succ_iff_lt_or_eq.1 hi with hi|rfl
 ·exact h i hi
 ·exact hk
theorem sK {np:Nat}{cs:List ChoV}{root:Int}{k:Nat}(hk:k<cs.length)(h:choB np cs k=false):dH np cs root=22:=by
 unfold dH;rw[if_neg];rintro ⟨h1,_⟩;rw[List.all_eq_true]at h1;have:=h1 k (List.mem_range.2 hk);rw[h]at this;cases this
theorem dG {np:Nat}{cs:List ChoV}{root:Int}{k:Nat}(hk:¬k<cs.length)(h:wH np cs k):dH np cs root=if 0<=root/\root<=1+(cs.length:Int) then 0 else 22:=by
 unfold dH;have:(List.range cs.length).all (choB np cs)=true:=List.all_eq_true.2 fun i hi=>h i (by have:=List.mem_range.1 hi;omega);rw[this];simp
theorem chosE_zero {np:Nat}{cs:List ChoV}{root:Int}(h:dH np cs root=0):wH np cs cs.length/\0<=root/\root<=1+(cs.length:Int):=by
 unfold dH at h
 split at h
 ·rename_i h1
  exact⟨fun i hi=>List.all_eq_true.1 h1.1 i (List.mem_range.2 hi),h1.2⟩
 ·omega
theorem chosE_of {np:Nat}{cs:List ChoV}{root:Int}(h:wH np cs cs.length)(h1:0<=root)(h2:root<=1+(cs.length:Int)):dH np cs root=0:=by
 rw[dG (Nat.lt_irrefl _) h,if_pos ⟨h1,h2⟩]
theorem jM {g:DiaV}{letters:Int}(h:diaE g letters=0):1<=letters/\letters<=6/\g.pats.length<=300/\g.chos.length<=20000/\(∀p∈g.pats,patW p letters=0)/\wH g.pats.length g.chos g.chos.length/\0<=g.root/\g.root<=1+(g.chos.length:Int):=by
 unfold diaE at h
 split at h
 ·omega
 split at h
 ·omega
 split at h
 ·rename_i h3
  obtain⟨h4,h5,h6⟩:=chosE_zero h;exact⟨by omega,by omega,by omega,by omega,uU.1 h3,h4,h5,h6⟩
 ·omega
theorem qHJ {g:DiaV}{letters:Int}(h1:1<=letters)(h2:letters<=6)(h3:g.pats.length<=300)(h4:g.chos.length<=20000)(h5:∀p∈g.pats,patW p letters=0)(h6:wH g.pats.length g.chos g.chos.length)(h7:0<=g.root)(h8:g.root<=1+(g.chos.length:Int)):diaE g letters=0:=by
 unfold diaE;rw[if_neg (by omega),if_neg (by omega),if_pos (uU.2 h5),chosE_of h6 h7 h8]
theorem qAJ {g:DiaV}{letters:Int}(h:letters<1\/6<letters):diaE g letters=1:=if_pos h
theorem gX {g:DiaV}{letters:Int}(h:¬(letters<1\/6<letters))(h2:300<g.pats.length\/20000<g.chos.length):diaE g letters=3:=by
 unfold diaE;rw[if_neg h,if_pos h2]
theorem qFK {g:DiaV}{letters:Int}(h:¬(letters<1\/6<letters))(h2:¬(300<g.pats.length\/20000<g.chos.length)){k:Nat}(hk:k<g.pats.length)(h3:vI letters (g.pats.drop k)=vI letters g.pats)(h4:patW (g.pats.getD k []) letters≠0):diaE g letters=patW (g.pats.getD k []) letters:=by
 have e:=fW hk h4;rw[h3]at e;unfold diaE;rw[if_neg h,if_neg h2,if_neg (by rw[e];exact h4),e]
theorem qFL {g:DiaV}{letters:Int}(h:¬(letters<1\/6<letters))(h2:¬(300<g.pats.length\/20000<g.chos.length))(h3:vI letters g.pats=0):diaE g letters=dH g.pats.length g.chos g.root:=by
 unfold diaE;rw[if_neg h,if_neg h2,if_pos h3]
def decF (cs:List ChoV)(m:Nat->Bool):Nat->Int->Bool
 | 0,r=>decide (r=1)
 | f+1,r=>if r<2 then decide (r=1) else decF cs m f (if m (cs.getD (r.toNat-2) default).p.toNat then (cs.getD (r.toNat-2) default).y else (cs.getD (r.toNat-2) default).n)
def decG (cs:List ChoV)(m:Nat->Bool)(r:Int):Bool:=decF cs m r.toNat r
theorem rJ {np:Nat}{cs:List ChoV}{i:Nat}(h:choB np cs i=true):0<=(cs.getD i default).p/\(cs.getD i default).p<np/\0<=(cs.getD i default).y/\(cs.getD i default).y<=1+(i:Int)/\0<=(cs.getD i default).n/\(cs.getD i default).n<=1+(i:Int):=by
 simp only[choB,refB,Bool.and_eq_true,decide_eq_true_eq]at h;omega
theorem eZ {np:Nat}{cs:List ChoV}{m:Nat->Bool}(h:wH np cs cs.length):∀(f:Nat) (r:Int) (e:Nat),r.toNat<=f->r<=1+(cs.length:Int)->decF cs m (f+e) r=decF cs m f r
 | 0,r,e,hf,_=>by
  cases e with
  | zero=>rfl
  | succ e=>rw[Nat.zero_add,decF,decF,if_pos (by omega)]
 | f+1,r,e,hf,hr=>by
  rw[show f+1+e=(f+e)+1 by omega,decF,decF]
  split
  ·rfl
  ·rename_i h2
   have hi:r.toNat-2<cs.length:=by omega
   have hc:=rJ (h _ hi)
   split
   ·exact eZ h f _ e (by omega) (by omega)
   ·exact eZ h f _ e (by omega) (by omega)
theorem qAK (cs:List ChoV)(m:Nat->Bool){r:Int}(h:r<2):decG cs m r=decide (r=1):=by
 unfold decG;cases r.toNat with
 | zero=>rfl
 | succ f=>rw[decF,if_pos h]
theorem jN {np:Nat}{cs:List ChoV}{m:Nat->Bool}(h:wH np cs cs.length){r:Int}(h2:2<=r)(hr:r<=1+(cs.length:Int)):decG cs m r=decG cs m (if m (cs.getD (r.toNat-2) default).p.toNat then (cs.getD (r.toNat-2) default).y else (cs.getD (r.toNat-2) default).n):=by
 have hc:=rJ (h (r.toNat-2) (by omega))
 have hx:∀x:Int,x.toNat<=r.toNat-1->x<=1+(cs.length:Int)->decF cs m (r.toNat-1) x=decG cs m x:=fun x h1 h3=>by
  have:=eZ (m:=m) h x.toNat x (r.toNat-1-x.toNat) (Nat.le_refl _) h3;rw[show x.toNat+(r.toNat-1-x.toNat)=r.toNat-1 by omega]at this;exact this
 have e:decG cs m r=decF cs m (r.toNat-1) (if m (cs.getD (r.toNat-2) default).p.toNat then (cs.getD (r.toNat-2) default).y else (cs.getD (r.toNat-2) default).n):=by
  have hf:r.toNat=(r.toNat-1)+1:=by omega
  show decF cs m r.toNat r=_
  conv=>lhs;rw[hf]
  rw[decF,if_neg (by omega)]
 rw[e];refine hx _ ?_ ?_<;>split<;>omega
open Go.RowKit
theorem xK {w w':World}{p:Addr}{u:Value}(h:w.cell? p=some u)(hg:w.grownBy w' none):w'.cell? p=some u:=(World.cell?_of_block (hg.block p.block (World.block_lt_of_cell? w p h) (by simp))).trans h
def vS (B:Nat)(w:World)(v:Value)(ps:List (List ByteArray)):Prop :=
 ∃svs,Row B w v svs/\svs.length=ps.length/\∀i (h1:i<svs.length) (h2:i<ps.length),Row B w svs[i] (txtV ps[i])/\∀j (hj:j<ps[i].length),ps[i][j].size<=maxLen
section
variable {B:Nat} {w:World} {v:Value} {ps:List (List ByteArray)}
theorem vS.kept {w':World}{row:Option Nat}(h:vS B w v ps)(hg:w.grownBy w' row)(hr:∀k,row=some k->B<=k):vS B w' v ps:=by
 obtain⟨svs,h1,h2,h3⟩:=h;exact⟨svs,h1.kept hg hr,h2,fun i h4 h5=>⟨(h3 i h4 h5).1.kept hg hr,(h3 i h4 h5).2⟩⟩
theorem vS.mono {B':Nat}(h:vS B w v ps)(hB:B<=B'):vS B' w v ps:=by
 obtain⟨svs,h1,h2,h3⟩:=h;exact⟨svs,h1.mono hB,h2,fun i h4 h5=>⟨(h3 i h4 h5).1.mono hB,(h3 i h4 h5).2⟩⟩
theorem vS.shape (h:vS B w v ps):∃a c,v=.slice a ps.length c:=by
 obtain⟨svs,h1,h2,h3⟩:=h;obtain⟨a,c,rfl⟩:=h1.shape;exact⟨a,c,by rw[h2]⟩
theorem vS.len_le (h:vS B w v ps):ps.length<=maxLen:=by
 obtain⟨svs,h1,h2,h3⟩:=h;rw[<-h2];exact h1.len_le
theorem vS.at_ (h:vS B w v ps)(h0:0<ps.length):∃b off cap,v=.slice (some ⟨b,off,none⟩) ps.length cap/\b<B/\ps.length<=cap/\cap<=maxLen/\∀i,i<ps.length->∃sa sc,w.cell? ⟨b,off+i,none⟩=some (.slice sa (ps.getD i []).length sc)/\Row B w (.slice sa (ps.getD i []).length sc) (txtV (ps.getD i []))/\∀j (hj:j<(ps.getD i []).length),(ps.getD i [])[j].size<=maxLen:=by
 obtain⟨svs,h1,h2,h3⟩:=h;obtain⟨b,off,cap,rfl,hb,hc,hm,h7⟩:=h1.some_ (by omega);refine⟨b,off,cap,by rw[h2],hb,by omega,hm,fun i hi=>?_⟩;have h6:i<svs.length:=by omega
 obtain⟨h4,h5⟩:=h3 i h6 hi;obtain⟨sa,sc,e⟩:=h4.shape;rw[yC]at e;have hc:=h7.2 i h6;have e2:ps.getD i []=ps[i]:=zG hi;rw[e2];refine⟨sa,sc,by rw[hc,e],by rw[<-e];exact h4,h5⟩
end
structure ChosO (w:World)(g off:Nat)(cs:List ChoV):Prop where
 lt:g<w.heap.size
 p:∀i,i<cs.length->w.cell? ⟨g,off+i*3,none⟩=some (.int .i64 (cs.getD i default).p)
 y:∀i,i<cs.length->w.cell? ⟨g,off+i*3+1,none⟩=some (.int .i64 (cs.getD i default).y)
 n:∀i,i<cs.length->w.cell? ⟨g,off+i*3+2,none⟩=some (.int .i64 (cs.getD i default).n)
theorem ChosO.kept {w w':World}{g off:Nat}{cs:List ChoV}{row:Option Nat}(h:ChosO w g off cs)(hg:w.grownBy w' row)(hr:row≠some g):ChosO w' g off cs:=by
 have hb:=hg.block g h.lt (fun e=>hr e.symm);exact⟨Nat.lt_of_lt_of_le h.lt hg.size,fun i hi=>(World.cell?_of_block hb).trans (h.p i hi),fun i hi=>(World.cell?_of_block hb).trans (h.y i hi),fun i hi=>(World.cell?_of_block hb).trans (h.n i hi)⟩
def qP (B:Nat)(w:World)(v:Value)(cs:List ChoV):Prop :=
 (∃a cap,v=.slice a 0 cap/\cs=[])\/∃b off cap,v=.slice (some ⟨b,off,none⟩) cs.length cap/\b<B/\cs.length<=cap/\cap<=maxLen/\ChosO w b off cs
section
variable {B:Nat} {w:World} {v:Value} {cs:List ChoV}
theorem qP.kept {w':World}{row:Option Nat}(h:qP B w v cs)(hg:w.grownBy w' row)(hr:∀k,row=some k->B<=k):qP B w' v cs:=by
 rcases h with h|⟨b,off,cap,h1,h2,h3,h4,h5⟩
 ·exact .inl h
 ·exact .inr ⟨b,off,cap,h1,h2,h3,h4,h5.kept hg (fun e=>by have:=hr b e;omega)⟩
theorem qP.mono {B':Nat}(h:qP B w v cs)(hB:B<=B'):qP B' w v cs:=by
 rcases h with h|⟨b,off,cap,h1,h2,h3⟩
 ·exact .inl h
 ·exact .inr ⟨b,off,cap,h1,by omega,h3⟩
theorem qP.shape (h:qP B w v cs):∃a c,v=.slice a cs.length c:=by
 rcases h with ⟨a,c,rfl,rfl⟩|⟨b,off,cap,rfl,_⟩
 ·exact⟨a,c,rfl⟩
 ·exact⟨_,_,rfl⟩
theorem qP.len_le (h:qP B w v cs):cs.length<=maxLen:=by
 rcases h with ⟨a,c,rfl,rfl⟩|⟨b,off,cap,rfl,h1,h2,h3,_⟩
 ·exact Nat.zero_le _
 ·omega
theorem qP.at_ (h:qP B w v cs)(h0:0<cs.length):∃b off cap,v=.slice (some ⟨b,off,none⟩) cs.length cap/\b<B/\cs.length<=cap/\cap<=maxLen/\ChosO w b off cs:=by
 rcases h with ⟨a,c,rfl,rfl⟩|h
 ·simp at h0
 ·exact h
end
def oC (B:Nat)(w:World)(v:Value)(g:DiaV):Prop:=∃pv cv,v=.agg #[pv,cv,.int .i64 g.root]/\vS B w pv g.pats/\qP B w cv g.chos
theorem oC.kept {B:Nat}{w w':World}{v:Value}{g:DiaV}{row:Option Nat}(h:oC B w v g)(hg:w.grownBy w' row)(hr:∀k,row=some k->B<=k):oC B w' v g:=by
 obtain⟨pv,cv,h1,h2,h3⟩:=h;exact⟨pv,cv,h1,h2.kept hg hr,h3.kept hg hr⟩
theorem oC.mono {B B':Nat}{w:World}{v:Value}{g:DiaV}(h:oC B w v g)(hB:B<=B'):oC B' w v g:=by
 obtain⟨pv,cv,h1,h2,h3⟩:=h;exact⟨pv,cv,h1,h2.mono hB,h3.mono hB⟩
theorem zN {w:World}{p e:Nat}{x0 x1 x2:Value}{m:Nat×Nat}(h:w.heap[p]?=some (.cells #[x0,x1,x2] e m)):w.cell? ⟨p,0,none⟩=some x0/\w.cell? ⟨p,1,none⟩=some x1/\w.cell? ⟨p,2,none⟩=some x2:=by
 have c0:=zI h 0 (by simp);have c1:=zI h 1 (by simp);have c2:=zI h 2 (by simp);exact⟨by simpa using c0,by simpa using c1,by simpa using c2⟩
theorem tJ {w:World}{p e:Nat}{x0 x1 x2:Value}(h:w.heap[p]?=some (.cells #[x0,x1,x2] e (0,0))):
  w.frozen? ⟨p,0,none⟩=false/\w.frozen? ⟨p,1,none⟩=false/\w.frozen? ⟨p,2,none⟩=false/\p<w.heap.size/\w.cell? ⟨p,0,none⟩=some x0/\w.cell? ⟨p,1,none⟩=some x1/\w.cell? ⟨p,2,none⟩=some x2 :=
 ⟨zE h 0,zE h 1,zE h 2,zK h,zN h⟩
theorem rU {w:World}{p e:Nat}{x0 x1 x2:Value}(h:w.heap[p]?=some (.cells #[x0,x1,x2] e (0,0)))(y0 y1 y2:Value):∃w',w'=((w.setCell ⟨p,0,none⟩ y0).setCell ⟨p,1,none⟩ y1).setCell ⟨p,2,none⟩ y2/\w.grownBy w' (some p)/\w'.heap[p]?=some (.cells #[y0,y1,y2] e (0,0))/\w'.cell? ⟨p,0,none⟩=some y0/\w'.cell? ⟨p,1,none⟩=some y1/\w'.cell? ⟨p,2,none⟩=some y2:=by
 have g1:=zD (zD (zC w ⟨p,0,none⟩ y0) (zC _ ⟨p,1,none⟩ y1)) (zC _ ⟨p,2,none⟩ y2);have z1:=heap_setCell_same _ p 2 _ _ y2 (heap_setCell_same _ p 1 _ _ y1 (heap_setCell_same w p 0 _ _ y0 h));simp only[Array.setIfInBounds,List.size_toArray,List.length_cons,List.length_nil]at z1;exact⟨_,rfl,g1,z1,zN z1⟩
theorem jK:ElemN Try.prog 84 42 4 (.agg #[.int .i64 0,.int .i64 0,.slice none 0 0,.slice none 0 0]) 64:=⟨by kernel_rfl,by kernel_rfl,by rfl,by decide⟩
def dval (x:DfaV×Value×Value):List Value:=[.int .i64 x.1.letters,.int .i64 x.1.start,x.2.1,x.2.2]
def kI (l:List (DfaV×Value×Value)):List Value:=l.flatMap dval
theorem dvals_snoc (l:List (DfaV×Value×Value))(x:DfaV×Value×Value):kI (l++[x])=kI l++dval x:=by simp[kI]
theorem qCT:∀(l:List (DfaV×Value×Value)) (i:Nat) (h:i<l.length),(kI l)[i*4]?=some (.int .i64 l[i].1.letters)/\(kI l)[i*4+1]?=some (.int .i64 l[i].1.start)/\(kI l)[i*4+2]?=some l[i].2.1/\(kI l)[i*4+3]?=some l[i].2.2
 | [],i,h=>by simp at h
 | x::l,0,_=>⟨rfl,rfl,rfl,rfl⟩
 | x::l,i+1,h=>by
  have h1:=qCT l i (by simpa using h)
  have e:kI (x::l)=.int .i64 x.1.letters::.int .i64 x.1.start::x.2.1::x.2.2::kI l:=rfl
  rw[e,show (i+1)*4=i*4+1+1+1+1 by omega]
  rw[show i*4+1+1+1+1+1=(i*4+1)+1+1+1+1 by omega,show i*4+1+1+1+1+2=(i*4+2)+1+1+1+1 by omega,show i*4+1+1+1+1+3=(i*4+3)+1+1+1+1 by omega]
  simpa using h1
structure DsUp (base:Nat)(w:World)(v:Value)(l:List (DfaV×Value×Value)):Prop where
 own:w.ownsRow base 42 4 v l.length (kI l)
 ok:∀x∈l,DfaT w x.2.1 x.2.2 x.1
section
variable {base:Nat} {w w':World} {v:Value} {l:List (DfaV×Value×Value)}
theorem DsUp.grow (h:DsUp base w v l)(hg:w.grownBy w' none):DsUp base w' v l:=⟨zP h.own hg,fun x hx=>(h.ok x hx).grow hg⟩
theorem DsUp.other {n:Nat}{xs:List Value}(h:w.ownsRow base 42 4 v n xs):∀k,v.ownBlock=some k->zX w 4 k/\zX w 34 k/\zX w 3 k:=fun k hk=>⟨yF h (by decide) k hk,yF h (by decide) k hk,yF h (by decide) k hk⟩
theorem DsUp.push {v':Value}{x:DfaV×Value×Value}(h:DsUp base w v l)(hx:DfaT w x.2.1 x.2.2 x.1)(ho:w'.ownsRow base 42 4 v' (l.length+1) (kI l++dval x))(hg:w.grownBy w' v.ownBlock):DsUp base w' v' (l++[x]) :=
 ⟨by rw[dvals_snoc,List.length_append];exact ho,fun y hy=>by
  have hot:∀k,v.ownBlock=some k->zX w 4 k/\zX w 34 k/\zX w 3 k:=DsUp.other h.own
  rcases List.mem_append.1 hy with hy|hy
  ·exact(h.ok y hy).kept hg hot
  ·simp at hy;subst hy;exact hx.kept hg hot⟩
end
structure DsO (B:Nat)(w:World)(g off:Nat)(ds:List DfaV):Prop where
 lt:g<w.heap.size
 gB:g<B
 at_:∀i,i<ds.length->∃f nx,w.cell? ⟨g,off+i*4,none⟩=some (.int .i64 (ds.getD i dN).letters)/\w.cell? ⟨g,off+i*4+1,none⟩=some (.int .i64 (ds.getD i dN).start)/\w.cell? ⟨g,off+i*4+2,none⟩=some f/\w.cell? ⟨g,off+i*4+3,none⟩=some nx/\tE B w (.agg #[.int .i64 (ds.getD i dN).letters,.int .i64 (ds.getD i dN).start,f,nx]) (ds.getD i dN)
theorem DsO.kept {B:Nat}{w w':World}{g off:Nat}{ds:List DfaV}{row:Option Nat}(h:DsO B w g off ds)(hg:w.grownBy w' row)(hr:∀k,row=some k->B<=k):DsO B w' g off ds:=by
 have hb:=hg.block g h.lt (fun e=>by have:=hr g e.symm;have:=h.gB;omega);refine⟨Nat.lt_of_lt_of_le h.lt hg.size,h.gB,fun i hi=>?_⟩;obtain⟨f,nx,h1,h2,h3,h4,h5⟩:=h.at_ i hi;exact⟨f,nx,(World.cell?_of_block hb).trans h1,(World.cell?_of_block hb).trans h2,(World.cell?_of_block hb).trans h3,(World.cell?_of_block hb).trans h4,h5.kept hg hr⟩
def DsIn (B:Nat)(w:World)(v:Value)(ds:List DfaV):Prop :=
 (∃a cap,v=.slice a 0 cap/\ds=[])\/∃b off cap,v=.slice (some ⟨b,off,none⟩) ds.length cap/\ds.length<=cap/\cap<=maxLen/\DsO B w b off ds
theorem DsIn.kept {B:Nat}{w w':World}{v:Value}{ds:List DfaV}{row:Option Nat}(h:DsIn B w v ds)(hg:w.grownBy w' row)(hr:∀k,row=some k->B<=k):DsIn B w' v ds:=by
 rcases h with h|⟨b,off,cap,h1,h2,h3,h4⟩
 ·exact .inl h
 ·exact .inr ⟨b,off,cap,h1,h2,h3,h4.kept hg hr⟩
theorem DsIn.shape {B:Nat}{w:World}{v:Value}{ds:List DfaV}(h:DsIn B w v ds):∃a c,v=.slice a ds.length c:=by
 rcases h with ⟨a,c,rfl,rfl⟩|⟨b,off,cap,rfl,_⟩
 ·exact⟨a,c,rfl⟩
 ·exact⟨_,_,rfl⟩
theorem DsIn.head {B:Nat}{w:World}{v:Value}{ds:List DfaV}(h:DsIn B w v ds)(h0:0<ds.length):∃b off cap,v=.slice (some ⟨b,off,none⟩) ds.length cap/\ds.length<=cap/\cap<=maxLen/\DsO B w b off ds:=by
 rcases h with ⟨a,c,rfl,rfl⟩|h
 ·simp at h0
 ·exact h
theorem DsUp.in_ {base:Nat}{w:World}{v:Value}{l:List (DfaV×Value×Value)}(h:DsUp base w v l):DsIn w.heap.size w v (l.map (·.1)):=by
 have h5:∀g j,(⟨g,0,none⟩:Addr).add j=⟨g,j,none⟩:=fun g j=>by unfold Addr.add;split<;>simp_all
 rcases h.own.2 with ⟨rfl,h0⟩|⟨g,cap,cur,rfl,hb,hg,hnc,hcm,_⟩
 ·exact .inl ⟨_,_,rfl,by rw[List.map_eq_nil_iff];exact List.eq_nil_of_length_eq_zero h0⟩
 ·refine .inr ⟨g,0,cap,by rw[List.length_map],by rw[List.length_map];exact hnc,hcm,zK hg,zK hg,fun i hi=>?_⟩
  rw[List.length_map]at hi;obtain⟨h1,h2,h3,h4⟩:=qCT l i hi;have c1:=h.own.cells (g:=g) rfl _ _ h1;have c2:=h.own.cells (g:=g) rfl _ _ h2;have c3:=h.own.cells (g:=g) rfl _ _ h3;have c4:=h.own.cells (g:=g) rfl _ _ h4;rw[h5]at c1 c2 c3 c4;have e:(l.map (·.1)).getD i dN=l[i].1:=by rw[zG (by simpa using hi)];simp
  rw[e,Nat.zero_add];exact⟨_,_,c1,c2,c3,c4,(h.ok _ (List.getElem_mem hi)).ok⟩
theorem make0N {P:Program}{w:World}{ops:Array Oper}{rest:List Oper}{o:Oper}{a:Act}{Q:Exit->Act->World->Prop}(hgd:o.guard=none)(l c:Operand)(t:TypeId)(ho:o.op=.makeSlice t l c){e:TypeId}{sz:Nat}{z:Value}{bytes:Nat}(E:ElemN P t e sz z bytes)(kl kc:IntKind)(C:Int)(n:Nat)(hl:a.eval l=.int kl 0)(hc:a.eval c=.int kc C)(hC:C=(n:Int))(hb:bytes*n<=281474976710656)(h63:n<=maxLen)(h:∀w',w'.ownsRow w.heap.size e sz (.slice (some ⟨w.heap.size,0,none⟩) 0 n) 0 []->w.grownBy w' none->wpList P ops Q rest (a.put o.dst (.slice (some ⟨w.heap.size,0,none⟩) 0 n)) w'):wpList P ops Q (o::rest) a w:=by
 obtain⟨i,hi,h0,h1,h2⟩:=info_parts E.hi;exact wpList_make_own w hgd l c t ho w.heap.size e i z sz E.ht hi h0 h1 kl kc C n hl hc hC (by rw[h2];exact hb) h63 (Nat.le_refl _) h
end Go.Proofs.Ytjfdomfendbhfaa
namespace Go.Proofs.Ytjfdomfendbhfaa
def TlN:List (List Nat)->List Nat->Prop
 | [],r=>r=[]
 | u::us,r=>∃p r',r=p++u++r'/\TlN us r'
def PatN:List (List Nat)->List Nat->Prop
 | [],_=>False
 | b::us,s=>∃r,s=b++r/\TlN us r
theorem TlN.more {us:List (List Nat)}{r:List Nat}(p:List Nat)(h0:us≠[])(h:TlN us r):TlN us (p++r):=by
 match us,h0,h with
 | u::us,_,⟨q,r',h,ht⟩=>exact⟨p++q,r',by rw[h];simp only[List.append_assoc],ht⟩
def qAD (u t:List Nat):Nat->Nat
 | 0=>0
 | l+1=>if u.take (l+1) <:+ t then l+1 else qAD u t l
def kmp (u t:List Nat):Nat:=qAD u t u.length
theorem qFB (u t:List Nat):∀l,qAD u t l<=l
 | 0=>Nat.le_refl _
 | l+1=>by
  unfold qAD
  split
  ·exact Nat.le_refl _
  ·exact Nat.le_succ_of_le (qFB u t l)
theorem qCE (u t:List Nat):∀l,u.take (qAD u t l) <:+ t
 | 0=>by simp[qAD]
 | l+1=>by
  unfold qAD
  split
  ·assumption
  ·exact qCE u t l
theorem qCF (u t:List Nat):∀l m,m<=l->u.take m <:+ t->m<=qAD u t l
 | 0,m,h,_=>by omega
 | l+1,m,h,hs=>by
  unfold qAD
  split
  ·omega
  ·rename_i hn
   have:m≠l+1:=fun e=>hn (e ▸ hs)
   exact qCF u t l m (by omega) hs
theorem pD (u t:List Nat):kmp u t<=u.length:=qFB u t _
theorem qJ (u t:List Nat):u.take (kmp u t) <:+ t:=qCE u t _
theorem kD {u t:List Nat}{m:Nat}(h:m<=u.length)(hs:u.take m <:+ t):m<=kmp u t:=qCF u t _ m h hs
theorem gV {u t:List Nat}:kmp u t=u.length↔u <:+ t:=by
 constructor
 ·intro h
  have:=qJ u t
  rwa [h,List.take_length]at this
 ·intro h
  exact Nat.le_antisymm (pD u t) (kD (Nat.le_refl _) (by rwa [List.take_length]))
theorem kmp_nil (u:List Nat):kmp u []=0:=by
 have h:=qJ u [];have h1:=List.suffix_nil.1 h;have h2:=congrArg List.length h1;rw[List.length_take,List.length_nil]at h2;have:=pD u [];omega
theorem suffix_snoc {x t:List Nat}{b a:Nat}:x++[b] <:+ t++[a]↔b=a/\x <:+ t:=by
 constructor
 ·rintro ⟨p,h⟩
  rw[<-List.append_assoc]at h;obtain⟨h1,h2⟩:=List.append_inj' h rfl;exact⟨by simpa using h2,⟨p,h1⟩⟩
 ·rintro ⟨rfl,p,rfl⟩
  exact⟨p,by simp⟩
theorem fJ {u:List Nat}{l:Nat}(h:l<u.length):u.take (l+1)=u.take l++[u.getD l 0]:=zT (d:=0) h
theorem rS {u t:List Nat}{l a:Nat}(h:l<u.length):u.take (l+1) <:+ t++[a]↔u.getD l 0=a/\u.take l <:+ t:=by
 rw[fJ h,suffix_snoc]
theorem qAC (u t:List Nat)(a:Nat):kmp u (t++[a])=kmp u (u.take (kmp u t)++[a]):=by
 refine Nat.le_antisymm ?_ ?_
 ·have hs:=qJ u (t++[a])
  have hl:=pD u (t++[a])
  generalize kmp u (t++[a])=m at hs hl⊢
  cases m with
  | zero=>exact Nat.zero_le _
  | succ l =>
   obtain⟨h1,h2⟩:=(rS (by omega)).1 hs;refine kD hl ((rS (by omega)).2 ⟨h1,?_⟩);have h3:=kD (show l<=u.length by omega) h2;refine List.suffix_of_suffix_length_le h2 (qJ u t) ?_;rw[List.length_take,List.length_take];omega
 ·refine kD (pD _ _) (List.IsSuffix.trans (qJ u _) ?_)
  obtain⟨p,hp⟩:=qJ u t;refine⟨p,?_⟩;rw[<-List.append_assoc,hp]
theorem qIW {u:List Nat}{j:Nat}(h:j<u.length):kmp u (u.take j++[u.getD j 0])=j+1:=by
 rw[<-fJ h];refine Nat.le_antisymm ?_ (kD h (List.suffix_refl _));have h1:=(qJ u (u.take (j+1))).length_le;have h2:=pD u (u.take (j+1));rw[List.length_take,List.length_take]at h1;omega
theorem jL {u:List Nat}{j:Nat}(h:j<=u.length):((u.take j).drop 1).length=j-1:=by
 rw[List.length_drop,List.length_take];omega
theorem kmp_back {u:List Nat}{j a:Nat}(h0:0<j)(h:j<=u.length)(hn:j=u.length\/u.getD j 0≠a):kmp u (u.take j++[a])=kmp u ((u.take j).drop 1++[a]):=by
 refine Nat.le_antisymm ?_ ?_
 ·have hs:=qJ u (u.take j++[a])
  have hl:=pD u (u.take j++[a]);refine kD hl ?_
  have h2:kmp u (u.take j++[a])<=j:=by
   apply Classical.byContradiction;intro h3;have h1:=hs.length_le;rw[List.length_take,List.length_append,List.length_take]at h1;simp only[List.length_singleton]at h1;have e:kmp u (u.take j++[a])=j+1:=by omega
   rw[e]at hs;have:=((rS (by omega)).1 hs).1;rcases hn with hn|hn
   ·omega
   ·exact hn this
  refine List.suffix_of_suffix_length_le hs (?_:(u.take j).drop 1++[a] <:+ u.take j++[a]) ?_
  ·refine⟨(u.take j).take 1,?_⟩
   rw[<-List.append_assoc,List.take_append_drop]
  ·rw[List.length_take,List.length_append,jL h]
   simp only[List.length_singleton];omega
 ·refine kD (pD _ _) ((qJ u _).trans ?_)
  refine⟨(u.take j).take 1,?_⟩;rw[<-List.append_assoc,List.take_append_drop]
def lJ (u:List Nat)(j:Nat):Nat:=kmp u ((u.take j).drop 1)
theorem qAQ {u:List Nat}{j:Nat}(h0:0<j)(h:j<=u.length):lJ u j<j:=by
 have h1:=(qJ u ((u.take j).drop 1)).length_le;have h2:=pD u ((u.take j).drop 1);rw[jL h,List.length_take]at h1;unfold lJ;omega
theorem backK_one {u:List Nat}(h:1<=u.length):lJ u 1=0:=by have:=qAQ (u:=u) (j:=1) (by omega) h;omega
theorem backK_next {u:List Nat}{j:Nat}(h0:0<j)(h:j<u.length):lJ u (j+1)=kmp u (u.take (lJ u j)++[u.getD j 0]):=by
 unfold lJ;rw[fJ h,<-qAC];congr 1;rw[List.drop_append_of_le_length (by rw[List.length_take];omega)]
theorem qFA {u:List Nat}{j a:Nat}(h0:0<j)(h:j<=u.length)(hn:j=u.length\/u.getD j 0≠a):kmp u (u.take j++[a])=kmp u (u.take (lJ u j)++[a]):=by
 rw[kmp_back h0 h hn,qAC];rfl
theorem qEZ {u:List Nat}{a:Nat}(hn:u=[]\/u.getD 0 0≠a):kmp u (u.take 0++[a])=0:=by
 have hs:=qJ u (u.take 0++[a]);have hl:=pD u (u.take 0++[a]);have h1:=hs.length_le;rw[List.length_take]at h1;simp only[List.take_zero,List.nil_append,List.length_singleton]at h1 hs hl⊢;rcases hn with rfl|hn
 ·simpa using hl
 ·apply Classical.byContradiction
  intro h0;have e:kmp u [a]=0+1:=by omega
  rw[e]at hs;exact hn ((rS (t:=[]) (by omega)).1 hs).1
def qIO (d:DfaV)(k c:Nat)(u:List Nat)(m:Nat):Prop:=∀j a,j<m->a<k->nx d (c+j) a=c+kmp u (u.take j++[a])
theorem aP {d:DfaV}{k c:Nat}{u:List Nat}{m:Nat}(h:qIO d k c u m)(hm:u.length<=m):∀(n:Nat) (t:List Nat),t.length=n->yO k t->(∀t1 a t2,t=t1++a::t2->kmp u t1<m)->run d c t=c+kmp u t
 | 0,t,hl,_,_=>by
  have:=List.eq_nil_of_length_eq_zero hl
  subst this
  rw[kmp_nil];rfl
 | n+1,t,hl,hw,hn=>by
  have hne:t≠[]:=by intro e;subst e;simp at hl
  have e:=(List.dropLast_concat_getLast hne).symm
  have h0:t.dropLast.length=n:=by rw[List.length_dropLast];omega
  rw[e]at hw hn⊢
  have h1:=aP h hm n t.dropLast h0 (fun a ha=>hw a (List.mem_append_left _ ha)) (fun t1 a t2 e2=>hn t1 a (t2++[t.getLast hne]) (by rw[e2];simp))
  rw[aN,h1,h _ _ (hn _ _ [] rfl) (hw _ (by simp)),<-qAC]
def jS (d:DfaV)(k:Nat):Nat->List (List Nat)->Nat->Prop
 | c,[],F=>c=F/\∀a,a<k->nx d c a=0
 | c,[v],F=>F=c+v.length/\qIO d k c v (v.length+1)
 | c,u::v::us,F=>u≠[]/\qIO d k c u u.length/\jS d k (c+u.length) (v::us) F
theorem jS.le {d:DfaV}{k:Nat}:∀ {us:List (List Nat)} {c F:Nat},jS d k c us F->c<=F
 | [],c,F,h=>Nat.le_of_eq h.1
 | [v],c,F,h=>by have:=h.1;omega
 | u::v::us,c,F,h=>by have:=jS.le h.2.2;omega
theorem first_end (u r:List Nat):(∀t,t <+: r->¬u <:+ t)\/∃t r',r=t++r'/\u <:+ t/\∀t1 a t2,t=t1++a::t2->¬u <:+ t1:=by
 by_cases h:∃l,u <:+ r.take l
 ·have key:∀n l,l<=n->u <:+ r.take l->∃l,u <:+ r.take l/\∀m,m<l->¬u <:+ r.take m:=fun n=>by
   induction n with
   | zero=>intro l hl hu;exact⟨l,hu,fun m hm=>by omega⟩
   | succ n ih =>
    intro l hl hu;by_cases h2:∃m,m<l/\u <:+ r.take m
    ·obtain⟨m,hm,h0⟩:=h2
     exact ih m (by omega) h0
    ·exact⟨l,hu,fun m hm h0=>h2 ⟨m,hm,h0⟩⟩
  obtain⟨l0,h1⟩:=h;obtain⟨l,hf,hm⟩:=key l0 l0 (Nat.le_refl _) h1;refine .inr ⟨r.take l,r.drop l,(List.take_append_drop l r).symm,hf,fun t1 a t2 e hs=>?_⟩
  have hl:t1.length<l:=by
   have:=congrArg List.length e;rw[List.length_take,List.length_append,List.length_cons]at this;omega
  refine hm _ hl ?_
  have:r.take t1.length=t1:=by
   have e2:(r.take l).take t1.length=t1:=by rw[e,List.take_left]
   rwa [List.take_take,Nat.min_eq_left (by omega)]at e2
  rwa [this]
 ·refine .inl fun t ht hs=>h ⟨t.length,?_⟩
  rwa [<-List.prefix_iff_eq_take.1 ht]
theorem aO {d:DfaV}{k:Nat}(h:∀a,a<k->nx d 0 a=0):∀(w:List Nat),yO k w->run d 0 w=0
 | [],_=>rfl
 | a::w,hw=>by
  show run d (nx d 0 a) w=0
  rw[h a (hw a (by simp))]
  exact aO h w (fun b hb=>hw b (List.mem_cons_of_mem _ hb))
theorem qEC {d:DfaV}{k:Nat}(h0:∀a,a<k->nx d 0 a=0):∀ {us:List (List Nat)} {c F:Nat},0<F->jS d k c us F->∀r,yO k r->(run d c r=F↔TlN us r)
 | [],c,F,hF,h,r,hr=>by
  obtain⟨rfl,h⟩:=h
  cases r with
  | nil=>exact⟨fun _=>rfl,fun _=>rfl⟩
  | cons a r =>
   constructor
   ·intro e
    have:run d (nx d c a) r=c:=e
    rw[h a (hr a (by simp)),aO h0 r (fun b hb=>hr b (List.mem_cons_of_mem _ hb))]at this
    omega
   ·intro e;cases e
 | [v],c,F,hF,h,r,hr=>by
  obtain⟨rfl,h⟩:=h
  rw[aP h (by omega) r.length r rfl hr (fun t1 a t2 _=>by have:=pD v t1;omega)]
  have e:c+kmp v r=c+v.length↔kmp v r=v.length:=by omega
  rw[e,gV]
  constructor
  ·rintro ⟨p,rfl⟩;exact⟨p,[],by simp,rfl⟩
  ·rintro ⟨p,r',rfl,rfl⟩;exact⟨p,by simp⟩
 | u::v::us,c,F,hF,h,r,hr=>by
  obtain⟨hu,hb,ht⟩:=h
  have h5:=jS.le ht
  rcases first_end u r with hno|⟨t,r',rfl,hs,hmin⟩
  ·have h1:∀t,t <+: r->kmp u t<u.length:=fun t ht=>by
    have:=pD u t
    have:kmp u t≠u.length:=fun e=>hno t ht (gV.1 e)
    omega
   rw[aP hb (Nat.le_refl _) r.length r rfl hr (fun t1 a t2 e=>h1 t1 ⟨a::t2,e.symm⟩)]
   have:=h1 r (List.prefix_refl r)
   constructor
   ·intro e;omega
   ·rintro ⟨p,q,e,_⟩
    exact absurd ⟨p,rfl⟩ (hno (p++u) ⟨q,e.symm⟩)
  ·have hk:∀t1 a t2,t=t1++a::t2->kmp u t1<u.length:=fun t1 a t2 e=>by
    have:=pD u t1
    have:kmp u t1≠u.length:=fun e2=>hmin t1 a t2 e (gV.1 e2)
    omega
   have h3:yO k t:=fun a ha=>hr a (List.mem_append_left _ ha)
   have h4:yO k r':=fun a ha=>hr a (List.mem_append_right _ ha)
   rw[run_append,aP hb (Nat.le_refl _) t.length t rfl h3 hk,gV.2 hs,qEC h0 hF ht r' h4]
   constructor
   ·intro h
    obtain⟨p,rfl⟩:=hs
    exact⟨p,r',rfl,h⟩
   ·rintro ⟨p,q,e,h⟩
    have h2:t.length<=(p++u).length:=by
     apply Classical.byContradiction;intro h1
     have e1:p++u=t.take (p++u).length:=by
      have:=congrArg (List.take (p++u).length) e;rw[List.take_left,List.take_append_of_le_length (by omega)]at this;exact this.symm
     have e2:t=(p++u)++t.drop (p++u).length:=by
      conv=>lhs;rw[<-List.take_append_drop (p++u).length t]
      rw[<-e1]
     cases hd:t.drop (p++u).length with
     | nil=>have:=congrArg List.length hd;rw[List.length_drop]at this;simp at this;simp at h1;omega
     | cons a t2 =>
      rw[hd]at e2;exact hmin (p++u) a t2 e2 ⟨p,rfl⟩
    have e3:r'=(p++u).drop t.length++q:=by
     have:=congrArg (List.drop t.length) e;rw[List.drop_left,List.drop_append_of_le_length h2]at this;exact this
    rw[e3];exact h.more _ (by simp)
def qJM (d:DfaV)(k:Nat)(b:List Nat):Prop:=∀j a,j<b.length->a<k->nx d (1+j) a=if b.getD j 0=a then 2+j else 0
theorem cX {d:DfaV}{k:Nat}{b:List Nat}(h0:∀a,a<k->nx d 0 a=0)(h:qJM d k b):∀(m j:Nat),b.length-j=m->j<=b.length->∀s,yO k s ->
  (∃r,s=b.drop j++r/\run d (1+j) s=run d (1+b.length) r)\/((¬∃r,s=b.drop j++r)/\run d (1+j) s<1+b.length)
 | 0,j,hm,hj,s,hs=>.inl ⟨s,by rw[show j=b.length by omega];simp,by rw[show j=b.length by omega]⟩
 | m+1,j,hm,hj,s,hs=>by
  have hd:b.drop j=b.getD j 0::b.drop (j+1):=by
   rw[List.drop_eq_getElem_cons (show j<b.length by omega),zG (show j<b.length by omega)]
  cases s with
  | nil =>
   refine .inr ⟨?_,?_⟩
   ·rintro ⟨r,e⟩;rw[hd]at e;cases e
   ·show 1+j<_;omega
  | cons a s =>
   have ha:a<k:=hs a (by simp);have h3:yO k s:=fun b hb=>hs b (List.mem_cons_of_mem _ hb);have e1:run d (1+j) (a::s)=run d (nx d (1+j) a) s:=rfl;rw[e1,h j a (by omega) ha];by_cases e:b.getD j 0=a
   ·rw[if_pos e]
    rcases cX h0 h m (j+1) (by omega) (by omega) s h3 with ⟨r,e2,e3⟩|⟨h1,h2⟩
    ·refine .inl ⟨r,by rw[hd,e,e2];rfl,?_⟩
     rw[<-e3,show 2+j=1+(j+1) by omega]
    ·refine .inr ⟨?_,by rw[show 2+j=1+(j+1) by omega];exact h2⟩
     rintro ⟨r,e2⟩;rw[hd]at e2;simp only[List.cons_append,List.cons.injEq]at e2;exact h1 ⟨r,e2.2⟩
   ·rw[if_neg e,aO h0 s h3]
    refine .inr ⟨?_,by omega⟩;rintro ⟨r,e2⟩;rw[hd]at e2;simp only[List.cons_append,List.cons.injEq]at e2;exact e e2.1.symm
theorem pat_run {d:DfaV}{k F:Nat}{b:List Nat}{us:List (List Nat)}(h0:∀a,a<k->nx d 0 a=0)(hp:qJM d k b)(ht:jS d k (1+b.length) us F)(s:List Nat)(hs:yO k s):run d 1 s=F↔PatN (b::us) s:=by
 have hF:=ht.le;rcases cX h0 hp _ 0 rfl (Nat.zero_le _) s hs with ⟨r,e,e2⟩|⟨h1,h2⟩
 ·rw[List.drop_zero]at e
  subst e;rw[show (1:Nat)=1+0 by rfl,e2,qEC h0 (by omega) ht r (fun a ha=>hs a (List.mem_append_right _ ha))];exact⟨fun h=>⟨r,rfl,h⟩,fun⟨q,e,h⟩=>by rw[List.append_cancel_left e];exact h⟩
 ·rw[List.drop_zero]at h1
  constructor
  ·intro e;rw[show (1:Nat)+0=1 by rfl]at h2;omega
  ·rintro ⟨r,e,_⟩;exact absurd ⟨r,e⟩ h1
def bW (k c:Nat)(u:List Nat)(j:Nat):List Int:=(List.range k).map fun a=>((c+kmp u (u.take j++[a]):Nat):Int)
def xQ (k c:Nat)(u:List Nat)(m:Nat):List (List Int):=(List.range m).map (bW k c u)
def qBM (k:Nat)(b:List Nat)(j:Nat):List Int:=(List.range k).map fun a=>((if b.getD j 0=a then 2+j else 0:Nat):Int)
def tZ (k:Nat)(b:List Nat)(m:Nat):List (List Int):=(List.range m).map (qBM k b)
def wG (k:Nat):Nat->List (List Nat)->List (List Int)
 | _,[]=>[List.replicate k 0]
 | c,[v]=>xQ k c v (v.length+1)
 | c,u::v::us=>xQ k c u u.length++wG k (c+u.length) (v::us)
def sE (k:Nat)(bs:List (List Nat)):List (List Int):=match bs with
 | []=>[]
 | b::us=>List.replicate k 0::(tZ k b b.length++wG k (1+b.length) us)
def patD (k:Nat)(bs:List (List Nat)):DfaV:=⟨k,1,List.replicate ((sE k bs).length-1) false++[true],sE k bs⟩
def yQ (us:List (List Nat)):Nat:=(us.map List.length).sum
theorem tX (k:Nat):∀(us:List (List Nat)) (c:Nat),(wG k c us).length=yQ us+1
 | [],c=>rfl
 | [v],c=>by simp[wG,xQ,yQ]
 | u::v::us,c=>by
  have:=tX k (v::us) (c+u.length)
  simp only[wG,List.length_append,this,xQ,List.length_map,List.length_range,yQ,List.map_cons,List.sum_cons]
  omega
theorem pK (k:Nat)(b:List Nat)(us:List (List Nat)):(sE k (b::us)).length=2+b.length+yQ us:=by
 simp only[sE,List.length_cons,List.length_append,tX,tZ,List.length_map,List.length_range];omega
theorem xP {α:Type}(f:Nat->α){m i:Nat}(h:i<m)(x:α):((List.range m).map f).getD i x=f i:=by
 rw[zG (by simpa using h)];simp
theorem wP {α:Type}{l m:List α}{i:Nat}(x:α):(l++m).getD (l.length+i) x=m.getD i x:=by
 simp only[List.getD_eq_getElem?_getD];rw[List.getElem?_append_right (by omega)];congr 2;omega
theorem yN {α:Type}{l m:List α}{i:Nat}(h:i<l.length)(x:α):(l++m).getD i x=l.getD i x:=by
 simp only[List.getD_eq_getElem?_getD];rw[List.getElem?_append_left h]
def From (d:DfaV)(c:Nat)(l:List (List Int)):Prop:=∀i,i<l.length->d.next.getD (c+i) []=l.getD i []
theorem From.nx {d:DfaV}{c:Nat}{l:List (List Int)}(h:From d c l){i:Nat}(hi:i<l.length)(a:Nat):nx d (c+i) a=((l.getD i []).getD a 0).toNat:=by
 unfold Go.Proofs.Ytjfdomfendbhfaa.nx entN;show (ent d.next (c+i) a).toNat=_;unfold ent;rw[h i hi]
theorem From.left {d:DfaV}{c:Nat}{l m:List (List Int)}(h:From d c (l++m)):From d c l:=fun i hi=>by
 rw[h i (by rw[List.length_append];omega),yN hi]
theorem From.right {d:DfaV}{c:Nat}{l m:List (List Int)}(h:From d c (l++m)):From d (c+l.length) m:=fun i hi=>by
 have:=h (l.length+i) (by rw[List.length_append];omega)
 rw[wP]at this
 rw[<-this];congr 1;omega
theorem iC {k c j a:Nat}{u:List Nat}(h:a<k):(bW k c u j).getD a 0=((c+kmp u (u.take j++[a]):Nat):Int):=xP _ h _
theorem From.block {d:DfaV}{k c:Nat}{u:List Nat}{m:Nat}(h:From d c (xQ k c u m)):qIO d k c u m:=fun j a hj ha=>by
 rw[h.nx (by simpa [xQ] using hj),xQ,xP _ hj,iC ha];omega
theorem From.tail {d:DfaV}{k:Nat}:∀ {us:List (List Nat)} {c:Nat},From d c (wG k c us)->(∀u∈us.dropLast,u≠[])->jS d k c us (c+yQ us)
 | [],c,h,_=>⟨rfl,fun a ha=>by
  have:=h.nx (i:=0) (by simp[wG]) a
  simpa [wG,List.getD,List.getElem?_replicate,ha] using this⟩
 | [v],c,h,_=>⟨by simp[yQ],From.block h⟩
 | u::v::us,c,h,hne=>by
  refine⟨hne u (by simp),From.block (From.left h),?_⟩
  have h2:=From.right h
  rw[show (xQ k c u u.length).length=u.length by simp[xQ]]at h2
  have:=From.tail h2 (fun w hw=>hne w (by rw[List.dropLast_cons_of_ne_nil (by simp)];exact List.mem_cons_of_mem _ hw))
  rwa [show c+yQ (u::v::us)=c+u.length+yQ (v::us) by simp[yQ];omega]
theorem aT (k:Nat)(b:List Nat)(us:List (List Nat)):From (patD k (b::us)) 1 (tZ k b b.length++wG k (1+b.length) us):=fun i hi=>by
 show (sE k (b::us)).getD (1+i) []=_
 unfold sE
 rw[Nat.add_comm]
 rfl
theorem pat_pre (k:Nat)(b:List Nat)(us:List (List Nat)):qJM (patD k (b::us)) k b:=fun j a hj ha=>by
 rw[(aT k b us).left.nx (by simpa [tZ] using hj),tZ,xP _ hj,qBM,xP _ ha];omega
theorem pat_sink (k:Nat)(b:List Nat)(us:List (List Nat)):∀a,a<k->nx (patD k (b::us)) 0 a=0:=fun a ha=>by
 show (((List.replicate k (0:Int)).getD a 0)).toNat=0
 simp[List.getD,List.getElem?_replicate,ha]
theorem pat_tail (k:Nat)(b:List Nat)(us:List (List Nat))(h:∀u∈us.dropLast,u≠[]):jS (patD k (b::us)) k (1+b.length) us (1+b.length+yQ us):=by
 have:=(aT k b us).right;rw[show (tZ k b b.length).length=b.length by simp[tZ]]at this;exact From.tail this h
theorem pat_final {k:Nat}{b:List Nat}{us:List (List Nat)}{q:Nat}:(patD k (b::us)).final.getD q false=decide (q=1+b.length+yQ us):=by
 show (List.replicate ((sE k (b::us)).length-1) false++[true]).getD q false=_;rw[pK,show 2+b.length+yQ us-1=1+b.length+yQ us by omega]
 generalize 1+b.length+yQ us=m
 simp only[List.getD_eq_getElem?_getD];rcases Nat.lt_trichotomy q m with h|rfl|h
 ·rw[List.getElem?_append_left (by simpa using h),List.getElem?_replicate,if_pos h,decide_eq_false (by omega)];rfl
 ·rw[List.getElem?_append_right (by simp)];simp
 ·rw[List.getElem?_append_right (by simp;omega),decide_eq_false (by omega)]
  rw[List.length_replicate,List.getElem?_eq_none (by simp;omega)];rfl
theorem fL (k:Nat):∀(us:List (List Nat)) (c i:Nat),i<(wG k c us).length->((wG k c us).getD i []).length=k/\∀a,a<k->0<=((wG k c us).getD i []).getD a 0/\((wG k c us).getD i []).getD a 0<=((c+yQ us:Nat):Int)
 | [],c,i,h=>by
  have:i=0:=by simpa [wG] using h
  subst this
  refine⟨by simp[wG],fun a ha=>?_⟩
  simp[wG,List.getD,List.getElem?_replicate,ha]
  omega
 | [v],c,i,h=>by
  simp only[wG,xQ,List.length_map,List.length_range]at h⊢
  rw[xP _ h]
  refine⟨by simp[bW],fun a ha=>?_⟩
  rw[iC ha]
  have:=pD v (v.take i++[a])
  simp only[yQ,List.map_cons,List.map_nil,List.sum_cons,List.sum_nil]
  omega
 | u::v::us,c,i,h=>by
  simp only[wG]at h⊢
  have hl:(xQ k c u u.length).length=u.length:=by simp[xQ]
  by_cases hi:i<u.length
  ·rw[yN (by omega),xQ,xP _ hi]
   refine⟨by simp[bW],fun a ha=>?_⟩
   rw[iC ha]
   have:=pD u (u.take i++[a])
   simp only[yQ,List.map_cons,List.sum_cons]
   omega
  ·have e:i=(xQ k c u u.length).length+(i-u.length):=by omega
   rw[e,wP]
   have:=fL k (v::us) (c+u.length) (i-u.length) (by rw[List.length_append]at h;omega)
   rwa [show c+yQ (u::v::us)=c+u.length+yQ (v::us) by simp[yQ];omega]
theorem pat_vd {k:Nat}{b:List Nat}{us:List (List Nat)}(h1:1<=k)(h6:k<=6)(hl:b.length+yQ us<=64):VD (patD k (b::us)) (2+b.length+yQ us) k:=by
 have hn:=pK k b us
 have key:∀q,q<2+b.length+yQ us->((patD k (b::us)).next.getD q []).length=k/\∀a,a<k->0<=((patD k (b::us)).next.getD q []).getD a 0/\((patD k (b::us)).next.getD q []).getD a 0<((2+b.length+yQ us:Nat):Int):=by
  intro q hq;cases q with
  | zero =>
   refine⟨by simp[patD,sE],fun a ha=>?_⟩;simp[patD,sE,List.getD,List.getElem?_replicate,ha];omega
  | succ q =>
   have e:=aT k b us q (by rw[List.length_append,tX];simp[tZ];omega);rw[Nat.add_comm]at e;rw[e];have h0:(tZ k b b.length).length=b.length:=by simp[tZ]
   by_cases hi:q<b.length
   ·rw[yN (by omega),tZ,xP _ hi]
    refine⟨by simp[qBM],fun a ha=>?_⟩;rw[qBM,xP _ ha]
    split<;>omega
   ·rw[show q=(tZ k b b.length).length+(q-b.length) by omega,wP]
    have:=fL k us (1+b.length) (q-b.length) (by rw[tX];omega);refine⟨this.1,fun a ha=>?_⟩;have:=this.2 a ha;omega
 exact⟨rfl,h1,h6,by show (List.replicate _ false++[true]).length=_;rw[List.length_append,List.length_replicate,hn];simp;omega,by omega,by omega,hn,by show (0:Int)<=1;omega,by show (1:Int)<_;omega,fun q hq=>(key q hq).1,fun q a hq ha=>((key q hq).2 a ha).1,fun q a hq ha=>((key q hq).2 a ha).2⟩
theorem qGV {k:Nat}{b:List Nat}{us:List (List Nat)}(hne:∀u∈us.dropLast,u≠[]){s:List Nat}(hs:yO k s):acc (patD k (b::us)) (st0 (patD k (b::us))) s=true↔PatN (b::us) s:=by
 unfold acc;rw[pat_final,decide_eq_true_eq];exact pat_run (pat_sink k b us) (pat_pre k b us) (pat_tail k b us hne) s hs
open Go.RowKit
theorem qCP {gs:List Nat}{i:Nat}(h:i<gs.length):gs.getD i 0∈gs:=by rw[zG h];exact List.getElem_mem h
theorem nodupN_getD {gs:List Nat}(hn:gs.Nodup){i j:Nat}(hi:i<gs.length)(hj:j<gs.length)(e:gs.getD i 0=gs.getD j 0):i=j:=by
 rw[zG hi,zG hj]at e;rw[<-hn.idxOf_getElem i hi,e,hn.idxOf_getElem j hj]
theorem kS {α:Type}{l:List α}{i:Nat}{x y:α}(h:i<l.length):(l.set i x).getD i y=x:=by
 rw[zG (by simpa using h)];simp
theorem fN {α:Type}{l:List α}{i j:Nat}{x y:α}(h:i≠j):(l.set i x).getD j y=l.getD j y:=by
 simp only[List.getD_eq_getElem?_getD];rw[List.getElem?_set_ne h]
theorem nQ {α:Type}{l:List α}{x y:α}{n:Nat}(h:n=l.length):(l++[x]).getD n y=x:=by
 subst h;rw[zG (by simp)];simp
theorem qEE {α:Type}{l:List α}{x y:α}{n:Nat}(h:n=l.length):(l++[x]).set n y=l++[y]:=by
 subst h;rw[List.set_append_right _ _ (Nat.le_refl _),Nat.sub_self];rfl
def zJ (s:ByteArray):List Nat:=s.data.toList.map fun c=>c.toNat-97
theorem yM (s:ByteArray):(zJ s).length=s.size:=by simp[zJ]
theorem oW {s:ByteArray}{i:Nat}(h:i<s.size):(zJ s).getD i 0=s[i].toNat-97:=by
 rw[zG (by rw[yM];exact h)];simp[zJ];rfl
theorem bP {k:Nat}{c:UInt8}:qW (k:Int) c=true↔97<=c.toNat/\c.toNat-97<k:=by
 unfold qW;rw[decide_eq_true_eq];omega
theorem uB {s:ByteArray}{k:Nat}(h:zU s (k:Int)=true):yO k (zJ s)/\(∀i (hi:i<s.size),97<=s[i].toNat/\s[i].toNat-97<k)/\s.size<=2048:=by
 simp only[zU,Bool.and_eq_true,decide_eq_true_eq,List.all_eq_true]at h;refine⟨fun a ha=>?_,fun i hi=>?_,h.1.2.2⟩
 ·obtain⟨c,hc,rfl⟩:=List.mem_map.1 ha
  exact(bP.1 (h.2 c hc)).2
 ·have hm:s[i]∈s.data.toList:=by
   have:s[i]=s.data.toList[i]'(by simpa using hi):=by simp;rfl
   rw[this];exact List.getElem_mem _
  exact bP.1 (h.2 _ hm)
theorem qGJ {c:Nat}(h:97<=c)(h2:c<256):IntKind.u8.wrap ((c:Int)-97)=((c-97:Nat):Int):=by
 unfold IntKind.wrap;simp[IntKind.bits,IntKind.signed];omega
theorem byte_facts0 {u:ByteArray}{k i:Nat}(h:∀i (hi:i<u.size),97<=u[i].toNat/\u[i].toNat-97<k)(hi:i<u.size):∃b a:Nat,(u[i].toNat:Int)=(b:Int)/\IntKind.u8.wrap ((b:Int)-97)=(a:Int)/\((b:Int)-97) % 256=(a:Int)/\a<k/\(zJ u).getD i 0=a:=by
 have hb:=h i hi;have h0:u[i].toNat<256:=u[i].toNat_lt;exact⟨u[i].toNat,u[i].toNat-97,rfl,qGJ hb.1 h0,by omega,hb.2,oW hi⟩
def rowv (k g:Nat):Value:=.slice (some ⟨g,0,none⟩) k k
structure BB (W0 W:World)(bb k:Nat)(t:List (List Nat))(gs:List Nat)(sn:Option Addr)(cn:Nat):Prop where
 box:W.heap[bb]?=some (.cells #[.int .i64 (k:Int),.slice sn t.length cn] 162 (0,0))
 own:W.ownsRow bb 34 1 (.slice sn t.length cn) t.length (gs.map (rowv k))
 len:gs.length=t.length
 row:∀i,i<t.length->Arr W (gs.getD i 0) 3 (nats (t.getD i []))/\(t.getD i []).length=k
 nd:gs.Nodup
 lo:W0.heap.size<=bb
 glo:∀g∈gs,W0.heap.size<=g
 grown:W0.grownBy W none
section
variable {W0 W W':World} {bb k:Nat} {t:List (List Nat)} {gs:List Nat} {sn:Option Addr} {cn:Nat}
theorem BB.start {bb k:Nat}(hb:W.heap[bb]?=some (.cells #[.int .i64 (k:Int),.slice none 0 0] 162 (0,0)))(h0:W0.heap.size<=bb)(hg:W0.grownBy W none):BB W0 W bb k [] [] none 0 :=
 ⟨hb,World.ownsRow_nil _ _ _ _,rfl,fun i hi=>by simp at hi,by simp,h0,by simp,hg⟩
theorem BB.cells (h:BB W0 W bb k t gs sn cn):W.cell? ⟨bb,0,none⟩=some (.int .i64 (k:Int))/\W.cell? ⟨bb,1,none⟩=some (.slice sn t.length cn)/\W.frozen? ⟨bb,1,none⟩=false:=by
 have c0:=zI h.box 0 (by simp);have c1:=zI h.box 1 (by simp);exact⟨by simpa using c0,by simpa using c1,zE h.box 1⟩
theorem BB.grow (h:BB W0 W bb k t gs sn cn)(hg:W.grownBy W' none):BB W0 W' bb k t gs sn cn where
 box:=zB h.box hg (by simp)
 own:=zP h.own hg
 len:=h.len
 row:=fun i hi=>⟨(h.row i hi).1.kept hg (by simp),(h.row i hi).2⟩
 nd:=h.nd
 lo:=h.lo
 glo:=h.glo
 grown:=zA h.grown hg (by simp)
theorem BB.hd (h:BB W0 W bb k t gs sn cn)(h0:0<t.length):∃q cap,sn=some ⟨q,0,none⟩/\cn=cap/\t.length<=cap/\cap<=maxLen/\∀i,i<t.length->W.cell? ⟨q,i,none⟩=some (rowv k (gs.getD i 0)):=by
 rcases id h.own.2 with ⟨e,_⟩|⟨q,cap,cur,e,_,_,hnc,hcm,_⟩
 ·simp only[Value.slice.injEq]at e;omega
 ·simp only[Value.slice.injEq]at e
  obtain⟨rfl,_,rfl⟩:=e;refine⟨q,cn,rfl,rfl,hnc,hcm,fun i hi=>?_⟩;have h1:i<gs.length:=by rw[h.len];exact hi
  rw[h.own.cellAt i (by omega),List.getElem?_map,List.getElem?_eq_getElem h1,zG h1];rfl
theorem BB.set (h:BB W0 W bb k t gs sn cn){i:Nat}(hi:i<t.length){r:List Nat}(hr:r.length=k)(hg:W.grownBy W' (some (gs.getD i 0)))(ha:Arr W' (gs.getD i 0) 3 (nats r)):BB W0 W' bb k (t.set i r) gs sn cn:=by
 obtain⟨cur,rest,hc,_⟩:=(h.row i hi).1
 have h1:gs.getD i 0≠bb:=fun e=>by
  rw[e,h.box]at hc;simp only[Option.some.injEq,Obj.cells.injEq]at hc;exact absurd hc.2.1 (by decide)
 have h0:i<gs.length:=by rw[h.len];exact hi
 refine⟨?_,?_,by rw[List.length_set];exact h.len,fun j hj=>?_,h.nd,h.lo,h.glo,zA h.grown hg (fun q e=>by have:=Oj e;subst this;exact h.glo _ (qCP h0))⟩
 ·rw[List.length_set];exact zB h.box hg (fun e=>h1 (Oj e))
 ·rw[List.length_set];exact h.own.kept hg (.inr (zQ h.own hc (by decide)))
 ·rw[List.length_set]at hj
  by_cases e:i=j
  ·subst e
   rw[kS hi];exact⟨ha,hr⟩
  ·rw[fN e]
   exact⟨(h.row j hj).1.kept hg (fun e2=>e (nodupN_getD h.nd h0 (by rw[h.len];exact hj) (Oj e2))),(h.row j hj).2⟩
theorem BB.put (h:BB W0 W bb k t gs sn cn){i j:Nat}(hi:i<t.length)(hj:j<k)(c:Nat):BB W0 (W.setCell ⟨gs.getD i 0,j,none⟩ (.int .i64 (c:Int))) bb k (t.set i ((t.getD i []).set j c)) gs sn cn:=by
 have hr:=h.row i hi;exact h.set hi (by rw[List.length_set];exact hr.2) (zC W ⟨gs.getD i 0,j,none⟩ _) (hr.1.nat_set j (by rw[hr.2];exact hj) c)
theorem BB.off (h:BB W0 W bb k t gs sn cn){g:Nat}{c:Array Value}{m:Nat×Nat}(hg:W.grownBy W' (some g))(hc:W.heap[g]?=some (.cells c 3 m))(hn:g ∉ gs)(h0:W0.heap.size<=g):BB W0 W' bb k t gs sn cn where
 box:=zB h.box hg (fun e=>by
  have:=Oj e
  subst this
  rw[h.box]at hc
  simp only[Option.some.injEq,Obj.cells.injEq]at hc
  exact absurd hc.2.1 (by decide))
 own:=h.own.kept hg (.inr (zQ h.own hc (by decide)))
 len:=h.len
 row:=fun i hi=>⟨(h.row i hi).1.kept hg (fun e=>hn (by rw[Oj e];exact qCP (by rw[h.len];exact hi))),(h.row i hi).2⟩
 nd:=h.nd
 lo:=h.lo
 glo:=h.glo
 grown:=zA h.grown hg (fun q e=>by have:=Oj e;omega)
theorem BB.lt (h:BB W0 W bb k t gs sn cn):∀g∈gs,g<W.heap.size:=fun g hg=>by
 obtain⟨i,hi,rfl⟩:=List.getElem_of_mem hg
 have:=(h.row i (by rw[<-h.len];exact hi)).1.lt
 rwa [zG hi]at this
theorem BB.push (h:BB W0 W bb k t gs sn cn){g:Nat}{r:List Nat}{sn':Option Addr}{cn':Nat}(hr:r.length=k)(ha:Arr W g 3 (nats r))(hgn:∀x∈gs,x≠g)(hg0:W0.heap.size<=g)(ho:W'.ownsRow bb 34 1 (.slice sn' (t.length+1) cn') (t.length+1) (gs.map (rowv k)++[rowv k g]))(hg:W.grownBy W' (Value.slice sn t.length cn).ownBlock){W2:World}(hW2:W2=W'.setCell ⟨bb,1,none⟩ (.slice sn' (t.length+1) cn')):BB W0 W2 bb k (t++[r]) (gs++[g]) sn' cn':=by
 have hb:=zB h.box hg (zQ h.own h.box (by decide));have h1:=heap_setCell_same W' bb 1 _ _ (.slice sn' (t.length+1) cn') hb;have g2:=zC W' ⟨bb,1,none⟩ (.slice sn' (t.length+1) cn');rw[<-hW2]at h1 g2
 have h0:∀ {q:Nat} {xs:List Value},Arr W q 3 xs->Arr W2 q 3 xs:=fun {q xs} hq=>by
  obtain⟨cu,rs,hc,_⟩:=id hq
  exact(hq.kept hg (zQ h.own hc (by decide))).kept g2 (fun e=>by
   have e:bb=q:=Oj e;subst e;rw[h.box]at hc;simp only[Option.some.injEq,Obj.cells.injEq]at hc
   exact absurd hc.2.1 (by decide))
 have e1:(t++[r]).length=t.length+1:=by simp
 refine⟨?_,?_,by simp[h.len],fun i hi=>?_,?_,h.lo,?_,zA (zA h.grown hg (fun j e=>Nat.le_trans h.lo (h.own.lt j e).1)) g2 (fun j e=>by have e:bb=j:=Oj e;have:=h.lo;omega)⟩
 ·rw[h1,e1];simp
 ·rw[e1,List.map_append];exact ho.kept g2 (.inr (zQ ho hb (by decide)))
 ·rw[e1]at hi
  by_cases hi':i<t.length
  ·rw[yN (by rw[h.len];exact hi'),yN hi']
   exact⟨h0 (h.row i hi').1,(h.row i hi').2⟩
  ·have:i=t.length+0:=by omega
   rw[this,wP];rw[show (gs++[g]).getD (t.length+0) 0=g by rw[<-h.len,wP];rfl];exact⟨h0 ha,hr⟩
 ·rw[List.nodup_append]
  exact⟨h.nd,by simp,fun x hx y hy e=>by simp at hy;subst hy;exact hgn x hx e⟩
 ·intro x hx
  rcases List.mem_append.1 hx with hx|hx
  ·exact h.glo x hx
  ·simp at hx;subst hx;exact hg0
end
section
variable {W0 W W':World} {bb k:Nat} {t:List (List Nat)} {gs:List Nat} {sn:Option Addr} {cn:Nat} {r:List Nat} {g:Nat}
theorem BB.lastlen (h:BB W0 W bb k (t++[r]) (gs++[g]) sn cn):gs.length=t.length:=by have:=h.len;simp at this;exact this
theorem BB.last (h:BB W0 W bb k (t++[r]) (gs++[g]) sn cn):Arr W g 3 (nats r)/\r.length=k:=by
 have:=h.row t.length (by simp)
 rwa [nQ rfl,nQ h.lastlen.symm]at this
theorem BB.putLast (h:BB W0 W bb k (t++[r]) (gs++[g]) sn cn){j:Nat}(hj:j<k)(c:Nat):BB W0 (W.setCell ⟨g,j,none⟩ (.int .i64 (c:Int))) bb k (t++[r.set j c]) (gs++[g]) sn cn:=by
 have:=h.put (i:=t.length) (by simp) hj c
 rwa [nQ rfl,nQ h.lastlen.symm,qEE rfl]at this
end
def RowAdded (W0:World)(bb k:Nat)(t:List (List Nat))(gs:List Nat)(u0:Nat)(e:Ending)(W':World):Prop :=
 ∃g sn cn,e=.returned (.slice (some ⟨g,0,none⟩) k k)/\BB W0 W' bb k (t++[List.replicate k u0]) (gs++[g]) sn cn
theorem nD (W0 W:World)(bb k:Nat)(t:List (List Nat))(gs:List Nat)(sn:Option Addr)(cn u0:Nat)(h:BB W0 W bb k t gs sn cn)(hk1:1<=k)(hk6:k<=6)(ht:t.length<=1000):Calls Try.prog 106 #[.pointer (some ⟨bb,0,none⟩),.int .i64 (u0:Int)] W (RowAdded W0 bb k t gs u0):=by
 obtain⟨c0,c1,f1⟩:=h.cells;have H:=Kh h;clear h;go_enter Try.func106,Try.ntmps106;go_wp2_with (first|(at_make;refine kC rfl _ _ _ rfl yP rfl .i64 .i64 _ _ k rfl rfl rfl rfl ?b1 ?b2 ?_;(case b1=>omega);(case b2=>(unfold maxLen;omega));intro w2 h0 H6 h4)|fail);obtain⟨g,hg⟩:∃g,g=W.heap.size:=⟨_,rfl⟩;rw[<-hg]at h0 h4⊢;have H9:=Kh (H.out.grow H6);have H4:g ∉ gs:=fun hm=>by have:=H.out.lt g hm;omega
 have H7:W0.heap.size<=g:=by have:=H.out.grown.size;omega
 have H3:Hid (Arr w2 g 3 (nats (List.replicate 0 u0++List.replicate (k-0) 0))):=Kh (by
  rw[show List.replicate 0 u0++List.replicate (k-0) 0=List.replicate k 0 by simp,xI];exact h0)
 have H8:=Kh H4;clear h0 H6 hg H4 c0 c1 f1 h4
 go_loopg [6,14] k (fun gh a6 i wr=>∃x:Nat,gh+x=k/\i=.int .i64 x/\Arr wr g 3 (nats (List.replicate x u0++List.replicate (k-x) 0))/\w2.grownBy wr (some g))
 case atStart=>exact⟨0,rfl,rfl,H3.out,zH _ _⟩
 case round =>
  obtain⟨x,H5,rfl,h0,h9⟩:=hrel;have h6:=Kh H5;have HA:=Kh h0;have a7:=Kh h9;clear H5
  have h7:(List.replicate x u0++List.replicate (k-x) 0).length=k:=by
   have:=h6.out;simp;omega
  by_cases hx:x<k
  ·have b0:(x:Int)<k:=by omega
   have cx:=h0.nat x (by omega);have fx:=h0.frozen x
   have h3:(List.replicate x u0++List.replicate (k-x) 0).set x u0=List.replicate (x+1) u0++List.replicate (k-(x+1)) 0:=by
    rw[List.set_append_right _ _ (by simp),List.length_replicate,Nat.sub_self,show k-x=(k-(x+1))+1 by omega,List.replicate_succ,List.set_cons_zero,List.replicate_succ',List.append_assoc];rfl
   have H2:=Kh h3;have a4:=Kh h7;clear h0 h9 h3 h7;go_wp2;go_roundg (k-(x+1))
   case measure=>have:=h6.out;omega
   case rel=>exact⟨x+1,by have:=h6.out;omega,by go_num,by rw[<-H2.out];exact HA.out.nat_set x (by rw[a4.out];exact hx) u0,zD a7.out (zC wr ⟨g,x,none⟩ _)⟩
  ·have a0:x=k:=by have:=h6.out;omega
   subst a0;have hr:List.replicate x u0++List.replicate (x-x) 0=List.replicate x u0:=by simp
   rw[hr]at HA;obtain⟨cur,rest,h5,_⟩:=H3.out;have h2:=Kh (H9.out.off h9 h5 H8.out H7);obtain⟨c0,c1,f1⟩:=h2.out.cells;clear h5 h7 hr h0 H3 H9;have b5:=zK h2.out.box;go_wp2_with (first|(at_builtin;refine qCZ rfl _ _ _ rfl vU bb (.slice sn t.length cn) t.length (gs.map (rowv x)) rfl h2.out.own (rowv x g) rfl rfl ?a1 ?a2 ?a3 ?_;(case a1=>(unfold maxLen;omega));(case a2=>omega);(case a3=>omega);intro sn6 cn6 w6 h1 H0 a9 h8;(have a5:=Kh h1);(have a8:=Kh H0);(have H1:=zB h2.out.box H0 (zQ h2.out.own h2.out.box (by decide)));(have b4:w6.cell? ⟨bb,1,none⟩=some (.slice sn t.length cn):=by simpa using zI H1 1 (by simp));(have b3:=zE H1 1);clear h1 H0 h8 H1)|fail);go_ret;exact⟨g,sn6,cn6,rfl,h2.out.push (by simp) HA.out (fun y hy e=>H8.out (e ▸ hy)) H7 a5.out a8.out rfl⟩
def preN (k:Nat)(b:List Nat)(j:Nat):List Nat:=(List.range k).map fun a=>if b.getD j 0=a then 2+j else 0
def qR (k:Nat)(b:List Nat)(m:Nat):List (List Nat):=(List.range m).map (preN k b)
theorem set_replicate {k a c:Nat}:(List.replicate k 0).set a c=(List.range k).map fun i=>if a=i then c else 0:=by
 refine List.ext_getElem (by simp) fun i h1 h2=>?_;rw[List.getElem_set];simp
theorem preNs_succ (k:Nat)(b:List Nat)(m:Nat):qR k b (m+1)=qR k b m++[preN k b m]:=by
 simp[qR,List.range_succ]
def qFZ (W0:World)(bb k:Nat)(t:List (List Nat))(e:Ending)(W':World):Prop:=∃gs sn cn,e=.returned (.tuple #[])/\BB W0 W' bb k t gs sn cn
theorem bprefix_any (W0 W:World)(bb k:Nat)(t:List (List Nat))(gs:List Nat)(sn:Option Addr)(cn:Nat)(u:ByteArray)(h:BB W0 W bb k t gs sn cn)(ht:t.length=1)(hk1:1<=k)(hk6:k<=6)(hu:zU u (k:Int)=true)(hl:u.size<=64):Calls Try.prog 107 #[.pointer (some ⟨bb,0,none⟩),.string u] W (qFZ W0 bb k (t++qR k (zJ u) u.size)):=by
 have H:=Kh h;have HU:=Kh (uB hu);have H5:t.length<=1:=by omega
 have HT:=Kh ht;clear h hu ht;go_enter Try.func107,Try.ntmps107;go_wp2_with fail
 go_loopg [4,5,8] u.size (fun gh a4 a5 i wr=>∃(j:Nat) (gs:List Nat) (sn:Option Addr) (cn:Nat),gh+j=u.size/\i=.int .i64 j/\BB W0 wr bb k (t++qR k (zJ u) j) gs sn cn)
 case atStart=>exact⟨0,gs,sn,cn,rfl,rfl,by simpa [qR] using H.out⟩
 case round =>
  clear H;obtain⟨j,gs,sn,cn,h7,rfl,h2⟩:=hrel;have h6:=Kh h7;have H8:=Kh h2;clear h7;by_cases hj:j<u.size
  ·have H6:(j:Int)<u.size:=by omega
   have h4:(t++qR k (zJ u) j).length=j+1:=by have:=HT.out;simp[qR];omega
   have H7:=Kh h4;go_wp2_with fail;refine(nD W0 wr bb k _ gs sn cn 0 h2 hk1 hk6 (by omega)).mono ?_;rintro e w1 ⟨g,sn1,cn1,rfl,h3⟩;obtain⟨c0,c1,f1⟩:=h3.cells;have hr:=h3.last;rw[List.length_append,h4]at c1;have hb:=HU.out.2.1 j hj;obtain⟨by0,h1⟩:∃b,b=u[j].toNat:=⟨_,rfl⟩;have h5:by0<256:=(by rw[h1];exact u[j].toNat_lt);rw[<-h1]at hb;obtain⟨a,ha⟩:∃a,a=by0-97:=⟨_,rfl⟩;have h9:=qGJ hb.1 h5;rw[<-ha]at h9;have h8:((by0:Int)-97) % 256=(a:Int):=by omega
   have H3:a<k:=(by omega);have H2:(a:Int)<k:=(by omega);have ca:=hr.1.nat a (by simp;omega);have fa:=hr.1.frozen a;have h0:(zJ u).getD j 0=a:=by rw[oW hj,<-h1,ha]
   have HL:=Kh h0;have H4:=Kh h3;have HR:=Kh hr;have H1:(u[j].toNat:Int)=(by0:Int):=by rw[h1]
   clear hb h1 ha hr h2 h3 h0 h4;go_wp2_with fail
   go_region
   all_goals (try go_frame)
   all_goals go_wp2
   all_goals
    go_roundg (u.size-(j+1))
    case measure=>have:=h6.out;omega
    case rel =>
     have hp:=(H4.out.putLast H3 (2+j)).grow (zO _ none);have e:((2+j:Nat):Int)=(j:Int)+1+1:=by omega
     rw[e,set_replicate,<-HL.out,List.append_assoc]at hp;rw[<-HL.out];exact⟨j+1,gs++[g],sn1,cn1,by have:=h6.out;omega,by go_num,by rw[preNs_succ];exact hp⟩
  ·have H0:j=u.size:=by have:=h6.out;omega
   subst H0;go_wp2;exact bodyPost_ret (v:=.tuple #[]) (by simp[results,Try.results107,go_sem]) rfl ⟨gs,sn,cn,rfl,h2⟩
def kmpN (k c:Nat)(u:List Nat)(j:Nat):List Nat:=(List.range k).map fun a=>c+kmp u (u.take j++[a])
def wU (k c:Nat)(u:List Nat)(m:Nat):List (List Nat):=(List.range m).map (kmpN k c u)
theorem kE (k c:Nat)(u:List Nat)(j:Nat):(kmpN k c u j).length=k:=by simp[kmpN]
theorem kmpN_get {k c:Nat}{u:List Nat}{j a:Nat}(h:a<k):(kmpN k c u j).getD a 0=c+kmp u (u.take j++[a]):=xP _ h _
theorem vM (k c:Nat)(u:List Nat)(m:Nat):(wU k c u m).length=m:=by simp[wU]
theorem iS (k c:Nat)(u:List Nat)(m:Nat):wU k c u (m+1)=wU k c u m++[kmpN k c u m]:=by simp[wU,List.range_succ]
theorem searchN_get {k c:Nat}{u:List Nat}{m j:Nat}(h:j<m):(wU k c u m).getD j []=kmpN k c u j:=xP _ h _
theorem row_zero {k c:Nat}{u:List Nat}(hu:u≠[]):(List.replicate k c).set (u.getD 0 0) (c+1)=kmpN k c u 0:=by
 have h0:0<u.length:=List.length_pos_iff.2 hu;refine List.ext_getElem (by simp[kmpN]) fun i h1 h2=>?_;rw[List.getElem_set];simp only[kmpN,List.getElem_map,List.getElem_range,List.getElem_replicate];by_cases e:u.getD 0 0=i
 ·rw[if_pos e,<-e,qIW h0]
 ·rw[if_neg e,qEZ (.inr e)];rfl
theorem row_next {k c:Nat}{u:List Nat}{i:Nat}(h0:0<i)(h:i<u.length):(kmpN k c u (lJ u i)).set (u.getD i 0) (c+i+1)=kmpN k c u i:=by
 refine List.ext_getElem (by simp[kmpN]) fun j h1 h2=>?_;rw[List.getElem_set];simp only[kmpN,List.getElem_map,List.getElem_range];by_cases e:u.getD i 0=j
 ·rw[if_pos e,<-e,qIW h];omega
 ·rw[if_neg e,qFA h0 (by omega) (.inr e)]
theorem qEG {k c:Nat}{u:List Nat}(h0:0<u.length):kmpN k c u (lJ u u.length)=kmpN k c u u.length:=by
 refine List.map_congr_left fun a _=>?_;rw[qFA h0 (Nat.le_refl _) (.inl rfl)]
theorem aK {k:Nat}{t:List (List Nat)}{u:List Nat}{m j:Nat}(h:j<m):(t++wU k t.length u m).getD (t.length+j) []=kmpN k t.length u j:=by
 rw[wP,searchN_get h]
theorem qFO {W : World}{g s k : Nat}{r q : List Nat}(hg : Arr W g 3 (nats q))(hq : q.length = k)(hs : Arr W s 3 (nats r))(hr : r.length = k): (Builtin.copy_ #[34, 34] 3 #[.slice (some ⟨g, 0, none⟩) k k, .slice (some ⟨s, 0, none⟩) k k]).run Try.prog W = .ok (.int .i64 (k : Int)) (W.setCells g 0 (nats r)) ∧ Arr (W.setCells g 0 (nats r)) g 3 (nats r) ∧ W.grownBy (W.setCells g 0 (nats r)) (some g) := by
 have hl : (nats r).length = k := by rw [zW, hr]
 refine ⟨?_, ?_, ?_⟩
 ·have := run_copy_cells (P := Try.prog) W 34 34 3 3 g 0 k k ⟨s, 0, none⟩ k k (nats r) Try.underlying34 (by kernel_rfl) (by rw [hl]; simp [Nat.min_def])
   (fun j u hj => by
    obtain ⟨hj1, hj2⟩ := List.getElem?_eq_some_iff.1 hj
    have := hs.cell j hj1
    rw [hj2] at this
    have e : (⟨s, 0, none⟩ : Addr).add j = ⟨s, j, none⟩ := by
     unfold Addr.add; split <;> simp_all
    rw [e]; exact this)
   (fun j hj => by rw [Nat.zero_add, hg.cell j (by rw [zW] at *; omega)]; rfl) (fun j _ => hg.frozen _) (fun v hv => by
    obtain ⟨x, _, rfl⟩ := List.mem_map.1 hv; rfl)
  rw [this, hl]; rfl
 ·have := hg.setCells (nats r) 0 (by rw [Nat.zero_add, hl, zW]; omega)
  rw [List.take_zero, List.nil_append, Nat.zero_add, List.drop_eq_nil_of_le (by rw [hl, zW]; omega), List.append_nil] at this
  exact this
 ·have key : ∀ (vs : List Value) (o : Nat) (W : World), W.grownBy (W.setCells g o vs) (some g) := fun vs => by
   induction vs with
   | nil => intro o W; exact zH _ _
   | cons v vs ih => intro o W; rw [World.setCells]; exact zD (zC W ⟨g, o, none⟩ v) (ih (o + 1) _)
  exact key _ _ _
theorem BB.setLast {W0 W W':World}{bb k:Nat}{t:List (List Nat)}{gs:List Nat}{sn:Option Addr}{cn:Nat}{r r':List Nat}{g:Nat}(h:BB W0 W bb k (t++[r]) (gs++[g]) sn cn)(hr:r'.length=k)(hg:W.grownBy W' (some g))(ha:Arr W' g 3 (nats r')):BB W0 W' bb k (t++[r']) (gs++[g]) sn cn:=by
 have e:(gs++[g]).getD t.length 0=g:=nQ h.lastlen.symm;have:=h.set (i:=t.length) (by simp) hr (by rw[e];exact hg) (by rw[e];exact ha)
 rwa [qEE rfl]at this
def Searched (W0:World)(bb k:Nat)(t:List (List Nat))(u:List Nat)(e:Ending)(W':World):Prop :=
 ∃gs sn cn,e=.returned (.slice (some ⟨gs.getD (t.length+lJ u u.length) 0,0,none⟩) k k)/\BB W0 W' bb k (t++wU k t.length u u.length) gs sn cn
theorem iJ {u:ByteArray}{k i:Nat}(h:∀i (hi:i<u.size),97<=u[i].toNat/\u[i].toNat-97<k)(hi:i<u.size):∃b a:Nat,(u[i].toNat:Int)=(b:Int)/\IntKind.u8.wrap ((b:Int)-97)=(a:Int)/\((b:Int)-97) % 256=(a:Int)/\a<k/\(zJ u).getD i 0=a:=by
 have hb:=h i hi;have h0:u[i].toNat<256:=u[i].toNat_lt;exact⟨u[i].toNat,u[i].toNat-97,rfl,qGJ hb.1 h0,by omega,hb.2,oW hi⟩
theorem dL (W0 W:World)(bb k:Nat)(t:List (List Nat))(gs:List Nat)(sn:Option Addr)(cn:Nat)(u:ByteArray)(h:BB W0 W bb k t gs sn cn)(ht:t.length<=500)(hk1:1<=k)(hk6:k<=6)(hu:zU u (k:Int)=true)(h0:0<u.size)(hl:u.size<=64):Calls Try.prog 108 #[.pointer (some ⟨bb,0,none⟩),.string u] W (Searched W0 bb k t (zJ u)):=by
 obtain⟨c0,c1,f1⟩:=h.cells;have H:=Kh h;have HU:=Kh (uB hu);obtain⟨v,hv⟩:∃v,v=zJ u:=⟨_,rfl⟩;have H3:v.length=u.size:=by rw[hv,yM]
 have a5:v≠[]:=by intro e;rw[e]at H3;simp at H3;omega
 rw[<-hv];have HV:=Kh hv;have d3:=Kh a5;have H2:=Kh H3;obtain⟨c,hc⟩:∃c,c=t.length:=⟨_,rfl⟩;rw[<-hc]at c1 ht;have HC:=Kh hc;have d9:(0:Int)<u.size:=by omega
 clear h hu hv H3 a5 hc;go_enter Try.func108,Try.ntmps108;go_wp2_with fail;refine(nD W0 W bb k t gs sn cn c H.out hk1 hk6 (by have:=HC.out;omega)).mono ?_;rintro e w1 ⟨g,sn1,cn1,rfl,a1⟩;obtain⟨b0,a0,d1,c4,c7,h8,H0⟩:=iJ HU.out.2.1 h0;have hr:=a1.last;have ca:=hr.1.nat a0 (by simp;omega);have fa:=hr.1.frozen a0;have a2:(a0:Int)<k:=by omega
 have c5:(nats (List.replicate k c)).length=k:=by rw[zW,List.length_replicate]
 have c3:Hid (BB W0 (w1.setCell ⟨g,a0,none⟩ (.int .i64 ((c+1:Nat):Int))) bb k (t++wU k c v 1) (gs++[g]) sn1 cn1):=Kh (by
  have:=a1.putLast h8 (c+1)
  rw[show wU k c v 1=[kmpN k c v 0] by rfl,<-row_zero d3.out,HV.out,H0];exact this)
 clear hr a1 H0 c0 c1 f1 H;go_wp2_with fail;obtain⟨w2,H7⟩:∃w2,w2=w1.setCell ⟨g,a0,none⟩ (.int .i64 ((c:Int)+1)):=⟨_,rfl⟩
 have c2:Hid (BB W0 w2 bb k (t++wU k c v 1) (gs++[g]) sn1 cn1):=Kh (by
  rw[H7,show ((c:Int)+1)=((c+1:Nat):Int) by omega];exact c3.out)
 rw[<-H7];clear H7 ca fa c3
 go_loopg [7,8,9] (u.size-1) (fun gh a7 i a9 wr=>∃(j:Nat) (gs:List Nat) (sn:Option Addr) (cn:Nat),gh+j=u.size/\i=.int .i64 j/\1<=j/\a7=.int .i64 ((c+lJ v j:Nat):Int)/\BB W0 wr bb k (t++wU k c v j) gs sn cn)
 case atStart=>exact⟨1,_,_,_,by omega,rfl,Nat.le_refl _,by rw[backK_one (by rw[H2.out];omega)];rfl,c2.out⟩
 case round =>
  clear c2;obtain⟨j,gs,sn,cn,b2,rfl,d8,rfl,h2⟩:=hrel;have a3:=Kh b2;have c8:j<=u.size:=by omega
  clear b2;have a6:(t++wU k c v j).length=c+j:=by rw[List.length_append,vM,HC.out]
  have b7:lJ v j<j:=qAQ (by omega) (by rw[H2.out];exact c8);obtain⟨q,hq⟩:∃q,q=lJ v j:=⟨_,rfl⟩;rw[<-hq]at b7⊢;have HQ:=Kh hq;have h1:=Kh a6;clear hq a6;by_cases hj:j<u.size
  ·have c9:(j:Int)<u.size:=by omega
   go_wp2_with fail;refine(nD W0 wr bb k _ gs sn cn c h2 hk1 hk6 (by rw[h1.out];omega)).mono ?_;rintro e w4 ⟨g4,sn4,cn4,rfl,h4⟩;obtain⟨c0,c1,f1⟩:=h4.cells;rw[List.length_append,h1.out,List.length_singleton]at c1;obtain⟨h6,cap4,rfl,rfl,H9,h9,h7⟩:=h4.hd (by rw[List.length_append,List.length_singleton];omega);rw[List.length_append,h1.out,List.length_singleton]at H9 h7;have h5:=h4.row (c+q) (by rw[List.length_append,h1.out];omega);have b1:gs.length=c+j:=by rw[h2.len,h1.out]
   have e1:(gs++[g4]).getD (c+q) 0=gs.getD (c+q) 0:=yN (by omega) 0
   have e2:((t++wU k c v j)++[List.replicate k c]).getD (c+q) []=kmpN k c v q:=by
    rw[yN (by rw[h1.out];omega),HC.out,aK b7]
   rw[e1,e2]at h5;have chd:=h7 (c+q) (by omega);rw[e1]at chd;obtain⟨s,hs⟩:∃s,s=gs.getD (c+q) 0:=⟨_,rfl⟩;rw[<-hs]at h5 chd;replace chd:w4.cell? ⟨h6,c+q,none⟩=some (.slice (some ⟨s,0,none⟩) k k):=chd;obtain⟨b4,b6,b5⟩:=qFO h4.last.1 h4.last.2 h5.1 h5.2;have H4:=h4.setLast h5.2 b5 b6;obtain⟨w5,a4⟩:∃w5,w5=w4.setCells g4 0 (nats (kmpN k c v q)):=⟨_,rfl⟩;rw[<-a4]at b4 H4;obtain⟨b0,a0,d1,c4,c7,h8,H0⟩:=iJ HU.out.2.1 hj;have H8:=H4.last;have ca:=H8.1.nat a0 (by rw[kE];exact h8);have fa:=H8.1.frozen a0;have a2:(a0:Int)<k:=(by omega);have c5:(nats (kmpN k c v q)).length=k:=by rw[zW,kE]
   have d0:cn4<=9223372036854775807:=by unfold maxLen at h9;omega
   have d6:=Kh H4;have b8:=Kh H0;have HS:=Kh hs;have b9:=Kh b1;have e4:=Kh h2;have e0:(c:Int)+q<c+j+1:=(by omega);clear h5 b6 b5 h4 H4 H8 H0 hs b1 h7 h9 h2 a4;obtain⟨w6,H6⟩:∃w6,w6=w5.setCell ⟨g4,a0,none⟩ (.int .i64 ((c:Int)+j+1)):=⟨_,rfl⟩
   have H5:Hid (BB W0 w6 bb k (t++wU k c v (j+1)) (gs++[g4]) (some ⟨h6,0,none⟩) cn4):=Kh (by
    have:=d6.out.putLast h8 (c+j+1);have ea:v.getD j 0=a0:=by rw[HV.out];exact b8.out
    have er:(kmpN k c v q).set a0 (c+j+1)=kmpN k c v j:=by
     rw[HQ.out,<-ea];exact row_next (by omega) (by rw[H2.out];exact hj)
    rw[er,List.append_assoc,<-iS]at this;rw[H6,show ((c:Int)+j+1)=((c+j+1:Nat):Int) by omega]
    exact this)
   have h3:=H5.out.row (c+q) (by rw[List.length_append,vM,HC.out];omega);rw[yN (by rw[b9.out];omega),HC.out,aK (by omega),<-HC.out,<-HS.out]at h3;have cs6:=h3.1.nat a0 (by rw[kE];exact h8)
   have enx:(kmpN k c v q).getD a0 0=c+lJ v (j+1):=by
    have ea:v.getD j 0=a0:=by rw[HV.out];exact b8.out
    rw[kmpN_get h8,backK_next (by omega) (by rw[H2.out];exact hj),<-HQ.out,ea]
   rw[enx]at cs6;obtain⟨c60,c61,f61⟩:=H5.out.cells;rw[List.length_append,vM,<-HC.out]at c61;obtain⟨d7,cap6,e6,e6',e3,c6,b3⟩:=H5.out.hd (by rw[List.length_append,vM];omega);simp only[Option.some.injEq,Addr.mk.injEq,and_true]at e6;have chd6:=b3 (c+q) (by rw[List.length_append,vM,<-HC.out];omega);have e1:(gs++[g4]).getD (c+q) 0=s:=by rw[yN (by rw[b9.out];omega),<-HS.out]
   rw[e1]at chd6;subst e6;replace chd6:w6.cell? ⟨h6,c+q,none⟩=some (.slice (some ⟨s,0,none⟩) k k):=chd6;obtain⟨B,hB⟩:∃B,B=c+lJ v (j+1):=⟨_,rfl⟩;rw[<-hB]at cs6;have d5:=Kh hB;have d2:=Kh H6;clear h3 enx b3 c6 H6 e6' hB e1;go_wp2_with fail;rw[<-d2.out];clear b4 c0 c1 f1 chd ca fa
   go_region
   all_goals (try go_frame)
   all_goals go_wp2
   all_goals
    go_roundg (u.size-1-j)
    case measure=>have:=a3.out;omega
    case rel=>exact⟨j+1,_,_,_,by have:=a3.out;omega,by go_num,by omega,by rw[d5.out],H5.out.grow (zO _ none)⟩
  ·have H1:j=u.size:=by have:=a3.out;omega
   have c9:¬(j:Int)<u.size:=(by omega);obtain⟨c0,c1,f1⟩:=h2.cells;rw[h1.out]at c1;obtain⟨h6,cap4,rfl,rfl,H9,h9,h7⟩:=h2.hd (by rw[h1.out];omega);have chd:=h7 (c+q) (by rw[h1.out];omega);rw[h1.out]at H9;obtain⟨s,hs⟩:∃s,s=gs.getD (c+q) 0:=⟨_,rfl⟩;rw[<-hs]at chd;replace chd:wr.cell? ⟨h6,c+q,none⟩=some (.slice (some ⟨s,0,none⟩) k k):=chd;have d0:cn<=9223372036854775807:=by unfold maxLen at h9;omega
   have HB:=Kh h2;have HS:=Kh hs;have d4:=Kh H1;clear h2 h7 h9 hs H1;go_wp2;go_ret;have a8:j=v.length:=by rw[d4.out,H2.out]
   refine⟨gs,some ⟨h6,0,none⟩,cn,?_,?_⟩
   ·rw[<-a8,<-HQ.out,<-HC.out,<-HS.out];rfl
   ·rw[<-a8,<-HC.out];exact HB.out
def sufN (k c:Nat)(u:List Nat):List (List Nat):=wU k c u (u.length+1)
theorem sufN_nil (k c:Nat):sufN k c []=[List.replicate k c]:=by
 have e:kmpN k c [] 0=List.replicate k c:=by
  refine List.ext_getElem (by simp[kmpN]) fun i h1 h2=>?_;simp only[kmpN,List.getElem_map,List.getElem_range,List.getElem_replicate];rw[qEZ (.inl rfl)];rfl
 show wU k c [] 1=_;rw[<-e];rfl
theorem bsuffix_any (W0 W:World)(bb k:Nat)(t:List (List Nat))(gs:List Nat)(sn:Option Addr)(cn:Nat)(u:ByteArray)(h:BB W0 W bb k t gs sn cn)(ht:t.length<=500)(hk1:1<=k)(hk6:k<=6)(hu:zU u (k:Int)=true)(hl:u.size<=64):Calls Try.prog 109 #[.pointer (some ⟨bb,0,none⟩),.string u] W (qFZ W0 bb k (t++sufN k t.length (zJ u))):=by
 obtain⟨c0,c1,f1⟩:=h.cells;have H:=Kh h;obtain⟨c,hc⟩:∃c,c=t.length:=⟨_,rfl⟩;rw[<-hc]at c1 ht;have HC:=Kh hc;clear h;by_cases h0:u.size=0
 ·have H4:u=⟨#[]⟩:=by
   have:u.data=#[]:=Array.size_eq_zero_iff.1 h0;cases u;simp_all
  subst H4;have H0:zJ (⟨#[]⟩:ByteArray)=[]:=rfl;have H8:=Kh H0;clear hu hl h0 H0 hc;go_enter Try.func109,Try.ntmps109;go_wp2_with fail;refine(nD W0 W bb k t gs sn cn c H.out hk1 hk6 (by have:=HC.out;omega)).mono ?_;rintro e w1 ⟨g,sn1,cn1,rfl,h1⟩;go_wp2;refine bodyPost_ret (v:=.tuple #[]) (by simp[results,Try.results109,go_sem]) rfl ⟨gs++[g],sn1,cn1,rfl,?_⟩;rw[H8.out,sufN_nil,<-HC.out];exact h1
 ·have a0:u.toList.isEmpty=false:=by
   rw[ByteArray.toList_eq,List.isEmpty_eq_false_iff];intro e;have:=congrArg List.length e;rw[Array.length_toList]at this;exact h0 this
  have h7:=Kh (dL W0 W bb k t gs sn cn u H.out (by omega) hk1 hk6 hu (by omega) hl);obtain⟨v,hv⟩:∃v,v=zJ u:=⟨_,rfl⟩;have h8:v.length=u.size:=by rw[hv,yM]
  rw[<-hv]at h7⊢;have HV:=Kh hv;have H7:=Kh h8;have h5:0<v.length:=by omega
  clear hu hc hv h8 h0 c0 c1 f1;go_enter Try.func109,Try.ntmps109;go_wp2_with fail;refine h7.out.mono ?_;rintro e w1 ⟨gs1,sn1,cn1,rfl,h1⟩;clear h7 H;rw[<-HC.out]at h1⊢;have h9:(t++wU k c v v.length).length=c+v.length:=by rw[List.length_append,vM,HC.out]
  have H3:=qAQ h5 (Nat.le_refl v.length);obtain⟨q,hq⟩:∃q,q=lJ v v.length:=⟨_,rfl⟩;rw[<-hq]at H3⊢;have HQ:=Kh hq;have h4:=Kh h9;obtain⟨s,hs⟩:∃s,s=gs1.getD (c+q) 0:=⟨_,rfl⟩;have HS:=Kh hs;rw[<-hs];clear hq h9 hs;go_wp2_with fail;refine(nD W0 w1 bb k _ gs1 sn1 cn1 0 h1 hk1 hk6 (by rw[h4.out,H7.out];omega)).mono ?_;rintro e w2 ⟨g,sn2,cn2,rfl,h3⟩;have H5:gs1.length=c+v.length:=by rw[h1.len,h4.out]
  have e1:(gs1++[g]).getD (c+q) 0=s:=by rw[yN (by omega),<-HS.out]
  have h2:=h3.row (c+q) (by rw[List.length_append,h4.out];omega)
  have e2:((t++wU k c v v.length)++[List.replicate k 0]).getD (c+q) []=kmpN k c v q:=by
   rw[yN (by rw[h4.out];omega),HC.out,aK H3]
  rw[e1,e2]at h2;obtain⟨H6,H2,H1⟩:=qFO h3.last.1 h3.last.2 h2.1 h2.2;have h6:=h3.setLast h2.2 H1 H2;rw[HQ.out,qEG h5,List.append_assoc,<-iS]at h6;rw[HQ.out,qEG h5]at H6;have H9:=Kh h6;clear H2 H1 h2 e1 e2 H5 h1 h3 h6;go_wp2;refine bodyPost_ret (v:=.tuple #[]) (by simp[results,Try.results109,go_sem]) rfl ⟨gs1++[g],sn2,cn2,rfl,by unfold sufN;rw[<-HC.out];exact H9.out⟩
end Go.Proofs.Ytjfdomfendbhfaa
