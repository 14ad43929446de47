/- Part 2 of the proof: Shelf, Match, MayL, TabPlain, Mat. -/
import Derived.Test.YtjfdomfendbhfaaQe1
import Derived.Shelf.Small.Wraps
import Derived.Shelf.Strings.Search1
import Derived.Shelf.Strings.Search2
import Derived.Shelf.Strings.Cut
import Derived.Shelf.LaysM
import Derived.Shelf.Strings.Shaped
import Derived.Shelf.Strings.Prefix
import Derived.Shelf.Bits.Mul64
import Derived.Ground.Names2Prog
import Derived.Shelf.Slices.Clone
import Derived.Test.YtjfdomfendbhfaaProg
import Derived.Deep.LoopGhost
set_option linter.unusedVariables false
set_option linter.unusedSimpArgs false
namespace Go.Proofs
open Go.Shelf
def Try.lays103_ren:Go.Shelf.Ren:=⟨fun|103=>73|210=>95|206=>119|n=>n,fun|9=>9|4=>4|24=>120|3=>3|n=>n,fun|n=>n⟩
theorem Try.lays103:Go.Proofs.Lays.n103 Try.prog Try.lays103_ren:={
 mixed:=by kernel_rfl
 f103:=Try.func73.trans (congrArg some (by kernel_rfl))
 f206:=Try.func119.trans (congrArg some (by kernel_rfl))
 f210:=Try.func95.trans (congrArg some (by kernel_rfl))
 t3:=Try.underlying3
 a3:=Try.isAgg3
 z3:=Try.sizeOf3
 v3:=Try.zeroValue3
 t4:=Try.underlying4
 a4:=Try.isAgg4
 z4:=Try.sizeOf4
 v4:=Try.zeroValue4
 t9:=Try.underlying9
 a9:=Try.isAgg9
 z9:=Try.sizeOf9
 v9:=Try.zeroValue9
 t24:=Try.underlying120
 a24:=Try.isAgg120
 z24:=Try.sizeOf120
 v24:=Try.zeroValue120 }
open Go.RowKit in
theorem Try.strings_CutPrefix (s p:ByteArray) (w:World) :
  Calls Try.prog 73 #[.string s,.string p] w fun e w'=>e=.returned (.tuple #[.string ⟨(Lib.trimPrefix s.data.toList p.data.toList).toArray⟩,.bool (Lib.hasPrefix s.data.toList p.data.toList)])/\w'=w:=Any.strings_CutPrefix Try.lays103 s p w
def Try.lays145_ren:Go.Shelf.Ren:=⟨fun|145=>74|220=>96|219=>120|217=>126|225=>127|224=>128|267=>129|266=>133|314=>134|n=>n,fun|9=>9|4=>4|59=>122|3=>3|5=>5|46=>155|146=>186|51=>185|n=>n,fun|1=>0|n=>n⟩
theorem Try.lays145:Go.Proofs.Lays.n145 Try.prog Try.lays145_ren:={
 mixed:=by kernel_rfl
 f145:=Try.func74.trans (congrArg some (by kernel_rfl))
 f217:=Try.func126.trans (congrArg some (by kernel_rfl))
 f219:=Try.func120.trans (congrArg some (by kernel_rfl))
 f220:=Try.func96.trans (congrArg some (by kernel_rfl))
 f224:=Try.func128.trans (congrArg some (by kernel_rfl))
 f225:=Try.func127.trans (congrArg some (by kernel_rfl))
 f266:=Try.func133.trans (congrArg some (by kernel_rfl))
 f267:=Try.func129.trans (congrArg some (by kernel_rfl))
 f314:=Try.func134.trans (congrArg some (by kernel_rfl))
 t3:=Try.underlying3
 a3:=Try.isAgg3
 z3:=Try.sizeOf3
 v3:=Try.zeroValue3
 t4:=Try.underlying4
 a4:=Try.isAgg4
 z4:=Try.sizeOf4
 v4:=Try.zeroValue4
 t5:=Try.underlying5
 a5:=Try.isAgg5
 z5:=Try.sizeOf5
 v5:=Try.zeroValue5
 t9:=Try.underlying9
 a9:=Try.isAgg9
 z9:=Try.sizeOf9
 v9:=Try.zeroValue9
 t46:=Try.underlying155
 a46:=Try.isAgg155
 z46:=Try.sizeOf155
 v46:=Try.zeroValue155
 t51:=Try.underlying185
 a51:=Try.isAgg185
 z51:=Try.sizeOf185
 v51:=Try.zeroValue185
 t59:=Try.underlying122
 a59:=Try.isAgg122
 z59:=Try.sizeOf122
 v59:=Try.zeroValue122
 t146:=Try.underlying186
 a146:=Try.isAgg186
 z146:=Try.sizeOf186
 v146:=Try.zeroValue186
 g1:=by kernel_rfl }
open Go.RowKit Go.Lib in
theorem Try.strings_Cut (s sep:ByteArray) (m:Int) (w:World) (hs:s.size < 4294967281) (hm:w.cell? ⟨0,0,none⟩=some (.int .i64 m)) :
  Calls Try.prog 74 #[.string s,.string sep] w fun e w'=>e=.returned (.tuple #[.string ⟨(Lib.cut s.data.toList sep.data.toList).1.toArray⟩,.string ⟨(Lib.cut s.data.toList sep.data.toList).2.1.toArray⟩,.bool (Lib.cut s.data.toList sep.data.toList).2.2])/\∃ n,w'=w.drewN n:=Any.strings_Cut Try.lays145 s sep m w hs hm
def Try.lays100_ren:Go.Shelf.Ren:=⟨fun|100=>75|207=>97|n=>n,fun|9=>9|4=>4|3=>3|n=>n,fun|n=>n⟩
theorem Try.lays100:Go.Proofs.Lays.n100 Try.prog Try.lays100_ren:={
 mixed:=by kernel_rfl
 f100:=Try.func75.trans (congrArg some (by kernel_rfl))
 f207:=Try.func97.trans (congrArg some (by kernel_rfl))
 t3:=Try.underlying3
 a3:=Try.isAgg3
 z3:=Try.sizeOf3
 v3:=Try.zeroValue3
 t4:=Try.underlying4
 a4:=Try.isAgg4
 z4:=Try.sizeOf4
 v4:=Try.zeroValue4
 t9:=Try.underlying9
 a9:=Try.isAgg9
 z9:=Try.sizeOf9
 v9:=Try.zeroValue9 }
open Go.RowKit Go.Lib in
theorem Try.strings_HasSuffix (s p:ByteArray) (w:World) (hs:s.size<=9223372036854775807) :
  Calls Try.prog 75 #[.string s,.string p] w fun e w'=>e=.returned (.bool (Lib.hasSuffix s.data.toList p.data.toList))/\w'=w:=Any.strings_HasSuffix Try.lays100 s p w hs
def Try.laysNm216_ren:Go.Shelf.Ren:=⟨fun|16=>87|n=>n,fun|24=>26|9=>9|4=>4|n=>n,fun|n=>n⟩
theorem Try.laysNm216:Go.Proofs.Lays2.n16 Try.prog Try.laysNm216_ren:={
 mixed:=by kernel_rfl
 f16:=Try.func87.trans (congrArg some (by kernel_rfl))
 t4:=Try.underlying4
 a4:=Try.isAgg4
 z4:=Try.sizeOf4
 v4:=Try.zeroValue4
 t9:=Try.underlying9
 a9:=Try.isAgg9
 z9:=Try.sizeOf9
 v9:=Try.zeroValue9
 t24:=Try.underlying26
 a24:=Try.isAgg26
 z24:=Try.sizeOf26
 v24:=Try.zeroValue26
 i9:=by kernel_rfl }
open Go.RowKit Go.Lib in
theorem Try.slices_Clone_string (b off n c:Nat) (zs:List ByteArray) (w:World) (hz:n<=zs.length) (hbig:n * 16<=140737488355328) (hc:∀ j,j < zs.length->w.cell? ⟨b,off+j,none⟩=some (.string (zs.getD j ByteArray.empty))) :
  Calls Try.prog 87 #[.slice (some ⟨b,off,none⟩) n c] w fun e w'=>∃ v',e=.returned v'/\w'.ownsRow w.heap.size 9 1 v' n ((zs.take n).map (Value.string))/\v'≠.slice none 0 0/\Below w.heap.size w w':=Any.slices_Clone_string Try.laysNm216 b off n c zs w hz hbig hc
open Go.RowKit Go.Lib in
theorem Try.slices_Clone_string_nil (n c:Nat) (w:World) :
  Calls Try.prog 87 #[.slice none n c] w fun e w'=>e=.returned (.slice none 0 0)/\w'=w:=Any.slices_Clone_string_nil Try.laysNm216 n c w
open Go.RowKit Go.Lib in
theorem Try.slices_Clone_string_zero (a:Addr) (c:Nat) (w:World) :
  Calls Try.prog 87 #[.slice (some a) 0 c] w fun e w'=>∃ v',e=.returned v'/\w'.ownsRow w.heap.size 9 1 v' 0 []/\v'≠.slice none 0 0/\Below w.heap.size w w':=Any.slices_Clone_string_zero Try.laysNm216 a c w
end Go.Proofs
namespace Go.Proofs.Ytjfdomfendbhfaa
open Go.RowKit
def SomeLen (w:World):Prop:=0 < w.heap.size/\∃ m:Int,w.cell? ⟨0,0,none⟩=some (.int .i64 m)
theorem SomeLen.kept {w w':World} {row:Option Nat} (h:SomeLen w) (hg:w.grownBy w' row) (hr:row≠some 0):SomeLen w' :=
 ⟨Nat.lt_of_lt_of_le h.1 hg.size,h.2.imp fun _ hm=>(World.cell?_of_block (hg.block _ h.1 (fun e=>hr e.symm))).trans hm⟩
def tD:List (List UInt8)->List UInt8->Option (List UInt8)
 | [],r=>some r
 | u :: us,r=>if (Lib.cut r u).2.2 then tD us (Lib.cut r u).2.1 else none
def pO (bs:List (List UInt8)) (r v:List UInt8):Bool:=match tD bs r with
 | some r=>Lib.hasSuffix r v
 | none=>false
def wP (bs:List (List UInt8)) (s:List UInt8):Bool :=
 match bs with
 | []=>false
 | [b]=>s == b
 | b :: rest=>Lib.hasPrefix s b && pO rest.dropLast (s.drop b.length) (rest.getLastD [])
def yU (bs:List ByteArray) (s:ByteArray):Bool:=decide (zZ bs 6=0) && (zP s 6 && wP (bs.map (·.data.toList)) s.data.toList)
theorem xF {bs:List ByteArray} {letters:Int} (h:zZ bs letters=0):1<=letters/\letters<=6/\bs.length<=8/\uP bs<=64/\0 < bs.length/\wB bs.length letters 0 bs=true:=by
 unfold zZ at h
 split at h
 ·omega
 split at h
 ·omega
 split at h
 ·omega
 split at h
 ·omega
 split at h
 ·exact⟨by omega,by omega,by omega,by omega,by omega,by assumption⟩
 ·omega
theorem patMatch_one {bs:List ByteArray} {s:ByteArray} (h:zZ bs 6=0) (hW:zP s 6=true) (h1:bs.length=1) (h0:0 < bs.length):yU bs s=(s.toList == bs[0].toList):=by
 match bs,h1 with
 | [b],_=>simp[yU,h,hW,wP,ByteArray.toList_eq]
def mid (bs:List ByteArray):List (List UInt8):=((bs.map (·.data.toList)).drop 1).dropLast
theorem pN (bs:List ByteArray):(mid bs).length=bs.length - 1 - 1:=by simp[mid]
theorem qBE (bs:List ByteArray) (k:Nat) (h:k < bs.length - 1 - 1):(mid bs)[k]'(by rw[pN];exact h)=bs[1+k].data.toList:=by
 simp[mid,Nat.add_comm]
theorem findAll_step (bs:List ByteArray) (r:List UInt8) (k:Nat) (h:k < bs.length - 1 - 1) (hf:(Lib.cut r bs[1+k].data.toList).2.2=true) :
  tD ((mid bs).drop (k+1)) (Lib.cut r bs[1+k].data.toList).2.1=tD ((mid bs).drop k) r:=by
 rw[List.drop_eq_getElem_cons (show k < (mid bs).length by rw[pN];exact h),qBE bs k h]
 simp[tD,hf]
theorem findAll_stop (bs:List ByteArray) (r:List UInt8) (k:Nat) (h:k < bs.length - 1 - 1) (hf:¬ (Lib.cut r bs[1+k].data.toList).2.2=true) :
  tD ((mid bs).drop k) r=none:=by
 rw[List.drop_eq_getElem_cons (show k < (mid bs).length by rw[pN];exact h),qBE bs k h]
 simp[tD,hf]
theorem cut_le (r u:List UInt8):(Lib.cut r u).2.1.length<=r.length:=by
 unfold Lib.cut
 split
 ·simp
 ·simp
theorem two_le {α:Type} {bs:List α} (h0:0 < bs.length) (h1:bs.length≠1):∃ b c rest,bs=b :: c :: rest:=by
 match bs,h0,h1 with
 | b :: c :: rest,_,_=>exact⟨b,c,rest,rfl⟩
theorem patMatch_none {bs:List ByteArray} {s:ByteArray} (h0:0 < bs.length) (h1:bs.length≠1) (hF:tD (mid bs) (Lib.trimPrefix s.data.toList bs[0].data.toList)=none):yU bs s=false:=by
 match bs,h0,h1 with
 | b :: c :: rest,_,_ =>
  by_cases hP:Lib.hasPrefix s.data.toList b.data.toList=true
  ·have e:Lib.trimPrefix s.data.toList b.data.toList=s.data.toList.drop b.data.toList.length:=by simp only[Lib.trimPrefix,hP,if_true]
   simp only[List.getElem_cons_zero,e,mid,List.map_cons,List.drop_succ_cons,List.drop_zero]at hF
   simp only[yU,wP,List.map_cons,pO,hF,Bool.and_false]
  ·simp only[Bool.not_eq_true]at hP
   simp[yU,wP,hP]
theorem patMatch_end {bs:List ByteArray} {s:ByteArray} {r:List UInt8} (h:zZ bs 6=0) (hW:zP s 6=true) (h0:0 < bs.length) (h1:bs.length≠1) (hP:Lib.hasPrefix s.data.toList bs[0].data.toList=true)
  (hF:tD (mid bs) (Lib.trimPrefix s.data.toList bs[0].data.toList)=some r):yU bs s=Lib.hasSuffix r bs[bs.length - 1].data.toList:=by
 have hl:(bs.drop 1).map (·.data.toList)≠[]:=by
  intro e;have:=congrArg List.length e;simp at this;omega
 have hg:((bs.drop 1).map (·.data.toList)).getLastD []=bs[bs.length - 1].data.toList:=by
  rw[List.getLastD_eq_getLast?,List.getLast?_eq_getElem?]
  simp only[List.length_map,List.length_drop,List.getElem?_map,List.getElem?_drop]
  rw[show 1+(bs.length - 1 - 1)=bs.length - 1 by omega,List.getElem?_eq_getElem (by omega)]
  rfl
 obtain⟨b,c,rest,rfl⟩:=two_le h0 h1
 ·have h2:Lib.hasPrefix s.data.toList b.data.toList=true:=hP
  have e:Lib.trimPrefix s.data.toList b.data.toList=s.data.toList.drop b.data.toList.length:=by simp only[Lib.trimPrefix,h2,if_true]
  simp only[List.getElem_cons_zero,e,mid,List.map_cons,List.drop_succ_cons,List.drop_zero]at hF
  simp only[List.drop_succ_cons,List.drop_zero,List.map_cons]at hg
  simp only[yU,h,hW,decide_true,Bool.true_and,wP,List.map_cons,pO,hF,h2,hg]
theorem trim_le {s:ByteArray} {b:List UInt8} {bs:List ByteArray} (_h:zZ bs 6=0) (hW:zP s 6=true):(Lib.trimPrefix s.data.toList b).length<=2048:=by
 have hs:s.size<=2048:=by simp[zP]at hW;omega
 have e:s.data.toList.length=s.size:=by simp
 unfold Lib.trimPrefix
 split
 ·rw[List.length_drop];omega
 ·omega
theorem patMatch_nopre {bs:List ByteArray} {s:ByteArray} (h0:0 < bs.length) (h1:bs.length≠1) (hP:¬ Lib.hasPrefix s.data.toList bs[0].data.toList=true):yU bs s=false:=by
 match bs,h0,h1 with
 | b :: c :: rest,_,_ =>
  simp only[List.getElem_cons_zero,Bool.not_eq_true]at hP
  simp[yU,wP,hP]
theorem pZ (w:World) (n:Int) :
  Calls Try.prog 38 #[.int .i64 n] w fun e w'=>e=.returned (.bool (decide (1<=n/\n<=6)))/\w=w':=by
 by_cases h:1<=n
 ·go_enter Try.func38,Try.ntmps38
  go_wp2
  go_ret
  exact⟨yD (by simp[h]),rfl⟩
 ·go_enter Try.func38,Try.ntmps38
  go_wp2
  go_ret
  exact⟨yD (by simp;omega),rfl⟩
end Go.Proofs.Ytjfdomfendbhfaa
namespace Go.Proofs.Ytjfdomfendbhfaa
def ent (t:List (List Int)) (x y:Nat):Int:=(t.getD x []).getD y 0
def entN (t:List (List Int)) (x y:Nat):Nat:=(ent t x y).toNat
structure Shape (t:List (List Int)):Prop where
 pos:0 < t.length
 le:t.length<=400
 row:∀ x,x < t.length->(t.getD x []).length=t.length
 lo:∀ x y,x < t.length->y < t.length->0<=ent t x y
 hi:∀ x y,x < t.length->y < t.length->ent t x y < t.length
theorem entN_cast {t:List (List Int)} (h:Shape t) {x y:Nat} (hx:x < t.length) (hy:y < t.length):(entN t x y:Int)=ent t x y:=Int.toNat_of_nonneg (h.lo x y hx hy)
end Go.Proofs.Ytjfdomfendbhfaa
namespace Go.Proofs.Ytjfdomfendbhfaa
open Go.RowKit
def ints (zs:List Int):List Value:=zs.map (Value.int .i64)
theorem yO (zs:List Int):(ints zs).length=zs.length:=by simp[ints]
theorem Row.some_ {B:Nat} {w:World} {v:Value} {xs:List Value} (h:Row B w v xs) (hx:0 < xs.length) :
  ∃ b off cap,v=.slice (some ⟨b,off,none⟩) xs.length cap/\b < B/\xs.length<=cap/\cap<=maxLen/\vH w b off xs:=by
 rcases h with ⟨a,c,rfl,rfl⟩|⟨b,off,cap,rfl,h0,h1,h2,h3⟩
 ·simp at hx
 ·exact⟨b,off,cap,rfl,h0,h1,h2,h3⟩
theorem Row.shape {B:Nat} {w:World} {v:Value} {xs:List Value} (h:Row B w v xs):∃ a cap,v=.slice a xs.length cap:=by
 rcases h with ⟨a,c,rfl,rfl⟩|⟨b,off,cap,rfl,h0,h1,h2,h3⟩
 ·exact⟨a,c,rfl⟩
 ·exact⟨_,_,rfl⟩
theorem Row.len_le {B:Nat} {w:World} {v:Value} {xs:List Value} (h:Row B w v xs):xs.length<=maxLen:=by
 rcases h with ⟨a,c,rfl,rfl⟩|⟨b,off,cap,rfl,h0,h1,h2,h3⟩
 ·simp
 ·omega
theorem vH.int {w:World} {b off:Nat} {zs:List Int} (h:vH w b off (ints zs)) (i:Nat) (hi:i < zs.length):w.cell? ⟨b,off+i,none⟩=some (.int .i64 (zs.getD i 0)):=by
 rw[vH.map h i hi]
 simp[List.getD,List.getElem?_eq_getElem hi]
structure MatAt (B:Nat) (w:World) (t:List (List Int)) (b off:Nat) (A:Nat->Option Addr) (C:Nat->Nat):Prop where
 lt:b < B
 ltw:b < w.heap.size
 hd:∀ x,x < t.length->w.cell? ⟨b,off+x,none⟩=some (.slice (A x) (t.getD x []).length (C x))
 row:∀ x,x < t.length->Row B w (.slice (A x) (t.getD x []).length (C x)) (ints (t.getD x []))
def Mat (B:Nat) (w:World) (v:Value) (t:List (List Int)):Prop :=
 (∃ a cap,v=.slice a 0 cap/\t=[])\/∃ b off cap A C,v=.slice (some ⟨b,off,none⟩) t.length cap/\t.length<=cap/\cap<=maxLen/\MatAt B w t b off A C
theorem MatAt.kept {B:Nat} {w w':World} {t:List (List Int)} {b off:Nat} {A:Nat->Option Addr} {C:Nat->Nat} {row:Option Nat} (h:MatAt B w t b off A C) (hg:w.grownBy w' row) (hr:∀ k,row=some k->B<=k):MatAt B w' t b off A C :=
 ⟨h.lt,Nat.lt_of_lt_of_le h.ltw hg.size,fun x hx=>(World.cell?_of_block (hg.block b h.ltw (fun e=>by have:=hr b e.symm;have:=h.lt;omega))).trans (h.hd x hx),fun x hx=>(h.row x hx).kept hg hr⟩
theorem MatAt.mono {B B':Nat} {w:World} {t:List (List Int)} {b off:Nat} {A:Nat->Option Addr} {C:Nat->Nat} (h:MatAt B w t b off A C) (hB:B<=B'):MatAt B' w t b off A C :=
 ⟨Nat.lt_of_lt_of_le h.lt hB,h.ltw,h.hd,fun x hx=>(h.row x hx).mono hB⟩
theorem MatAt.of_heap {B:Nat} {w w':World} {t:List (List Int)} {b off:Nat} {A:Nat->Option Addr} {C:Nat->Nat} (h:MatAt B w t b off A C) (e:w'.heap=w.heap):MatAt B w' t b off A C :=
 ⟨h.lt,by rw[e];exact h.ltw,fun x hx=>(World.cell?_of_block (by rw[e])).trans (h.hd x hx),fun x hx=>(h.row x hx).of_heap e⟩
section
variable {B B':Nat} {w w':World} {v:Value} {t:List (List Int)} {row:Option Nat}
theorem Mat.kept (h:Mat B w v t) (hg:w.grownBy w' row) (hr:∀ k,row=some k->B<=k):Mat B w' v t:=by
 rcases h with h|⟨b,off,cap,A,C,h1,h2,h3,h4⟩
 ·exact .inl h
 ·exact .inr ⟨b,off,cap,A,C,h1,h2,h3,h4.kept hg hr⟩
theorem Mat.mono (h:Mat B w v t) (hB:B<=B'):Mat B' w v t:=by
 rcases h with h|⟨b,off,cap,A,C,h1,h2,h3,h4⟩
 ·exact .inl h
 ·exact .inr ⟨b,off,cap,A,C,h1,h2,h3,h4.mono hB⟩
theorem Mat.of_heap (h:Mat B w v t) (e:w'.heap=w.heap):Mat B w' v t:=by
 rcases h with h|⟨b,off,cap,A,C,h1,h2,h3,h4⟩
 ·exact .inl h
 ·exact .inr ⟨b,off,cap,A,C,h1,h2,h3,h4.of_heap e⟩
theorem Mat.some_ (h:Mat B w v t) (hx:0 < t.length):∃ b off cap A C,v=.slice (some ⟨b,off,none⟩) t.length cap/\t.length<=cap/\cap<=maxLen/\MatAt B w t b off A C:=by
 rcases h with ⟨_,_,_,rfl⟩|h
 ·simp at hx
 ·exact h
theorem Mat.shape (h:Mat B w v t):∃ a cap,v=.slice a t.length cap:=by
 rcases h with ⟨a,c,rfl,rfl⟩|⟨b,off,cap,A,C,rfl,_⟩
 ·exact⟨a,c,rfl⟩
 ·exact⟨_,_,rfl⟩
theorem Mat.len_le (h:Mat B w v t):t.length<=maxLen:=by
 rcases h with ⟨a,c,rfl,rfl⟩|⟨b,off,cap,A,C,rfl,h1,h2,_⟩
 ·simp
 ·omega
end
structure Sq (B:Nat) (w:World) (t:List (List Int)) (b off:Nat) (RB RO RC:Nat->Nat):Prop where
 lt:b < B
 ltw:b < w.heap.size
 hd:∀ x,x < t.length->w.cell? ⟨b,off+x,none⟩=some (.slice (some ⟨RB x,RO x,none⟩) t.length (RC x))
 el:∀ x y,x < t.length->y < t.length->w.cell? ⟨RB x,RO x+y,none⟩=some (.int .i64 (entN t x y))
 ltr:∀ x,x < t.length->RB x < B/\RB x < w.heap.size
 cap:∀ x,x < t.length->t.length<=RC x/\RC x<=maxLen
theorem Sq.kept {B : Nat} {w w' : World} {t : List (List Int)} {b off : Nat} {RB RO RC : Nat → Nat} {row : Option Nat} (h : Sq B w t b off RB RO RC) (hg : w.grownBy w' row) (hr : ∀ k, row = some k → B ≤ k) : Sq B w' t b off RB RO RC :=
 ⟨h.lt, Nat.lt_of_lt_of_le h.ltw hg.size, fun x hx => (World.cell?_of_block (hg.block b h.ltw (fun e => by have := hr b e.symm; have := h.lt; omega))).trans (h.hd x hx),
  fun x y hx hy => (World.cell?_of_block (hg.block (RB x) (h.ltr x hx).2 (fun e => by have := hr _ e.symm; have := (h.ltr x hx).1; omega))).trans (h.el x y hx hy), fun x hx => ⟨(h.ltr x hx).1, Nat.lt_of_lt_of_le (h.ltr x hx).2 hg.size⟩, h.cap⟩
theorem Mat.sq {B:Nat} {w:World} {v:Value} {t:List (List Int)} (h:Mat B w v t) (hs:Shape t):∃ b off cap RB RO RC,v=.slice (some ⟨b,off,none⟩) t.length cap/\t.length<=cap/\cap<=maxLen/\Sq B w t b off RB RO RC:=by
 obtain⟨b,off,cap,A,C,rfl,h1,h2,h3⟩:=h.some_ hs.pos
 have hr:∀ x,∃ rb ro,x < t.length->A x=some ⟨rb,ro,none⟩/\rb < B/\t.length<=C x/\C x<=maxLen/\vH w rb ro (ints (t.getD x [])):=by
  intro x
  by_cases hx:x < t.length
  ·have hl:=hs.row x hx
   obtain⟨rb,ro,c,e,h4,h5,h6,h7⟩:=(h3.row x hx).some_ (by rw[yO,hl];exact hs.pos)
   simp only[Value.slice.injEq]at e
   rw[yO,hl]at h5
   exact⟨rb,ro,fun _=>⟨e.1,h4,by rw[e.2.2];exact h5,by rw[e.2.2];exact h6,h7⟩⟩
  ·exact⟨0,0,fun h=>absurd h hx⟩
 obtain⟨RB,h8⟩:=Classical.axiomOfChoice hr
 obtain⟨RO,h0⟩:=Classical.axiomOfChoice h8
 refine⟨b,off,cap,RB,RO,C,rfl,h1,h2,h3.lt,h3.ltw,fun x hx=>?_,fun x y hx hy=>?_,fun x hx=>?_,fun x hx=>?_⟩
 ·have:=h0 x hx
  rw[h3.hd x hx,this.1,hs.row x hx]
 ·have:=h0 x hx
  rw[this.2.2.2.2.int y (by rw[hs.row x hx];exact hy),entN_cast hs hx hy]
  rfl
 ·have:=h0 x hx
  exact⟨this.2.1,this.2.2.2.2.1⟩
 ·have:=h0 x hx
  exact⟨this.2.2.1,this.2.2.2.1⟩
def EntsOk (n:Nat) (r:List Int) (j:Nat):Prop:=∀ y,y < j->0<=r.getD y 0/\r.getD y 0 < n
end Go.Proofs.Ytjfdomfendbhfaa
