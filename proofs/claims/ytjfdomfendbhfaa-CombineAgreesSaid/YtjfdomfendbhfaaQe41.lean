/- Part 41 of the proof: CDec, MatchW, CHold, KnP. -/
import Derived.Test.YtjfdomfendbhfaaQe37
import Derived.Test.YtjfdomfendbhfaaQe40
import Derived.Deep.RegionHeld
set_option linter.unusedVariables false
set_option linter.unusedSimpArgs false
namespace Go.Proofs.Ytjfdomfendbhfaa
open Go.RowKit
set_option maxRecDepth 100000 in
set_option maxHeartbeats 800000 in
theorem jT (B:Nat) (w:World) (v:Value) (g:DiaV) (m:Nat->Bool) (fid:FuncId) (caps:Array Value) (h:qG B w v g) (hc:xD g.pats.length g.chos g.chos.length) (h0:0<=g.root) (h1:g.root<=1+(g.chos.length:Int))
  (hE:∀ (args:Array Value) (W:World),Sem.run Try.prog (callFunc fid args) W=.ok (.enter fid args) W)
  (hF:∀ (W:World) (p:Nat),w.grownBy W none->p < g.pats.length->Calls Try.prog fid (#[.int .i64 (p:Int)] ++ caps) W fun e w'=>e=.returned (.bool (m p))/\W.grownBy w' none) :
  Calls Try.prog 40 #[v,.func (.func fid) #[] caps] w fun e w'=>e=.returned (.bool (decG g.chos m g.root))/\w.grownBy w' none:=by
 obtain⟨pv,cv,rfl,hp,h7⟩:=h
 obtain⟨ca,cc,rfl⟩:=h7.shape
 have H8:=h7.len_le
 unfold maxLen at H8
 obtain⟨ps,cs,root⟩:=g
 simp only at hp hc h7 H8 h0 h1 hF ⊢
 obtain⟨r0,rfl⟩:∃ n:Nat,root=(n:Int):=⟨root.toNat,by omega⟩
 obtain⟨nc,H5⟩:∃ n,n=cs.length:=⟨_,rfl⟩
 rw[<- H5]at h7 H8 h1 ⊢
 have H2:=Ga w (.cells #[pv,.slice ca nc cc,.int .i64 (r0:Int)] 25) none
 have H1:=heap_alloc_new w (.cells #[pv,.slice ca nc cc,.int .i64 (r0:Int)] 25)
 obtain⟨wA,a0⟩:∃ w1,w1=w.alloc (.cells #[pv,.slice ca nc cc,.int .i64 (r0:Int)] 25):=⟨_,rfl⟩
 obtain⟨P,hP⟩:∃ P,P=w.heap.size:=⟨_,rfl⟩
 rw[<- a0]at H2 H1
 rw[<- hP]at H1
 have a7:=h7.kept H2 (by simp)
 obtain⟨p0,p1,p2⟩:=zJ H1
 have a2:=Kh H5
 have c4:=Kh a7;have c6:=Kh H1;have a8:=Kh hc
 have b6:=Kh a0;have c0:=Kh hP;have b0:=Kh H2
 have HE:=Kh hE
 have HF:=Kh hF;have b9:=Kh h1
 obtain⟨ans,h4⟩:∃ b,b=decG cs m (r0:Int):=⟨_,rfl⟩
 rw[<- h4]
 have a4:=Kh h4
 clear hp h7 a7 H2 H1 a0 hP H5 hc h1 h0 hF hE h4
 go_enter Try.func40,Try.ntmps40
 go_upto_region 1 with fail
 rw[<- b6.out,<- c0.out]
 go_wp2
 clear p0 p1 p2
 go_loopg [5,6] r0 (fun gh r s6 wr=>∃ q:Nat,gh=q/\r=.int .i64 q/\q<=1+nc/\decG cs m q=ans/\wA.grownBy wr none)
 case atStart=>exact⟨r0,rfl,rfl,by have:=b9.out;omega,a4.out.symm,zN _ _⟩
 case round =>
  obtain⟨q,a5,rfl,b3,h9,hg⟩:=hrel
  have a9:=Kh a5
  clear a5
  have HG:=Kh hg;have h5:=Kh h9
  clear h9
  by_cases hq:2<=q
  ·have b4:(2:Int)<=q:=by omega
   obtain⟨i,rfl⟩:∃ i,q=i+2:=⟨q - 2,by omega⟩
   have hi:i < nc:=by omega
   have H0:=c4.out.kept hg (by simp)
   obtain⟨b,off,cap,e,d1,h3,b5,H3⟩:=H0.at_ (by rw[<- a2.out];omega)
   rw[<- a2.out]at e h3
   simp only[Value.slice.injEq,true_and]at e
   obtain⟨rfl,rfl⟩:=e
   have c9:cc<=9223372036854775807:=by unfold maxLen at b5;omega
   have h8:i < cs.length:=by rw[<- a2.out];exact hi
   have c1:=H3.p i h8
   have c2:=H3.y i h8
   have c3:=H3.n i h8
   have h6:=jL (m:=m) a8.out (r:=((i+2:Nat):Int)) (by omega) (by omega)
   have e0:((i+2:Nat):Int).toNat - 2=i:=by omega
   rw[e0]at h6
   have H9:=pD (a8.out i h8)
   obtain⟨c,a6⟩:∃ c,c=cs.getD i default:=⟨_,rfl⟩
   rw[<- a6]at c1 c2 c3 h6 H9
   clear H0 H3 h8 a6
   obtain⟨x,y,n⟩:=c
   simp only at c1 c2 c3 h6 H9
   obtain⟨xn,rfl⟩:∃ k:Nat,x=(k:Int):=⟨x.toNat,by omega⟩
   obtain⟨yn,rfl⟩:∃ k:Nat,y=(k:Int):=⟨y.toNat,by omega⟩
   obtain⟨nn,rfl⟩:∃ k:Nat,n=(k:Int):=⟨n.toNat,by omega⟩
   rw[Int.toNat_natCast]at h6
   have b2:xn < ps.length:=by omega
   have c7:yn < i+2:=by omega
   have c8:nn < i+2:=by omega
   have a1:=Kh h6
   have h2:=Kh (fun(W:World) (hW:wr.grownBy W none)=>HF.out W xn (zB b0.out (zB HG.out hW (by simp)) (by simp)) b2)
   obtain⟨b,hb⟩:∃ b,b=m xn:=⟨_,rfl⟩
   rw[<- hb]at a1 h2
   obtain⟨p0,p1,p2⟩:=zJ (zA c6.out hg (by simp))
   have h3:=heap_alloc_new wr (.cells #[.int .i64 (xn:Int),.int .i64 (yn:Int),.int .i64 (nn:Int)] 45)
   have H7:=Ga wr (.cells #[.int .i64 (xn:Int),.int .i64 (yn:Int),.int .i64 (nn:Int)] 45) none
   obtain⟨w2,H4⟩:∃ w2,w2=wr.alloc (.cells #[.int .i64 (xn:Int),.int .i64 (yn:Int),.int .i64 (nn:Int)] 45):=⟨_,rfl⟩
   obtain⟨R,hR⟩:∃ R,R=wr.heap.size:=⟨_,rfl⟩
   rw[<- H4]at h3 H7
   rw[<- hR]at h3
   have b7:=Kh H4;have b8:=Kh hR;have c5:=Kh h3;have a3:=Kh H7
   obtain⟨r0,r1,r2⟩:=zJ h3
   have e2:IntKind.i64.wrap ((i+2:Nat) - 2:Int)=(i:Int):=by rw[show ((i+2:Nat) - 2:Int)=i by omega];exact xX (by omega)
   have e3:((i+2:Nat) - 2:Int)=(i:Int):=by omega
   have d0:(i:Int) < nc:=by omega
   clear hb H4 hR h3 H7 hg h6 H9 b3
   go_upto_region 4 with fail
   rw[<- b7.out,<- b8.out]
   clear c1 c2 c3
   go_wp2_with fail
   rw[HE.out,Oper.upon_enter]
   refine(h2.out _ a3.out).mono ?_
   rintro e w3 ⟨rfl,H6⟩
   have b1:=Kh H6
   obtain⟨r0,r1,r2⟩:=zJ (zA c5.out H6 (by simp))
   clear H6 h2
   cases b with
   | true =>
    go_wp2
    go_roundg yn
    case measure=>have:=a9.out;omega
    case rel=>exact⟨yn,rfl,rfl,by omega,by rw[<- h5.out];exact a1.out.symm,zB (zB HG.out a3.out (by simp)) b1.out (by simp)⟩
   | false =>
    go_wp2
    go_roundg nn
    case measure=>have:=a9.out;omega
    case rel=>exact⟨nn,rfl,rfl,by omega,by rw[<- h5.out];exact a1.out.symm,zB (zB HG.out a3.out (by simp)) b1.out (by simp)⟩
  ·have b4:¬ (2:Int)<=q:=by omega
   have HA:Hid (decide ((q:Int)=1)=ans):=Kh (by rw[<- h5.out,aX _ _ (by omega)])
   clear hg
   go_wp2
   go_ret
   exact⟨yD (by rw[<- HA.out];first|rfl|simp|decide),zB b0.out HG.out (by simp)⟩
set_option maxRecDepth 100000 in
set_option maxHeartbeats 400000 in
theorem match_anyW (b off cap:Nat) (bs:List ByteArray) (s:ByteArray) (w:World) (hcap:bs.length<=cap) (hcm:cap<=maxLen)
  (hra:vH w b off (bs.map .string)) (hs:∀ i (h:i < bs.length),bs[i].size<=maxLen) (hss:s.size<=maxLen) (hL:SomeLen w) :
  Calls Try.prog 42 #[.agg #[.slice (some ⟨b,off,none⟩) bs.length cap],.string s] w fun e w'=>e=.returned (.bool (yU bs s))/\w.grownBy w' none:=by
 have H0:s.size<=9223372036854775807:=by unfold maxLen at hss;omega
 have g0:=Ga w (.cells #[.slice (some ⟨b,off,none⟩) bs.length cap] 28) none
 have ra0:=hra.kept g0 (by simp)
 go_enter Try.func42,Try.ntmps42
 go_wp2_with fail
 have bx0:=heap_alloc_new w (.cells #[.slice (some ⟨b,off,none⟩) bs.length cap] 28)
 have h3:Row (b+1) (w.alloc (.cells #[.slice (some ⟨b,off,none⟩) bs.length cap] 28)) (.slice (some ⟨b,off,none⟩) bs.length cap) (txtV bs):=.inr ⟨b,off,cap,by rw[yN],by omega,by rw[yN];exact hcap,hcm,ra0⟩
 refine(nK (b+1) _ _ bs 6 h3 hs).mono ?_
 rintro e w1 ⟨rfl,g1⟩
 have ra1:=ra0.kept g1 (by simp)
 have h4:=zK (zA bx0 g1 (by simp)) 0 (by simp)
 simp only[List.getElem_toArray,List.getElem_cons_zero]at h4
 have h9:=(hL.kept g0 (by simp)).kept g1 (by simp)
 have gw:=zD g0 g1
 clear g0 ra0 bx0 g1 hra
 clear h3
 have h2:patW bs 6=0 ↔ zZ bs 6=0:=wI
 obtain⟨E,h5⟩:∃ E,E=patW bs 6:=⟨_,rfl⟩
 rw[<- h5]at h2 ⊢
 have a7:=Kh h5
 clear h5
 by_cases hV:zZ bs 6=0
 ·have H8:E=0:=h2.2 hV
  subst H8
  clear h2
  have HV:=Kh hV;clear hV
  go_wp2_with fail
  refine(tK s 6 _ (by unfold maxLen;omega)).mono ?_
  rintro e w2 ⟨rfl,rfl⟩
  have hz:=xF HV.out
  have h6:0 < bs.length:=hz.2.2.2.2.1
  have a1:bs.length<=8:=hz.2.2.1
  have h7:=ra1.map 0 h6
  rw[Nat.add_zero]at h7
  have H4:cap<=9223372036854775807:=by unfold maxLen at hcm;omega
  have a6:=Kh hcm;clear hz hcm
  by_cases hW:zP s 6=true
  ·by_cases h1:bs.length=1
   ·have H9:((bs.length:Int) - 1 == 0)=true:=by simp[h1]
    have H1:=Kh h1;clear h1
    go_wp2
    go_ret
    exact⟨yD (patMatch_one HV.out hW H1.out h6).symm,gw⟩
   ·have H9:((bs.length:Int) - 1 == 0)=false:=by rw[beq_eq_false_iff_ne];omega
    go_wp2_with fail
    refine(Try.strings_CutPrefix _ _ _).mono ?_
    rintro e w2 ⟨rfl,rfl⟩
    by_cases hP:Lib.hasPrefix s.data.toList bs[0].data.toList=true
    ·go_wp2
     go_loopw [6,46] (fun rs i wr=>∃ (k:Nat) (r:List UInt8),k<=bs.length - 1 - 1/\i=.int .i64 k/\rs=.string ⟨r.toArray⟩/\r.length<=2048 /\
       tD ((mid bs).drop k) r=tD (mid bs) (Lib.trimPrefix s.data.toList bs[0].data.toList) /\
       vH wr b off (bs.map .string)/\wr.cell? ⟨w.heap.size,0,none⟩=some (.slice (some ⟨b,off,none⟩) bs.length cap)/\SomeLen wr/\w.grownBy wr none)
      (fun _ i _=>bs.length - (intOf i).toNat)
     case atStart=>exact⟨0,_,Nat.zero_le _,rfl,rfl,trim_le HV.out hW,rfl,ra1,h4,h9,gw⟩
     case round =>
      clear ra1 h4 h9 gw h7
      obtain⟨k,r,hk,rfl,rfl,a0,h0,rar,H3,h8,gr⟩:=hrel
      have HF:=Kh h0;clear h0
      by_cases hlt:k < bs.length - 1 - 1
      ·have H6:=rar.map (1+k) (by omega)
       rw[<- Nat.add_assoc]at H6
       have H2:(k:Int) < ((bs.length - 1 - 1:Nat):Int):=by omega
       go_wp2_with fail
       obtain⟨_,m,hm⟩:=id h8
       refine(Try.strings_Cut _ _ m _ (by
        have:(ByteArray.mk r.toArray).size=r.toArray.size:=rfl
        rw[this,List.size_toArray];omega) hm).mono ?_
       rintro e w3 ⟨rfl,m',rfl⟩
       have H5:=cut_le r bs[1+k].data.toList
       by_cases hf:(Lib.cut r bs[1+k].data.toList).2.2=true
       ·go_wp2
        go_roundw
        case rel =>
         exact⟨k+1,_,by omega,by go_num,rfl,by omega,by rw[<- HF.out];exact findAll_step bs r k hlt hf,rar.of_heap rfl,H3,h8.kept (zU _ _ none) (by simp),zD gr (zU _ _ _)⟩
        case measure=>simp[intOf];omega
       ·go_wp2
        go_ret
        exact⟨yD (by rw[eq_comm];exact patMatch_none (by omega) (by omega) (by rw[<- HF.out];exact findAll_stop bs r k hlt hf)),zD gr (zU _ _ _)⟩
      ·have H5:=rar.map (bs.length - 1) (by omega)
       have a4:((bs.length:Int) - 1).toNat=bs.length - 1:=by omega
       have a3:(bs.length:Int) - 1 < bs.length:=by omega
       have a2:0<=(bs.length:Int) - 1:=by omega
       go_wp2_with fail
       refine(Try.strings_HasSuffix _ _ _ (by
        have:(ByteArray.mk r.toArray).size=r.toArray.size:=rfl
        rw[this,List.size_toArray];omega)).mono ?_
       rintro e w3 ⟨rfl,rfl⟩
       go_wp2
       go_ret
       refine⟨yD ?_,gr⟩
       rw[eq_comm]
       refine patMatch_end HV.out hW (by omega) (by omega) hP ?_
       rw[<- HF.out,List.drop_eq_nil_of_le (by rw[pN];omega)]
       rfl
    ·go_wp2
     go_ret
     exact⟨yD (by rw[eq_comm];exact patMatch_nopre (by omega) (by omega) hP),gw⟩
  ·go_wp2
   go_ret
   exact⟨yD (by simp[yU,hW]),gw⟩
 ·have H7:(E != 0)=true:=by rw[bne_iff_ne];exact fun e=>hV (h2.1 e)
  have a5:(E == 0)=false:=by rw[beq_eq_false_iff_ne];exact fun e=>hV (h2.1 e)
  clear h2
  have HV:=Kh hV;clear hV
  go_wp2
  go_ret
  exact⟨yD (by simp[yU,HV.out]),gw⟩
def diaH (g:DiaV) (s:ByteArray):Bool:=decide (diaE g 6=0) && (zP s 6 && decG g.chos (fun p=>yU (g.pats.getD p []) s) g.root)
theorem patW_pos {bs:List ByteArray} {letters:Int} (h:patW bs letters=0):0 < bs.length:=(xF (wI.1 h)).2.2.2.2.1
set_option maxRecDepth 100000 in
set_option maxHeartbeats 800000 in
theorem holds1_any (B:Nat) (w:World) (P Q:Nat) (pv cv rv:Value) (ps:List (List ByteArray)) (s:ByteArray) (p:Nat) (hb:w.heap[P]?=some (.cells #[pv,cv,rv] 25 (0,0))) (hq:w.heap[Q]?=some (.cells #[.string s] 9 (0,0)))
  (h:vI B w pv ps) (hp:p < ps.length) (h0:0 < (ps.getD p []).length) (hs:s.size<=maxLen) (hL:SomeLen w) :
  Calls Try.prog 41 #[.int .i64 (p:Int),.pointer (some ⟨P,0,none⟩),.pointer (some ⟨Q,0,none⟩)] w fun e w'=>e=.returned (.bool (yU (ps.getD p []) s))/\w.grownBy w' none:=by
 obtain⟨b,off,cap,rfl,H5,H6,H1,h2⟩:=h.at_ (by omega)
 obtain⟨sa,sc,c1,h1,h3⟩:=h2 p hp
 obtain⟨q,h6⟩:∃ q,q=ps.getD p []:=⟨_,rfl⟩
 rw[<- h6]at c1 h1 h3 h0 ⊢
 obtain⟨kb,ko,kc,e,_,h4,h9,h8⟩:=h1.some_ (by rw[yN];exact h0)
 rw[yN]at e h4
 simp only[Value.slice.injEq]at e
 obtain⟨rfl,_,rfl⟩:=e
 obtain⟨r0,r1,r2⟩:=zJ hb
 have c2:w.cell? ⟨Q,0,none⟩=some (.string s):=by simpa using zK hq 0 (by simp)
 have HM:Hid (∀ W:World,w.grownBy W none->Calls Try.prog 42 #[.agg #[.slice (some ⟨kb,ko,none⟩) q.length sc],.string s] W fun e w'=>e=.returned (.bool (yU q s))/\w.grownBy w' none):=Kh (fun W hW =>
  (match_anyW kb ko sc q s W h4 h9 (h8.kept hW (by simp)) h3 hs (hL.kept hW (by simp))).mono fun e w' ⟨he,hg⟩=>⟨he,zD hW hg⟩)
 have HC:Hid (∀ W:World,w.grownBy W none->W.cell? ⟨P,0,none⟩=some (.slice (some ⟨b,off,none⟩) ps.length cap)/\W.cell? ⟨b,off+p,none⟩=some (.slice (some ⟨kb,ko,none⟩) q.length sc)/\W.cell? ⟨Q,0,none⟩=some (.string s)):=Kh (fun W hW=>⟨xI r0 hW,xI c1 hW,xI c2 hW⟩)
 obtain⟨n,hn⟩:∃ n,n=ps.length:=⟨_,rfl⟩
 obtain⟨ql,h5⟩:∃ n,n=q.length:=⟨_,rfl⟩
 obtain⟨mm,h7⟩:∃ m,m=yU q s:=⟨_,rfl⟩
 rw[<- hn]at hp r0 HC
 rw[<- h5]at c1 HM HC
 rw[<- h7]at HM ⊢
 have H4:cap<=9223372036854775807:=by unfold maxLen at H1;omega
 have H3:n<=9223372036854775807:=by omega
 have H2:(p:Int) < n:=by omega
 have GA:w.grownBy w.drew none:=zL _ _
 clear h2 h1 h3 h4 h9 h8 hb hq h6 hn h5 h7 h h0 hL
 go_enter Try.func41,Try.ntmps41
 go_upto_region 1 with fail
 go_region_held3 (fun w'=>w'.cell? ⟨P,0,none⟩=some (.slice (some ⟨b,off,none⟩) n cap)/\w'.cell? ⟨b,off+p,none⟩=some (.slice (some ⟨kb,ko,none⟩) ql sc)/\w'.cell? ⟨Q,0,none⟩=some (.string s))
  (first|go_keep|exact HC.out _ H0|fail)
  (first|(go_at_call 42;(with_reducible refine(HM.out _ GA).mono ?_);rintro e w7 ⟨rfl,H0⟩)|fail)
 all_goals
  go_wp2
  go_ret
  exact⟨rfl,by first|assumption|exact H0⟩
set_option maxRecDepth 100000 in
set_option maxHeartbeats 800000 in
theorem pT (B:Nat) (w:World) (v:Value) (g:DiaV) (s:ByteArray) (hB:B<=w.heap.size) (h:qG B w v g) (hs:s.size<=maxLen) (hL:SomeLen w) :
  Calls Try.prog 11 #[v,.string s] w fun e w'=>e=.returned (.bool (diaH g s))/\w.grownBy w' none:=by
 obtain⟨pv,cv,rfl,hp,hc⟩:=h
 obtain⟨ps,cs,root⟩:=g
 simp only at hp hc ⊢
 obtain⟨w0,b0⟩:∃ w0:World,w0=w:=⟨w,rfl⟩
 have H5:=Ga w (.cells #[pv,cv,.int .i64 root] 25) none
 have H2:=heap_alloc_new w (.cells #[pv,cv,.int .i64 root] 25)
 obtain⟨w1,h9⟩:∃ w1,w1=w.alloc (.cells #[pv,cv,.int .i64 root] 25):=⟨_,rfl⟩
 obtain⟨P,hP⟩:∃ P,P=w.heap.size:=⟨_,rfl⟩
 have H8:w1.heap.size=P+1:=by rw[h9,hP,zM]
 rw[<- h9]at H5 H2
 rw[<- hP]at H2
 have H1:=Ga w1 (.cells #[.string s] 9) none
 have h2:=heap_alloc_new w1 (.cells #[.string s] 9)
 obtain⟨wA,H3⟩:∃ w2,w2=w1.alloc (.cells #[.string s] 9):=⟨_,rfl⟩
 rw[<- H3]at H1 h2
 rw[H8]at h2
 have H6:=zA H2 H1 (by simp)
 have h1:=zB H5 H1 (by simp)
 rw[h9]at H3
 have a3:=Kh H3;have a6:=Kh hP;have H7:=Kh h1
 have a9:=Kh H6;have a2:=Kh h2
 have HP:=Kh (hp.kept h1 (by simp));have HC:=Kh (hc.kept h1 (by simp))
 have a7:=Kh (hL.kept h1 (by simp))
 have HV:Hid (∀ W:World,wA.grownBy W none->Calls Try.prog 9 #[.agg #[pv,cv,.int .i64 root],.int .i64 6] W fun e w'=>e=.returned (.int .i64 (diaE ⟨ps,cs,root⟩ 6))/\W.grownBy w' none):=Kh (fun W hW =>
  gE B W _ ⟨ps,cs,root⟩ 6 (by have:=h1.size;have:=hW.size;omega) ⟨pv,cv,rfl,HP.out.kept hW (by simp),HC.out.kept hW (by simp)⟩)
 have a0:=Kh (fun W=>tK s 6 W hs)
 obtain⟨E,hE⟩:∃ E,E=diaE ⟨ps,cs,root⟩ 6:=⟨_,rfl⟩
 obtain⟨vb,H4⟩:∃ b,b=zP s 6:=⟨_,rfl⟩
 rw[<- hE]at HV
 rw[<- H4]at a0
 have HE:=Kh hE;have a4:=Kh H4
 obtain⟨p0,p1,p2⟩:=zJ H6
 have c2:wA.cell? ⟨P+1,0,none⟩=some (.string s):=by simpa using zK h2 0 (by simp)
 obtain⟨Q,hQ⟩:∃ Q,Q=P+1:=⟨_,rfl⟩
 rw[<- hQ]at c2 a2
 have a5:=Kh hQ
 clear hp hc H5 H2 H1 h2 H6 h1 h9 H3 hP hE H4 hQ H8
 go_enter Try.func11,Try.ntmps11
 go_upto_region 1 with fail
 rw[<- a6.out,<- a5.out]
 rw[<- a3.out]
 go_wp2_with fail
 refine(HV.out _ (zN _ _)).mono ?_
 rintro e w3 ⟨rfl,H0⟩
 have h0:=Kh H0
 have h4:=Kh (zA a9.out H0 (by simp));have h3:=Kh (zA a2.out H0 (by simp))
 obtain⟨p0,p1,p2⟩:=zJ h4.out
 have c2:w3.cell? ⟨Q,0,none⟩=some (.string s):=by simpa using zK h3.out 0 (by simp)
 clear H0 HV
 by_cases hE:E=0
 case neg =>
  have e1:(E != 0)=true:=by rw[bne_iff_ne];exact hE
  have HR:Hid (diaH ⟨ps,cs,root⟩ s=false):=Kh (by
   unfold diaH;rw[show decide (diaE ⟨ps,cs,root⟩ 6=0)=false by rw[decide_eq_false_iff_not,<- HE.out];exact hE];rfl)
  clear hE
  go_wp2
  go_ret
  exact⟨yD HR.out.symm,zB H7.out h0.out (by simp)⟩
 have e1:(E != 0)=false:=by simp[hE]
 have HD:=Kh (qZ (g:=⟨ps,cs,root⟩) (letters:=6) (by rw[<- HE.out];exact hE))
 have HR:Hid (diaH ⟨ps,cs,root⟩ s=(vb && decG cs (fun p=>yU (ps.getD p []) s) root)):=Kh (by
  unfold diaH;rw[show decide (diaE ⟨ps,cs,root⟩ 6=0)=true by rw[decide_eq_true_eq,<- HE.out];exact hE,a4.out];rfl)
 clear hE
 go_wp2_with fail
 refine(a0.out _).mono ?_
 rintro e w4 ⟨rfl,rfl⟩
 cases vb with
 | false =>
  go_wp2
  go_ret
  exact⟨yD HR.out.symm,zB H7.out h0.out (by simp)⟩
 | true =>
  rw[Bool.true_and]at HR
  have a1:Hid (Calls Try.prog 40 #[.agg #[pv,cv,.int .i64 root],.func (.func 41) #[] #[.pointer (some ⟨P,0,none⟩),.pointer (some ⟨Q,0,none⟩)]] w3 fun e w'=>e=.returned (.bool (decG cs (fun p=>yU (ps.getD p []) s) root))/\w3.grownBy w' none):=Kh (by
   obtain⟨_,_,_,_,h5,h6,h7,h8⟩:=HD.out
   refine jT B w3 _ ⟨ps,cs,root⟩ (fun p=>yU (ps.getD p []) s) _ _ ⟨pv,cv,rfl,HP.out.kept h0.out (by simp),HC.out.kept h0.out (by simp)⟩ h6 h7 h8 (fun _ _=>rfl) (fun W p hW hp=>?_)
   exact holds1_any B W P Q pv cv _ ps s p (zA h4.out hW (by simp)) (zA h3.out hW (by simp)) ((HP.out.kept h0.out (by simp)).kept hW (by simp)) hp (patW_pos (by rw[zF hp];exact h5 _ (List.getElem_mem hp))) hs ((a7.out.kept h0.out (by simp)).kept hW (by simp)))
  go_wp2_with fail
  refine a1.out.mono ?_
  rintro e w5 ⟨rfl,H9⟩
  have a8:=Kh H9
  clear H9 a1
  go_wp2
  go_ret
  exact⟨yD HR.out.symm,zB (zB H7.out h0.out (by simp)) a8.out (by simp)⟩
def famB (l:List (List (List Int))):List (List ByteArray):=l.map fun p=>p.map strOfNums
theorem tZ (l:List (List (List Int))):(famB l).length=l.length:=by simp[famB]
theorem strs_txtV (p:List (List Int)):strs p=txtV (p.map strOfNums):=by simp[strs,txtV]
def qCV (ds:List DfaV) (k:Nat) (lw:List (List Nat × List Nat)):Bool :=
 decide ((lw.map (·.2)).Nodup) && (decide ((lw.map (·.2))[0]?=some (st0T ds)) && (lw.all (fun p=>(List.range k).all fun a=>decide (nxtT ds p.2 a∈lw.map (·.2))) && lw.all (fun p=>decide (∀ a∈p.1,a < k) && decide (sR (nxtT ds) (st0T ds) p.1=p.2))))
theorem qBR {ds:List DfaV} {k:Nat} {lw:List (List Nat × List Nat)} (h:qCV ds k lw=true):BfsD (nxtT ds) k (st0T ds) (lw.map (·.2)):=by
 simp only[qCV,Bool.and_eq_true,decide_eq_true_eq,List.all_eq_true]at h
 obtain⟨h1,h2,h3,h4⟩:=h
 refine⟨h1,h2,fun x hx b hb=>?_,fun x hx=>?_⟩
 ·obtain⟨p,hp,rfl⟩:=List.mem_map.1 hx
  exact h3 p hp b (List.mem_range.2 hb)
 ·obtain⟨p,hp,rfl⟩:=List.mem_map.1 hx
  exact⟨p.1,(h4 p hp).1,(h4 p hp).2⟩
def dK:DfaV:=⟨2,0,[false,false,true],[[1,0],[1,2],[1,2]]⟩
def psFL:List (List (List Int)):=[[[]],[[],[97]],[[],[98]],[[97],[]],[[98],[]],[[],[97],[]],[[],[98],[]]]
def psPL:List (List (List Int)):=[[[],[97],[]],[[],[98],[]]]
def psF:List (List ByteArray):=famB psFL
def psP:List (List ByteArray):=famB psPL
theorem famF:famL 5 2 1 0=psFL:=by decide +kernel
theorem famFE:famE 5 2 1 0=0:=by decide +kernel
theorem famPP:famL 6 2 1 0=psPL:=by decide +kernel
theorem famPE:famE 6 2 1 0=0:=by decide +kernel
theorem ofEF:ofE dK psF=0:=by decide +kernel
theorem ofEP:ofE dK psP=0:=by decide +kernel
def tupD (d:DfaV):Int × Int × List Bool × List (List Int):=(d.letters,d.start,d.final,d.next)
def mkD (t:Int × Int × List Bool × List (List Int)):DfaV:=⟨t.1,t.2.1,t.2.2.1,t.2.2.2⟩
theorem qCN {l:List DfaV} {t:List (Int × Int × List Bool × List (List Int))} (h:l.map tupD=t):l=t.map mkD:=by
 subst h
 rw[List.map_map]
 exact(List.map_id' l).symm
def tF:List DfaV:=([(2,0,[true,false],[[1,1],[1,1]]),(2,0,[false,true],[[1,0],[1,0]]),
 (2,0,[false,true],[[0,1],[0,1]]),(2,0,[false,true,false],[[1,2],[1,1],[2,2]]),
 (2,0,[false,false,true],[[1,2],[1,1],[2,2]]),(2,0,[false,true],[[1,0],[1,1]]),
 (2,0,[false,true],[[0,1],[1,1]]),(2,0,[false,false,true],[[1,0],[1,2],[1,2]])]:List (Int × Int × List Bool × List (List Int))).map mkD
def tP:List DfaV:=([(2,0,[false,true],[[1,0],[1,1]]),(2,0,[false,true],[[0,1],[1,1]]),(2,0,[false,false,true],[[1,0],[1,2],[1,2]])]:List (Int × Int × List Bool × List (List Int))).map mkD
theorem ofTF:ofT dK psF=tF:=qCN (by decide +kernel)
theorem ofTP:ofT dK psP=tP:=qCN (by decide +kernel)
def lF:List (List Nat × List Nat):=[([],[0,0,0,0,0,0,0,0]),([0],[1,1,0,1,1,1,0,1]),([1],[1,0,1,2,2,0,1,0]),
 ([0,1],[1,0,1,1,1,1,1,2]),([1,0],[1,1,0,2,2,1,1,1]),([0,1,0],[1,1,0,1,1,1,1,1]),
 ([1,0,1],[1,0,1,2,2,1,1,2])]
def lP:List (List Nat × List Nat):=[([],[0,0,0]),([0],[1,0,1]),([1],[0,1,0]),([0,1],[1,1,2]),([1,0],[1,1,1])]
theorem bfsF:BfsD (nxtT (ofT dK psF)) 2 (st0T (ofT dK psF)) (lF.map (·.2)):=by rw[ofTF];exact qBR (by decide +kernel)
theorem bfsP:BfsD (nxtT (ofT dK psP)) 2 (st0T (ofT dK psP)) (lP.map (·.2)):=by rw[ofTP];exact qBR (by decide +kernel)
theorem underF:qCG (ofT dK psF) 2:=⟨_,bfsF,by decide⟩
theorem underP:qCG (ofT dK psP) 2:=⟨_,bfsP,by decide⟩
theorem noConfF:¬ Conf (ofT dK psF) 7 2:=by
 rw[kE (by rw[vB];decide) bfsF,ofTF]
 have:(lF.map (·.2)).all (fun x=>(lF.map (·.2)).all fun y=>!(decide (mtsT tF 7 x=mtsT tF 7 y) && (accT tF x 7 && !accT tF y 7)))=true:=by decide +kernel
 rw[List.all_eq_true]at this
 rintro ⟨x,y,hx,hy,h1,h2,h3⟩
 have h4:=this x hx
 rw[List.all_eq_true]at h4
 have h5:=h4 y hy
 simp[h1,h2,h3]at h5
theorem confP:Conf (ofT dK psP) 2 2:=by
 rw[kE (by rw[vB];decide) bfsP,ofTP]
 exact⟨[1,1,2],[1,1,1],by decide,by decide,by decide +kernel,by decide +kernel,by decide +kernel⟩
theorem dK_vd:VD dK 3 2:=bA (d:=dK) (by decide +kernel)
theorem bB {u:List Nat} (hu:zX 2 u):run dK 0 u < 3:=iM dK_vd u (by decide) hu
theorem dH {bs:List ByteArray} {k:Int} (h:patW bs k=0) (hk:k<=6):patW bs 6=0:=wI.2 (qD (wI.1 h) hk (Int.le_refl 6))
theorem of_dia {d:DfaV} {ps:List (List ByteArray)} {g:DiaV} (hE:ofE d ps=0) (h1:g.pats=ps) (h2:xD ps.length g.chos g.chos.length) (h3:0<=g.root) (h4:g.root<=1+(g.chos.length:Int)) (hl:g.chos.length<=20000):diaE g 6=0/\diaE g d.letters=0:=by
 obtain⟨e1,e2,e3⟩:=pL hE
 have hv:=bA e1
 have hk:=hv.hk;have k1:=hv.k1;have k6:=hv.k6
 have hp:=vA.1 e3
 exact⟨fX (by omega) (by omega) (by rw[h1];exact e2) hl (fun p hp2=>dH (hp p (by rw[<- h1];exact hp2)) (by omega)) (by rw[h1];exact h2) h3 h4,fX (by omega) (by omega) (by rw[h1];exact e2) hl (fun p hp2=>hp p (by rw[<- h1];exact hp2)) (by rw[h1];exact h2) h3 h4⟩
theorem aE {d:DfaV} {ps:List (List ByteArray)} {g:DiaV} (hE:ofE d ps=0) (h1:g.pats=ps) (h2:xD ps.length g.chos g.chos.length) (h3:0<=g.root) (h4:g.root<=1+(g.chos.length:Int)) (hl:g.chos.length<=20000)
  (h5:∀ u,zX d.letters.toNat u->decG g.chos (fun i=>acc (yM (ps.getD i []) d.letters) (st0 (yM (ps.getD i []) d.letters)) u) g.root=acc d (st0 d) u) {s:ByteArray} (hs:zP s d.letters=true):diaH g s=acc d (st0 d) (zI s):=by
 obtain⟨e1,e2,e3⟩:=pL hE
 have hv:=bA e1
 have hk:=hv.hk;have k1:=hv.k1;have k6:=hv.k6
 have hp:=vA.1 e3
 obtain⟨k,h7⟩:∃ k,k=d.letters.toNat:=⟨_,rfl⟩
 have h0:d.letters=(k:Int):=by rw[h7];exact hk
 rw[h0]at hs
 have h8:=(wV hs).1
 have h6:=h5 (zI s) (by rw[<- h7];exact h8)
 rw[<- h6,diaH,(of_dia hE h1 h2 h3 h4 hl).1,uH hs (by omega) (Int.le_refl 6)]
 simp only[decide_true,Bool.true_and]
 refine mQ h2 (fun i hi=>?_) h4
 have h9:patW (ps.getD i []) (k:Int)=0:=by rw[<- h0,zF hi];exact hp _ (List.getElem_mem hi)
 rw[h1,h0]
 exact(iS (wI.1 h9) hs).symm
end Go.Proofs.Ytjfdomfendbhfaa
