/- Part 15 of the proof. -/
import Derived.Test.YtjfdomfendbhfaaQh14
import Derived.Deep.DeepCutAuto
set_option linter.unusedVariables false
set_option linter.unusedSimpArgs false
set_option maxRecDepth 100000
set_option maxHeartbeats 16000000
namespace Go.Proofs.Ytjfdomfendbhfaa
def xO (letters k:Nat):List (List Int):=upTo letters (k+1)
def famP (kind:Int)(letters k m:Nat):List (List (List Int)) :=
 let W:=xO letters k
 let S:=upTo letters k
 if kind=1 then W.map oneB else if kind=2 then S.map oneB++(W.drop 1).map preB else if kind=3 then S.map oneB++(W.drop 1).map sufB
 else if kind=4 then S.map oneB++(W.drop 1).map sufB++(W.drop 1).map preB else if kind=5 then S.map oneB++(W.drop 1).map sufB++(W.drop 1).map preB++(W.drop 1).map facB
 else if kind=6 then (W.drop 1).map rL else chL W (m+1)
theorem min_add (a b:Int)(ha:0<=a)(hb:0<=b):min (min a 900+min b 900) 900=min (a+b) 900:=by omega
theorem min_mul (b:Nat)(L:Nat)(h:1<=L):min (min (b:Int) 900*L) 900=min ((b*L:Nat):Int) 900:=by
 rcases Nat.lt_or_ge b 900 with hb|hb
 ·rw[Int.min_eq_left (a:=(b:Int)) (by omega),Int.natCast_mul]
 ·have h2:b*1<=b*L:=Nat.mul_le_mul_left _ h
  rw[Int.min_eq_right (a:=(b:Int)) (by omega)];obtain⟨P,hP⟩:∃P,P=b*L:=⟨_,rfl⟩;rw[<-hP]at h2⊢;omega
theorem qHM (letters:Nat)(h:1<=letters):∀r,(cnt letters r).1=min ((upTo letters r).length:Int) 900/\(cnt letters r).2=min ((letters ^ r:Nat):Int) 900
 | 0=>by simp only[cnt,upTo,List.range_zero,List.flatMap_nil,List.length_nil,Nat.pow_zero];decide
 | r+1=>by
  obtain⟨h1,h2⟩:=qHM letters h r
  rw[cnt]
  simp only
  rw[h1,h2]
  refine⟨?_,?_⟩
  ·rw[min_add _ _ (by omega) (by omega),wS,List.length_append,tU];push_cast;rfl
  ·rw[min_mul _ _ h,Nat.pow_succ]
theorem qHR (ws:List (List Int))(i:Nat):(chL ws (i+1)).length=(chL ws i).length+(chB ws i).length*ws.length:=by rw[chL,List.length_append,tO]
theorem chB_len (ws:List (List Int))(i:Nat):(chB ws (i+1)).length=(chB ws i).length*(ws.length-1):=by rw[chB,tO,List.length_drop]
theorem qJB {ws:List (List Int)}(hw:1<=ws.length)(h9:ws.length<=900):∀r,((chn ((ws.length:Int)-1) r).1=((chL ws r).length:Int)/\(chn ((ws.length:Int)-1) r).2=(((chB ws r).length*ws.length:Nat):Int))\/((chn ((ws.length:Int)-1) r).1=900/\900<=(chL ws r).length)
 | 0=>by
  refine .inl ⟨?_,?_⟩
  ·simp[chn,chL]
  ·rw[chn]
   simp only[chB,List.length_map]
   rw[show (ws.length:Int)-1+1=ws.length by omega];push_cast;rfl
 | r+1=>by
  have hb:=qHP ((ws.length:Int)-1) (by omega) (by omega) r
  rw[chn]
  simp only
  rcases qJB hw h9 r with ⟨e1,e2⟩|⟨e1,e2⟩
  ·rw[e1,e2,qHR,chB_len]
   obtain⟨P,hP⟩:∃P,P=(chB ws r).length*ws.length:=⟨_,rfl⟩
   rw[<-hP]
   rcases Nat.lt_or_ge ((chL ws r).length+P) 900 with h|h
   ·refine .inl ⟨by omega,?_⟩
    rw[Int.min_eq_left (by omega)]
    have e3:(chB ws r).length*(ws.length-1)*ws.length=P*(ws.length-1):=by rw[hP,Nat.mul_assoc,Nat.mul_assoc,Nat.mul_comm (ws.length-1)]
    rw[e3]
    have e4:(ws.length:Int)-1=((ws.length-1:Nat):Int):=by omega
    rw[e4];push_cast;rfl
   ·exact .inr ⟨by omega,by omega⟩
  ·refine .inr ⟨by omega,?_⟩
   rw[qHR];omega
theorem qHO (ne:Int)(h:0<=ne)(h9:ne<=900)(h3:300<=ne):∀r,300<(chn ne r).1
 | 0=>by simp only[chn];omega
 | r+1=>by
  have:=qHO ne h h9 h3 r
  have hb:=qHP ne h h9 r
  rw[chn];simp only;omega
theorem size_is {kind:Int}{letters k m:Nat}(h1:1<=kind)(h7:kind<=7)(hl:1<=letters)(hk:kind≠1->1<=k):(300<qGM kind letters k m↔300<(famP kind letters k m).length):=by
 obtain⟨c1,_⟩:=qHM letters hl (k+1);obtain⟨c2,_⟩:=qHM letters hl k;have e1:(((k:Nat):Int)+1).toNat=k+1:=by omega
 have e2:((k:Nat):Int).toNat=k:=by omega
 have e3:(((m:Nat):Int)+1).toNat=m+1:=by omega
 have hw:1<=(xO letters k).length:=qDV hl;have hS:(upTo letters k).length<=(xO letters k).length:=by rw[xO,wS,List.length_append];omega
 unfold qGM famP;simp only;rw[e1,e2,e3,c1,c2]
 change 1<=(xO letters k).length at hw
 rw[show upTo letters (k+1)=xO letters k from rfl];obtain⟨W,hW⟩:∃W,W=xO letters k:=⟨_,rfl⟩;rw[<-hW]at hw hS⊢;by_cases k1:kind=1
 ·rw[if_pos k1,if_pos k1,List.length_map];omega
 rw[if_neg k1,if_neg k1];by_cases k2:kind=2
 ·rw[if_pos (.inl k2),if_pos k2];simp only[List.length_append,List.length_map,List.length_drop];omega
 by_cases k3:kind=3
 ·rw[if_pos (.inr k3),if_neg k2,if_pos k3];simp only[List.length_append,List.length_map,List.length_drop];omega
 rw[if_neg (by omega),if_neg k2,if_neg k3];by_cases k4:kind=4
 ·rw[if_pos k4,if_pos k4];simp only[List.length_append,List.length_map,List.length_drop];omega
 rw[if_neg k4,if_neg k4];by_cases k5:kind=5
 ·rw[if_pos k5,if_pos k5];simp only[List.length_append,List.length_map,List.length_drop];omega
 rw[if_neg k5,if_neg k5];by_cases k6:kind=6
 ·rw[if_pos k6,if_pos k6];simp only[List.length_map,List.length_drop];omega
 rw[if_neg k6,if_neg k6];rcases Nat.lt_or_ge W.length 900 with h9|h9
 ·rw[Int.min_eq_left (by omega)]
  rcases qJB (ws:=W) hw (by omega) (m+1) with ⟨e,_⟩|⟨e,e'⟩
  ·rw[e];omega
  ·rw[e];omega
 ·rw[Int.min_eq_right (by omega)]
  have hb:=qHO 899 (by omega) (by omega) (by omega) (m+1);have hp:=(qHQ W 0 (m+1)).length_le;rw[Nat.zero_add]at hp;have e:(chL W 0).length=W.length:=by simp[chL]
  have:(900:Int)-1=899:=by decide
  rw[this];omega
open Go.RowKit
def famE (kind letters k m:Int):Int:=if oS kind letters k m=false then 1 else if kind=6/\8<k+2\/300<qGM kind letters.toNat k m then 3 else 0
def famL (kind letters k m:Int):List (List (List Int)):=if famE kind letters k m=0 then famP kind letters.toNat k.toNat m.toNat else []
def uZ (w:World)(er:Int)(ps:List (List (List Int)))(e:Ending)(w':World):Prop :=
 ∃(sa:Option Addr) (sc:Nat) (svs:List Value),e=.returned (.tuple #[.slice sa ps.length sc,.int .i64 er])/\RowT w'.heap.size 28 w' (.slice sa ps.length sc) svs/\wK w'.heap.size 9 strs w' svs ps/\w.grownBy w' none
theorem uZ.nil {w w':World}{er:Int}(hg:w.grownBy w' none):uZ w er [] (.returned (.tuple #[.slice none 0 0,.int .i64 er])) w':=⟨none,0,[],rfl,.inl ⟨rfl,rfl⟩,wK.nil,hg⟩
def famB (l:List (List (List Int))):List (List ByteArray):=l.map fun p=>p.map strOfNums
theorem uH (l:List (List (List Int))):(famB l).length=l.length:=by simp[famB]
theorem strs_txtV (p:List (List Int)):strs p=txtV (p.map strOfNums):=by simp[strs,txtV]
def qJD (ds:List DfaV)(k:Nat)(lw:List (List Nat×List Nat)):Bool :=
 decide ((lw.map (·.2)).Nodup) && (decide ((lw.map (·.2))[0]?=some (st0T ds)) && (lw.all (fun p=>(List.range k).all fun a=>decide (nxtT ds p.2 a∈lw.map (·.2))) && lw.all (fun p=>decide (∀a∈p.1,a<k) && decide (sM (nxtT ds) (st0T ds) p.1=p.2))))
theorem qHW {ds:List DfaV}{k:Nat}{lw:List (List Nat×List Nat)}(h:qJD ds k lw=true):BfsD (nxtT ds) k (st0T ds) (lw.map (·.2)):=by
 simp only[qJD,Bool.and_eq_true,decide_eq_true_eq,List.all_eq_true]at h;obtain⟨h1,h2,h3,h4⟩:=h;refine⟨h1,h2,fun x hx b hb=>?_,fun x hx=>?_⟩
 ·obtain⟨p,hp,rfl⟩:=List.mem_map.1 hx
  exact h3 p hp b (List.mem_range.2 hb)
 ·obtain⟨p,hp,rfl⟩:=List.mem_map.1 hx
  exact⟨p.1,(h4 p hp).1,(h4 p hp).2⟩
def dK:DfaV:=⟨2,0,[false,false,true],[[1,0],[1,2],[1,2]]⟩
def psFL:List (List (List Int)):=[[[]],[[],[97]],[[],[98]],[[97],[]],[[98],[]],[[],[97],[]],[[],[98],[]]]
def psPL:List (List (List Int)):=[[[],[97],[]],[[],[98],[]]]
def psF:List (List ByteArray):=famB psFL
def psP:List (List ByteArray):=famB psPL
theorem famF:famL 5 2 1 0=psFL:=by decide +kernel
theorem famFE:famE 5 2 1 0=0:=by decide +kernel
theorem famPP:famL 6 2 1 0=psPL:=by decide +kernel
theorem famPE:famE 6 2 1 0=0:=by decide +kernel
theorem ofEF:ofE dK psF=0:=by decide +kernel
theorem ofEP:ofE dK psP=0:=by decide +kernel
def tupD (d:DfaV):Int×Int×List Bool×List (List Int):=(d.letters,d.start,d.final,d.next)
def mkD (t:Int×Int×List Bool×List (List Int)):DfaV:=⟨t.1,t.2.1,t.2.2.1,t.2.2.2⟩
theorem qIU {l:List DfaV}{t:List (Int×Int×List Bool×List (List Int))}(h:l.map tupD=t):l=t.map mkD:=by
 subst h;rw[List.map_map];exact(List.map_id' l).symm
def tF:List DfaV:=([(2,0,[true,false],[[1,1],[1,1]]),(2,0,[false,true],[[1,0],[1,0]]),
 (2,0,[false,true],[[0,1],[0,1]]),(2,0,[false,true,false],[[1,2],[1,1],[2,2]]),
 (2,0,[false,false,true],[[1,2],[1,1],[2,2]]),(2,0,[false,true],[[1,0],[1,1]]),
 (2,0,[false,true],[[0,1],[1,1]]),(2,0,[false,false,true],[[1,0],[1,2],[1,2]])]:List (Int×Int×List Bool×List (List Int))).map mkD
def tP:List DfaV:=([(2,0,[false,true],[[1,0],[1,1]]),(2,0,[false,true],[[0,1],[1,1]]),(2,0,[false,false,true],[[1,0],[1,2],[1,2]])]:List (Int×Int×List Bool×List (List Int))).map mkD
theorem ofTF:ofT dK psF=tF:=qIU (by decide +kernel)
theorem ofTP:ofT dK psP=tP:=qIU (by decide +kernel)
def lF:List (List Nat×List Nat):=[([],[0,0,0,0,0,0,0,0]),([0],[1,1,0,1,1,1,0,1]),([1],[1,0,1,2,2,0,1,0]),
 ([0,1],[1,0,1,1,1,1,1,2]),([1,0],[1,1,0,2,2,1,1,1]),([0,1,0],[1,1,0,1,1,1,1,1]),
 ([1,0,1],[1,0,1,2,2,1,1,2])]
def lP:List (List Nat×List Nat):=[([],[0,0,0]),([0],[1,0,1]),([1],[0,1,0]),([0,1],[1,1,2]),([1,0],[1,1,1])]
theorem bfsF:BfsD (nxtT (ofT dK psF)) 2 (st0T (ofT dK psF)) (lF.map (·.2)):=by rw[ofTF];exact qHW (by decide +kernel)
theorem bfsP:BfsD (nxtT (ofT dK psP)) 2 (st0T (ofT dK psP)) (lP.map (·.2)):=by rw[ofTP];exact qHW (by decide +kernel)
theorem underF:qIK (ofT dK psF) 2:=⟨_,bfsF,by decide⟩
theorem underP:qIK (ofT dK psP) 2:=⟨_,bfsP,by decide⟩
theorem noConfF:¬Conf (ofT dK psF) 7 2:=by
 rw[lE (by rw[uO];decide) bfsF,ofTF];have:(lF.map (·.2)).all (fun x=>(lF.map (·.2)).all fun y=>!(decide (mtsT tF 7 x=mtsT tF 7 y) && (accT tF x 7 && !accT tF y 7)))=true:=by decide +kernel
 rw[List.all_eq_true]at this;rintro ⟨x,y,hx,hy,h1,h2,h3⟩;have h4:=this x hx;rw[List.all_eq_true]at h4;have h5:=h4 y hy;simp[h1,h2,h3]at h5
theorem confP:Conf (ofT dK psP) 2 2:=by
 rw[lE (by rw[uO];decide) bfsP,ofTP];exact⟨[1,1,2],[1,1,1],by decide,by decide,by decide +kernel,by decide +kernel,by decide +kernel⟩
theorem dK_vd:VD dK 3 2:=aG (d:=dK) (by decide +kernel)
theorem qDD {u:List Nat}(hu:yO 2 u):run dK 0 u<3:=cY dK_vd u (by decide) hu
theorem patW_mono {bs:List ByteArray}{k:Int}(h:patW bs k=0)(hk:k<=6):patW bs 6=0:=vJ.2 (nL (vJ.1 h) hk (Int.le_refl 6))
theorem qIT {d:DfaV}{ps:List (List ByteArray)}{g:DiaV}(hE:ofE d ps=0)(h1:g.pats=ps)(h2:wH ps.length g.chos g.chos.length)(h3:0<=g.root)(h4:g.root<=1+(g.chos.length:Int))(hl:g.chos.length<=20000):diaE g 6=0/\diaE g d.letters=0:=by
 obtain⟨e1,e2,e3⟩:=qX hE;have hv:=aG e1;have hk:=hv.hk;have k1:=hv.k1;have k6:=hv.k6;have hp:=uU.1 e3;exact⟨qHJ (by omega) (by omega) (by rw[h1];exact e2) hl (fun p hp2=>patW_mono (hp p (by rw[<-h1];exact hp2)) (by omega)) (by rw[h1];exact h2) h3 h4,qHJ (by omega) (by omega) (by rw[h1];exact e2) hl (fun p hp2=>hp p (by rw[<-h1];exact hp2)) (by rw[h1];exact h2) h3 h4⟩
theorem qER {d:DfaV}{ps:List (List ByteArray)}{g:DiaV}(hE:ofE d ps=0)(h1:g.pats=ps)(h2:wH ps.length g.chos g.chos.length)(h3:0<=g.root)(h4:g.root<=1+(g.chos.length:Int))(hl:g.chos.length<=20000)(h5:∀u,yO d.letters.toNat u->decG g.chos (fun i=>acc (xH (ps.getD i []) d.letters) (st0 (xH (ps.getD i []) d.letters)) u) g.root=acc d (st0 d) u){s:ByteArray}(hs:zU s d.letters=true):diaH g s=acc d (st0 d) (zJ s):=by
 obtain⟨e1,e2,e3⟩:=qX hE;have hv:=aG e1;have hk:=hv.hk;have k1:=hv.k1;have k6:=hv.k6;have hp:=uU.1 e3;obtain⟨k,h7⟩:∃k,k=d.letters.toNat:=⟨_,rfl⟩;have h0:d.letters=(k:Int):=by rw[h7];exact hk
 rw[h0]at hs;have h8:=(uB hs).1;have h6:=h5 (zJ s) (by rw[<-h7];exact h8);rw[<-h6,diaH,(qIT hE h1 h2 h3 h4 hl).1,pI hs (by omega) (Int.le_refl 6)];simp only[decide_true,Bool.true_and];refine qDN h2 (fun i hi=>?_) h4;have h9:patW (ps.getD i []) (k:Int)=0:=by rw[<-h0,zG hi];exact hp _ (List.getElem_mem hi)
 rw[h1,h0];exact(patDfa_acc (vJ.1 h9) hs).symm
theorem lets_at {u:List Nat}{i:Nat}(hu:yO 2 u)(hi:i<u.length):∃h:i<(strOfNums (lets u)).size,(((strOfNums (lets u))[i]'h).toNat:Nat)=97+u.getD i 0:=by
 have hq:i<(strOfNums (lets u)).size:=by rw[strOfNums_size];simpa [lets] using hi
 refine⟨hq,?_⟩;have e2:(strOfNums (lets u)).data.toList[i]'(by simpa using hq)=(strOfNums (lets u))[i]'hq:=rfl;have e1:(strOfNums (lets u)).data.toList=(lets u).map (fun n=>UInt8.ofNat n.toNat):=strOfNums_data _;rw[<-e2,zG hi];have e3:(lets u)[i]'(by simpa [lets] using hi)=97+((u[i]:Nat):Int):=by simp[lets]
 simp only[e1,List.getElem_map,e3];have:=hu _ (List.getElem_mem hi);rw[UInt8.toNat_ofNat'];omega
theorem qBI {u:List Nat}{i:Nat}(hi:i<u.length):run dK 0 (u.take (i+1))=nx dK (run dK 0 (u.take i)) (u.getD i 0):=by
 rw[zT (d:=0) hi];unfold run;rw[List.foldl_append];rfl
theorem nxK:nx dK 0 0=1/\nx dK 0 1=0/\nx dK 1 0=1/\nx dK 1 1=2/\nx dK 2 0=1/\nx dK 2 1=2:=by decide +kernel
theorem nxK_ne {q x:Nat}(hq:q<3)(hx:x<2):decide (nx dK q x≠0)=(decide (x=0) || decide (q≠0)):=by
 obtain⟨h1,h2,h3,h4,h5,h6⟩:=nxK;rcases (by omega:q=0\/q=1\/q=2) with rfl|rfl|rfl<;>rcases (by omega:x=0\/x=1) with rfl|rfl<;>simp[h1,h2,h3,h4,h5,h6]
theorem accK (u:List Nat)(hu:yO 2 u):acc dK 0 u=decide (run dK 0 u=2):=by
 have h:=qDD hu;unfold acc
 generalize run dK 0 u=q at h
 rcases (by omega:q=0\/q=1\/q=2) with rfl|rfl|rfl<;>rfl
theorem qFI (w:World)(u:List Nat)(hu:yO 2 u)(hl:u.length<=4000):Calls Try.prog 46 #[.string (strOfNums (lets u))] w fun e w'=>e=.returned (.bool (acc dK 0 u))/\w=w':=by
 have H2:Hid (∀i,i<u.length->∃h:i<(strOfNums (lets u)).size,(((strOfNums (lets u))[i]'h).toNat:Nat)=97+u.getD i 0):=Kh (fun i hi=>lets_at hu hi);obtain⟨S,hS⟩:∃S,S=strOfNums (lets u):=⟨_,rfl⟩;have a1:S.size=u.length:=by rw[hS,strOfNums_size];simp[lets]
 rw[<-hS]at H2⊢;obtain⟨n,hn⟩:∃n,n=u.length:=⟨_,rfl⟩;rw[<-hn]at a1 H2 hl;have HN:=Kh hn;have H6:=Kh hu;have a0:Hid (∀i,yO 2 (u.take i)):=Kh (fun i a ha=>hu a (List.mem_of_mem_take ha));clear hS hn hu;go_enter Try.func46,Try.ntmps46;go_wp2
 go_loopg [3,4] n (fun gh v3 v4 wr=>∃i:Nat,gh+i=n/\v4=.int .i64 i/\v3=.bool (decide (run dK 0 (u.take i)≠0))/\w=wr)
 case atStart=>exact⟨0,rfl,rfl,rfl,rfl⟩
 case round =>
  obtain⟨i,H9,rfl,rfl,rfl⟩:=hrel;have h8:=Kh H9;clear H9;by_cases hi:i<n
  ·have a2:(i:Int)<S.size:=by omega
   obtain⟨hb,hx⟩:=H2.out i hi;have H0:u.getD i 0<2:=H6.out _ (by rw[zG (by rw[<-HN.out];exact hi)];exact List.getElem_mem _);have H1:=Kh (nxK_ne (qDD (a0.out i)) H0);rw[<-qBI (by rw[<-HN.out];exact hi)]at H1;obtain⟨b,h7⟩:∃b,b=decide (run dK 0 (u.take i)≠0):=⟨_,rfl⟩;rw[<-h7]at H1⊢;rcases (by omega:u.getD i 0=0\/u.getD i 0=1) with e|e
   ·rw[e]at hx H1
    have H3:((S[i].toNat:Nat):Int)=97:=by rw[hx];rfl
    have HE:Hid (decide (run dK 0 (u.take (i+1))≠0)=true):=Kh (by rw[H1.out];simp);clear hx e H0 h7;cases b with
    | true =>
     go_wp2;go_roundg (n-(i+1))
     case measure=>have:=h8.out;omega
     case rel=>exact⟨i+1,by have:=h8.out;omega,by go_num,by rw[HE.out],rfl⟩
    | false =>
     go_wp2;go_roundg (n-(i+1))
     case measure=>have:=h8.out;omega
     case rel=>exact⟨i+1,by have:=h8.out;omega,by go_num,by rw[HE.out],rfl⟩
   ·rw[e]at hx H1
    have H3:((S[i].toNat:Nat):Int)=98:=by rw[hx];rfl
    have HE:Hid (decide (run dK 0 (u.take (i+1))≠0)=b):=Kh (by rw[H1.out];simp);clear hx e H0 h7;cases b with
    | true =>
     go_wp2;go_roundg (n-(i+1))
     case measure=>have:=h8.out;omega
     case rel=>exact⟨i+1,by have:=h8.out;omega,by go_num,by rw[HE.out],rfl⟩
    | false =>
     go_wp2;go_roundg (n-(i+1))
     case measure=>have:=h8.out;omega
     case rel=>exact⟨i+1,by have:=h8.out;omega,by go_num,by rw[HE.out],rfl⟩
  ·have H5:i=n:=by have:=h8.out;omega
   have a2:¬(i:Int)<S.size:=(by omega);have a3:Hid (u.take i=u):=Kh (List.take_of_length_le (by rw[<-HN.out];omega));obtain⟨bb,h7⟩:∃b,b=decide (run dK 0 (u.take i)≠0):=⟨_,rfl⟩;rw[<-h7];rw[a3.out]at h7;have H7:=Kh (accK u H6.out);by_cases h0:run dK 0 u=0
   ·have HA:Hid (acc dK 0 u=false):=Kh (by rw[H7.out,h0];rfl)
    obtain rfl:bb=false:=by rw[h7];simp[h0]
    clear h0 H5 h7;go_wp2;go_ret;exact⟨yA HA.out.symm,rfl⟩
   ·obtain rfl:bb=true:=by rw[h7];simp[h0]
    clear h7
    obtain⟨m,rfl⟩:∃m,n=m+1:=by
     rcases Nat.eq_zero_or_pos n with hz|hz
     ·exfalso
      apply h0;have H4:u=[]:=List.eq_nil_of_length_eq_zero (by rw[<-HN.out];exact hz);rw[H4];rfl
     ·exact⟨n-1,by omega⟩
    obtain⟨hb,hx⟩:=H2.out m (by omega);have H0:u.getD m 0<2:=H6.out _ (by rw[zG (by rw[<-HN.out];omega)];exact List.getElem_mem _);have h9:=qBI (u:=u) (i:=m) (by rw[<-HN.out];omega);rw[List.take_of_length_le (by rw[<-HN.out];omega)]at h9;have H8:=qDD (a0.out m);have e5:((S.size:Nat):Int)-1=(m:Int):=by omega
    have e6:IntKind.i64.wrap (((S.size:Nat):Int)-1)=(m:Int):=by rw[e5];exact tW (by omega)
    have a4:(m:Int)<S.size:=(by omega);have a5:m<S.size:=(by omega);rcases (by omega:u.getD m 0=0\/u.getD m 0=1) with e|e
    ·rw[e]at hx h9
     have H3:((S[m].toNat:Nat):Int)=97:=by rw[hx];rfl
     have HA:Hid (acc dK 0 u=false):=Kh (by
      rw[H7.out,h9];obtain⟨h1,h2,h3,h4,h5,h6⟩:=nxK
      rcases (by omega:run dK 0 (u.take m)=0\/run dK 0 (u.take m)=1\/run dK 0 (u.take m)=2) with q|q|q<;>rw[q]<;>simp[h1,h3,h5])
     clear hx e H0 h9 H8 h0 H5;go_wp2;go_ret;exact⟨yA HA.out.symm,rfl⟩
    ·rw[e]at hx h9
     have H3:((S[m].toNat:Nat):Int)=98:=by rw[hx];rfl
     have HA:Hid (acc dK 0 u=true):=Kh (by
      rw[H7.out];rw[h9]at h0⊢;obtain⟨h1,h2,h3,h4,h5,h6⟩:=nxK;rcases (by omega:run dK 0 (u.take m)=0\/run dK 0 (u.take m)=1\/run dK 0 (u.take m)=2) with q|q|q<;>rw[q]at h0⊢
      ·exact absurd h2 h0
      ·rw[h4];rfl
      ·rw[h6];rfl)
     clear hx e H0 h9 H8 h0 H5;go_wp2;go_ret;exact⟨yA HA.out.symm,rfl⟩
theorem RowT.litC {B:Nat}{e:TypeId}{w:World}{b:Nat}{cs:Array Value}{m:Nat×Nat}{n:Nat}(h:w.heap[b]?=some (.cells cs e m))(hb:b<B)(hn:cs.size=n)(hm:n<=maxLen):RowT B e w (.slice (some ⟨b,0,none⟩) n n) cs.toList :=
 .inr ⟨b,0,n,cs,m,by simp[hn],hb,by simp[hn],hm,h,fun i hi=>by
  rw[Nat.zero_add]
  have:i<cs.size:=by simpa using hi
  simp[this]⟩
theorem kA {w:World}{v:Value}{svs:List Value}{l:List (List (List Int))}(h:RowT w.heap.size 28 w v svs)(hr:wK w.heap.size 9 strs w svs l)(hs:∀p∈l,∀u∈p,u.length<=4096):vS w.heap.size w v (famB l):=by
 refine⟨svs,h.row,by rw[uH];exact hr.1,fun i h1 h2=>?_⟩;have h3:i<l.length:=by rw[uH]at h2;exact h2
 have e:(famB l)[i]=l[i].map strOfNums:=by simp[famB]
 rw[e];refine⟨?_,fun j hj=>?_⟩
 ·have:=(hr.2 i h1 h3).row
  rw[strs_txtV]at this;exact this
 ·have h0:j<l[i].length:=by simpa using hj
  have:=hs l[i] (List.getElem_mem h3) _ (List.getElem_mem h0);have e2:(l[i].map strOfNums)[j]=strOfNums (l[i][j]):=by simp
  rw[e2,strOfNums_size];unfold maxLen;omega
theorem dK_lit (w:World):∃w',w'=((((w.alloc (.cells #[.bool false,.bool false,.bool true] 4)).alloc (.cells #[.int .i64 1,.int .i64 0] 3)).alloc (.cells #[.int .i64 1,.int .i64 2] 3)).alloc (.cells #[.int .i64 1,.int .i64 2] 3)).alloc (.cells #[.slice (some ⟨w.heap.size+1,0,none⟩) 2 2,.slice (some ⟨w.heap.size+1+1,0,none⟩) 2 2,.slice (some ⟨w.heap.size+1+1+1,0,none⟩) 2 2] 34)/\w.grownBy w' none/\w'.heap.size=w.heap.size+5/\tE w'.heap.size w' (.agg #[.int .i64 2,.int .i64 0,.slice (some ⟨w.heap.size,0,none⟩) 3 3,.slice (some ⟨w.heap.size+1+1+1+1,0,none⟩) 3 3]) dK:=by
 obtain⟨w1,h7⟩:∃w1,w1=w.alloc (.cells #[.bool false,.bool false,.bool true] 4):=⟨_,rfl⟩;obtain⟨w2,h6⟩:∃w2,w2=w1.alloc (.cells #[.int .i64 1,.int .i64 0] 3):=⟨_,rfl⟩;obtain⟨w3,h5⟩:∃w3,w3=w2.alloc (.cells #[.int .i64 1,.int .i64 2] 3):=⟨_,rfl⟩;obtain⟨w4,h4⟩:∃w4,w4=w3.alloc (.cells #[.int .i64 1,.int .i64 2] 3):=⟨_,rfl⟩;obtain⟨w5,h0⟩:∃w5,w5=w4.alloc (.cells #[.slice (some ⟨w.heap.size+1,0,none⟩) 2 2,.slice (some ⟨w.heap.size+1+1,0,none⟩) 2 2,.slice (some ⟨w.heap.size+1+1+1,0,none⟩) 2 2] 34):=⟨_,rfl⟩;have g1:w.grownBy w1 none:=by rw[h7];exact Ga _ _ _
 have g2:w1.grownBy w2 none:=by rw[h6];exact Ga _ _ _
 have g3:w2.grownBy w3 none:=by rw[h5];exact Ga _ _ _
 have g4:w3.grownBy w4 none:=by rw[h4];exact Ga _ _ _
 have g5:w4.grownBy w5 none:=by rw[h0];exact Ga _ _ _
 have z1:w1.heap.size=w.heap.size+1:=by rw[h7,zL]
 have z2:w2.heap.size=w.heap.size+2:=by rw[h6,zL,z1]
 have z3:w3.heap.size=w.heap.size+3:=by rw[h5,zL,z2]
 have z4:w4.heap.size=w.heap.size+4:=by rw[h4,zL,z3]
 have z5:w5.heap.size=w.heap.size+5:=by rw[h0,zL,z4]
 have b1:w5.heap[w.heap.size]?=some (.cells #[.bool false,.bool false,.bool true] 4 (0,0)):=zB (zB (zB (zB (by rw[h7];exact heap_alloc_new w _) g2 (by simp)) g3 (by simp)) g4 (by simp)) g5 (by simp);have b2:w5.heap[w.heap.size+1]?=some (.cells #[.int .i64 1,.int .i64 0] 3 (0,0)):=zB (zB (zB (by rw[h6,<-z1];exact heap_alloc_new w1 _) g3 (by simp)) g4 (by simp)) g5 (by simp);have b3:w5.heap[w.heap.size+1+1]?=some (.cells #[.int .i64 1,.int .i64 2] 3 (0,0)):=zB (zB (by rw[h5,<-z2];exact heap_alloc_new w2 _) g4 (by simp)) g5 (by simp);have b4:w5.heap[w.heap.size+1+1+1]?=some (.cells #[.int .i64 1,.int .i64 2] 3 (0,0)):=zB (by rw[h4,<-z3];exact heap_alloc_new w3 _) g5 (by simp);have b5:w5.heap[w.heap.size+1+1+1+1]?=some (.cells #[.slice (some ⟨w.heap.size+1,0,none⟩) 2 2,.slice (some ⟨w.heap.size+1+1,0,none⟩) 2 2,.slice (some ⟨w.heap.size+1+1+1,0,none⟩) 2 2] 34 (0,0)):=by rw[h0,<-z4];exact heap_alloc_new w4 _
 have m2:2<=maxLen:=by unfold maxLen;omega
 have m3:3<=maxLen:=by unfold maxLen;omega
 refine⟨w5,by rw[h0,h4,h5,h6,h7],zA (zA (zA (zA g1 g2 (by simp)) g3 (by simp)) g4 (by simp)) g5 (by simp),z5,_,_,rfl,?_,?_⟩
 ·exact(RowT.litC b1 (by omega) rfl m3).row
 ·refine Mat.of_rowT (RowT.litC b5 (by omega) rfl m3) ⟨rfl,fun i h1 h2=>?_⟩ (Nat.le_refl _)
  have h3:i<3:=h2;rcases (by omega:i=0\/i=1\/i=2) with rfl|rfl|rfl
  ·exact RowT.litC b2 (by omega) rfl m2
  ·exact RowT.litC b3 (by omega) rfl m2
  ·exact RowT.litC b4 (by omega) rfl m2
theorem dJ {w':World}{v:Value}{g:DiaV}(h:oC w'.heap.size w' v g):∃ap cp ac cc,v=.agg #[.slice ap g.pats.length cp,.slice ac g.chos.length cc,.int .i64 g.root]:=by
 obtain⟨pv,cv,rfl,h1,h2⟩:=h;obtain⟨ap,cp,rfl⟩:=h1.shape;obtain⟨ac,cc,rfl⟩:=h2.shape;exact⟨ap,cp,ac,cc,rfl⟩
theorem tV (letters:Nat)(u:List Int):(block letters u 0).length=letters:=by simp[block]
theorem block_get {letters c:Nat}(u:List Int)(h:c<letters):(block letters u 0)[c]'(by rw[tV];exact h)=u++[97+(c:Int)]:=by simp[block]
theorem kP (letters:Nat):∀n,upTo letters (n+1)=[[]]++(upTo letters n).flatMap fun u=>block letters u 0
 | 0=>by simp[upTo,lex]
 | n+1=>by
  have ih:=kP letters n
  rw[wS letters (n+1),qAB]
  conv=>rhs;rw[wS letters n,List.flatMap_append,<-List.append_assoc,<-ih]
def grown (letters n i:Nat):List (List Int):=[[]]++((upTo letters n).take i).flatMap fun u=>block letters u 0
theorem qCM {letters n i:Nat}(h:(upTo letters n).length<=i):grown letters n i=upTo letters (n+1):=by
 rw[grown,List.take_of_length_le h,kP]
theorem iD {letters n i:Nat}(h:i<(upTo letters n).length):grown letters n (i+1)=grown letters n i++block letters (upTo letters n)[i] 0:=by
 rw[grown,List.take_succ_eq_append_getElem h,List.flatMap_append,<-List.append_assoc];simp[grown]
theorem qCL (letters n i:Nat):grown letters n i <+: upTo letters (n+1):=by
 have e:upTo letters (n+1)=grown letters n i++((upTo letters n).drop i).flatMap fun u=>block letters u 0:=by
  rw[kP,grown,List.append_assoc,<-List.flatMap_append,List.take_append_drop]
 rw[e];exact List.prefix_append _ _
theorem hJ {letters n:Nat}(h1:1<=letters):∀i,i<=(upTo letters n).length->i+1<=(grown letters n i).length
 | 0,_=>by simp[grown]
 | i+1,h=>by
  have:=hJ (n:=n) h1 i (by omega)
  rw[iD (by omega),List.length_append,tV];omega
theorem upTo_pre (letters n:Nat):upTo letters n <+: upTo letters (n+1):=by rw[wS];exact List.prefix_append _ _
theorem qGS {α:Type}{a b:List α}(h:a <+: b){i:Nat}(hi:i<a.length):a[i]=b[i]'(Nat.lt_of_lt_of_le hi h.length_le):=by
 obtain⟨c,rfl⟩:=h;rw[List.getElem_append_left]
theorem lV {letters n:Nat}{u:List Int}(h:u∈upTo letters n):u.length<n:=by
 simp only[upTo,List.mem_flatMap,List.mem_range]at h;obtain⟨m,hm,hu⟩:=h;rw[(qI hu).1];exact hm
theorem upTo_last {letters n i:Nat}(h:(upTo letters n).length<=i)(hi:i<(upTo letters (n+1)).length):((upTo letters (n+1))[i]).length=n:=by
 have e:(upTo letters (n+1))[i]=(lex letters n)[i-(upTo letters n).length]'(by rw[wS,List.length_append]at hi;omega):=by
  simp only[wS];rw[List.getElem_append_right h]
 rw[e];exact(qI (List.getElem_mem _)).1
theorem grown_step {letters n i x:Nat}(h:i<(upTo letters n).length)(hx:x<letters):grown letters n i++(block letters (upTo letters n)[i] 0).take (x+1)=(grown letters n i++(block letters (upTo letters n)[i] 0).take x)++[(upTo letters n)[i]++[97+(x:Int)]]:=by
 rw[List.take_succ_eq_append_getElem (by rw[tV];exact hx),block_get _ hx,List.append_assoc]
theorem grown_part (letters n i x:Nat)(h:i<(upTo letters n).length):grown letters n i++(block letters (upTo letters n)[i] 0).take x <+: upTo letters (n+1):=by
 refine List.IsPrefix.trans ?_ (qCL letters n (i+1));rw[iD h];exact List.prefix_append_right_inj _ |>.2 (List.take_prefix _ _)
theorem vD {w w':World}{p:Addr}{u:Value}(h:w.cell? p=some u)(hg:w.grownBy w' none):w'.cell? p=some u:=(World.cell?_of_block (hg.block p.block (World.block_lt_of_cell? w p h) (by simp))).trans h
theorem qED (a b:List Int):strOfNums a++strOfNums b=strOfNums (a++b):=by
 apply ByteArray.ext;simp[strOfNums]
theorem stepU_app1 {P:Program}{ops:Array Oper}{o:Oper}{a:Act}{w:World}{K:Act->World->Prop}{Q:Exit->Act->World->Prop}{R:Prop}(hgd:o.guard=none)(s x:Operand)(t:TypeId)(ho:o.op=.call { callee:=.builtin .append,args:=#[s,x],argTypes:=#[t,t] }){e:TypeId}{z:Value}{bytes:Nat}(E:ElemOk P t e z bytes)(base:Nat)(v:Value)(n:Nat)(xs:List Value)(hs:a.eval s=v)(hown:w.ownsRow base e 1 v n xs)(u:Value)(blk:Nat)(m:Nat×Nat)(hx:a.eval x=.slice (some ⟨blk,0,none⟩) 1 1)(hblk:w.heap[blk]?=some (.cells #[u] e m))(h1:u.oneCell'=true)(h63:n+1<=maxLen)(hbytes:(n+1)*bytes<=140737488355328)(hbase:base<=w.heap.size)(h:∀sa sc w',w'.ownsRow base e 1 (.slice sa (n+1) sc) (n+1) (xs++[u])->w.grownBy w' v.ownBlock->K (a.put o.dst (.slice sa (n+1) sc)) w'):
  if Region.wanted o (yielded ops a.tmps)=true then Oper.wp P o a w K Q else R:=by
 have hw:Region.wanted o (yielded ops a.tmps)=true:=by simp[Region.wanted,hgd]
 rw[if_pos hw];obtain⟨i,hi,hz,h0,h3⟩:=info_parts E.hi;refine wp_append_own w s x t ho base e i z 1 bytes E.ht hi hz h0 h3 E.hz (by decide) v n xs hs hown ⟨blk,0,none⟩ 1 1 [u] hx rfl ?_ ?_ h63 hbytes hbase ?_
 ·intro j u' hj
  match j,hj with
  | 0,hj=>simp at hj;subst hj;simpa [Addr.add] using zI hblk 0 (by simp)
 ·intro u' hu;simp at hu;subst hu;exact h1
 ·intro v' w' h1 h2 _
  obtain⟨sa,sc,rfl⟩:=sV h1;exact h sa sc w' h1 h2
theorem qBD {w:World}{kb:Nat}{l:List (List Int)}(h:Arr w kb 9 (strs l))(i:Nat)(hi:i<l.length):w.cell? ⟨kb,i,none⟩=some (.string (strOfNums l[i])):=by
 rw[h.cell i (by rw[xX];exact hi)];simp[strs]
theorem strs_catU (u:List Int)(c:Int):strOfNums u++strOfNums [c]=strOfNums (u++[c]):=by
 have h:(strOfNums u++strOfNums [c]).data.toList=(strOfNums (u++[c])).data.toList:=by
  rw[ByteArray.data_append,Array.toList_append,strOfNums_data,strOfNums_data,strOfNums_data,List.map_append]
 have h2:=Array.toList_inj.1 h;cases h3:strOfNums u++strOfNums [c];cases h4:strOfNums (u++[c])
 simp_all
theorem upto_any (letters n:Nat)(w:World)(h1:1<=letters)(h6:letters<=6)(hn8:n<=8)(hlim:(upTo letters (n+1)).length<=1000):Calls Try.prog 76 #[.int .i64 letters,.int .i64 n] w (qJG w (upTo letters (n+1))):=by
 obtain⟨P,hP⟩:∃P,P=w.heap.size:=⟨_,rfl⟩;have a8:=Kh hP;have HF:Hid (∀i,(grown letters n i).length<=1000):=Kh (fun i=>Nat.le_trans (qCL letters n i).length_le hlim);have d9:=Kh hlim
 have ho:(w.alloc (.cells #[.string ⟨#[]⟩] 9)).ownsRow P 9 1 (.slice (some ⟨P,0,none⟩) 1 1) 1 (strs (grown letters n 0)):=by
  rw[hP];exact World.ownsRow_lit (e:=9) (size:=1) w #[.string ⟨#[]⟩] 1 (Nat.le_refl _) (by unfold maxLen;omega) (by simp)
 have b5:w.grownBy (w.alloc (.cells #[.string ⟨#[]⟩] 9)) none:=Ga _ _ _;have HO:=Kh ho;have HG:=Kh b5;clear ho b5 hlim;go_enter Try.func76,Try.ntmps76;go_upto_region 2 with fail;rw[<-a8.out];obtain⟨w1,b1⟩:∃w1,w1=w.alloc (.cells #[.string ⟨#[]⟩] 9):=⟨_,rfl⟩;rw[<-b1]at HO HG⊢;clear b1 hP;go_wp2;obtain⟨U,hU⟩:∃U,U=upTo letters n:=⟨_,rfl⟩;obtain⟨V,hV⟩:∃V,V=upTo letters (n+1):=⟨_,rfl⟩;have b6:Hid (U <+: V):=Kh (by rw[hU,hV];exact upTo_pre letters n);have e8:V.length<=1000:=by rw[hV];exact d9.out
 have h3:=Kh hU;have H2:=Kh hV;rw[<-hV];clear hU hV;have f0:=b6.out.length_le
 go_loopg [5,6,7] V.length (fun gh lv iv av wr=>∃(i L:Nat) (sa:Option Addr) (sc:Nat),gh+i=V.length/\iv=.int .i64 (i:Int)/\lv=.slice sa L sc/\Hid (L=(grown letters n i).length)/\Hid (wr.ownsRow P 9 1 (.slice sa L sc) L (strs (grown letters n i)))/\w.grownBy wr none)
 case atStart=>exact⟨0,1,some ⟨P,0,none⟩,1,rfl,rfl,rfl,Kh (by simp[grown]),HO,HG.out⟩
 case round =>
  obtain⟨i,L,sa,sc,hg,rfl,rfl,hL,h0,H5⟩:=hrel;have a1:=Kh hg;have a0:=Kh H5;have a7:L<=1000:=by rw[hL.out];exact HF.out i
  clear hg H5 HO HG;rcases Nat.lt_or_ge i U.length with hiU|hiU
  ·
   have b3:i<L:=by
    have:=hJ (n:=n) h1 i (by rw[<-h3.out];omega);rw[<-hL.out]at this;omega
   have H4:(i:Int)<L:=(by omega);have hm:=List.getElem_mem hiU;have c5:(U[i]).length<n:=lV (by rw[<-h3.out];exact hm);obtain⟨u,hu⟩:∃u,u=U[i]:=⟨_,rfl⟩;have HU:=Kh hu;rw[<-hu]at c5;obtain⟨X,hX⟩:∃X,X=strOfNums u:=⟨_,rfl⟩;have c4:X.size=u.length:=by rw[hX,strOfNums_size]
   have HX:=Kh hX
   have d4:Hid (∀x,x<letters->grown letters n i++(block letters u 0).take (x+1)=(grown letters n i++(block letters u 0).take x)++[u++[97+(x:Int)]]):=Kh (fun x hx=>by
    have:=grown_step (letters:=letters) (n:=n) (i:=i) (x:=x) (by rw[<-h3.out];exact hiU) hx;have e:(upTo letters n)[i]'(by rw[<-h3.out];exact hiU)=u:=by rw[hu];congr 1;exact h3.out.symm
    rw[e]at this;exact this)
   have b7:Hid (∀x,grown letters n i++(block letters u 0).take x <+: V):=Kh (fun x=>by
    have:=grown_part letters n i x (by rw[<-h3.out];exact hiU);have e:(upTo letters n)[i]'(by rw[<-h3.out];exact hiU)=u:=by rw[hu];congr 1;exact h3.out.symm
    rw[e,<-H2.out]at this;exact this)
   have d3:Hid (∀h:i<V.length,V[i]=u):=Kh (fun h=>by rw[hu];exact(qGS b6.out hiU).symm)
   have b9:Hid (grown letters n (i+1)=grown letters n i++block letters u 0):=Kh (by
    rw[iD (by rw[<-h3.out];exact hiU)];have e:(upTo letters n)[i]'(by rw[<-h3.out];exact hiU)=u:=by rw[hu];congr 1;exact h3.out.symm
    rw[e])
   clear hu hX hm;obtain⟨wo,a9⟩:∃wo,wo=wr:=⟨_,rfl⟩;rw[<-a9]at h0 a0⊢;clear a9 wr;go_wp2
   go_loopg [5,7] letters (fun gh lv av wr=>∃(a:Nat) (sb:Option Addr) (sd:Nat),gh+a=letters/\av=.int .i64 (a:Int)/\lv=.slice sb (L+a) sd/\Hid (wr.ownsRow P 9 1 (.slice sb (L+a) sd) (L+a) (strs (grown letters n i++(block letters u 0).take a)))/\w.grownBy wr none)
   case atStart=>exact⟨0,sa,sc,rfl,rfl,rfl,Kh (by simpa using h0.out),a0.out⟩
   case round =>
    obtain⟨a,sb,sd,hg,rfl,rfl,h0,H5⟩:=hrel;obtain⟨kb,rfl,c8,H8,h4⟩:=yG h0.out (by omega);have h5:(grown letters n i++(block letters u 0).take a).length=L+a:=by rw[List.length_append,List.length_take,tV,<-hL.out];omega
    have h2:=qBD h4 i (by rw[h5];omega);have f1:L+a<=V.length:=by rw[<-h5];exact(b7.out a).length_le
    rw[qGS (b7.out a) (by rw[h5];omega),d3.out (by omega),<-HX.out]at h2;have e2:(i:Int)<(L:Int)+(a:Int):=(by omega);have c7:i<L+a:=(by omega);have c2:=Kh hg;have H3:=Kh H5;have h7:=h0;have a6:sd<=9223372036854775807:=by unfold maxLen at H8;omega
    clear hg H5 h4 H8 h5 h0;by_cases ha:a<letters
    ·have e7:(a:Int)<letters:=by omega
     have e1:(X.size:Int)<n:=(by omega);have f3:(L:Int)+(a:Int)<2000:=(by omega);have f2:IntKind.i64.wrap (97+(a:Int))=97+(a:Int):=IntWalk.i64_in _ (by omega);have e6:IntKind.u8.wrap (97+(a:Int))=97+(a:Int):=IntWalk.u8_in _ (by omega);obtain⟨Y,hY⟩:∃Y,Y=strOfNums [97+(a:Int)]:=⟨_,rfl⟩;have e4:∀(W:World) (g:Nat),W.cell? ⟨g,0,none⟩=some (.int .u8 (97+(a:Int)))->(convert 106 9 (.slice (some ⟨g,0,none⟩) 1 1)).run Try.prog W=.ok (.string Y) W:=fun W g h=>by rw[hY];exact nU 106 5 Try.underlying106 Try.underlying5 9 Try.underlying9 h
     have e5:∀W:World,(Op.stringOp .add X Y).run Try.prog W=.ok (.string (X++Y)) W:=fun W=>run_string_add_sum W X Y (by
      rw[hY,strOfNums_size];simp;omega)
     have d1:Hid (X++Y=strOfNums (u++[97+(a:Int)])):=Kh (by rw[HX.out,hY,strs_catU]);clear hY;obtain⟨w5,a2⟩:∃w5,w5=wr.drew:=⟨_,rfl⟩;have H9:wr.grownBy w5 none:=(by rw[a2];exact zO wr none);have d2:=Kh a2;have b8:=Kh (zY h7.out H9 (by simp));have c1:=Kh (zA H3.out H9 (by simp));have C:=Kh (vD h2 H9);clear a2 H9 h7 H3;go_upto_region 8 with fail;clear h2;refine wp_region_noPanic ?_;refine yY (G:=uI 10 (fun _=>True) (fun W=>W.cell? ⟨kb,i,none⟩=some (.string X))) (by kernel_rfl) ?_;rw[<-d2.out];refine zV 0 ⟨trivial,fun _=>C.out⟩ ?_;refine zV 1 ⟨trivial,fun _=>C.out⟩ ?_;refine zV 2 ⟨trivial,fun _=>C.out⟩ ?_;refine zV 3 ⟨trivial,fun _=>C.out⟩ ?_;refine uA 4 ⟨trivial,fun _=>C.out⟩ ?_;refine zV 5 ⟨trivial,fun _=>C.out⟩ ?_;refine zV 6 ⟨trivial,fun _=>C.out⟩ ?_;refine zV 7 ⟨trivial,fun _=>C.out⟩ ?_;refine oneG (i:=8) (by kernel_rfl) rfl (fun K hK=>?_);go_simp;have H0:=heap_alloc_new w5 (.cells #[.int .u8 (97+(a:Int))] 5);have H7:=Ga w5 (.cells #[.int .u8 (97+(a:Int))] 5) none;obtain⟨g6,H6⟩:∃g6,g6=w5.heap.size:=⟨_,rfl⟩;obtain⟨w6,b0⟩:∃w6,w6=w5.alloc (.cells #[.int .u8 (97+(a:Int))] 5):=⟨_,rfl⟩;rw[<-H6]at H0⊢;rw[<-b0]at H0 H7⊢;have c9:=zI H0 0 (by simp);simp only[List.getElem_toArray,List.getElem_cons_zero]at c9;have d6:=Kh (zY b8.out H7 (by simp));have c0:=Kh (zA c1.out H7 (by simp));have C6:=Kh (vD C.out H7);refine hK.out _ _ ⟨trivial,fun _=>C6.out⟩ ?_;clear hK K H0 H7 H6 b0 b8 c1 C
     try simp only[Act.put,sPa,sPb,sPc]
     refine oneG (i:=9) (by kernel_rfl) rfl (fun K hK=>?_);go_simp;refine hK.out _ _ ⟨trivial,fun _=>C6.out⟩ ?_;clear hK K
     try simp only[Act.put,sPa,sPb,sPc]
     refine oneG (i:=10) (by kernel_rfl) rfl (fun K hK=>?_);go_simp;refine hK.out _ _ ⟨trivial,fun h=>by simp at h⟩ ?_;clear hK K
     try simp only[Act.put,sPa,sPb,sPc]
     refine oneG (i:=11) (by kernel_rfl) rfl (fun K hK=>?_);go_simp;have H0:=heap_alloc_new w6 (.cells #[.string (X++Y)] 9);have a5:=Ga w6 (.cells #[.string (X++Y)] 9) none;have a3:=zY d6.out a5 (by simp);refine hK.out _ _ ⟨trivial,fun h=>by simp at h⟩ ?_;clear hK K
     try simp only[Act.put,sPa,sPb,sPc]
     have c6:P<=w6.heap.size:=by have:=c0.out.size;have:=a8.out;omega
     refine oneG (i:=12) (by kernel_rfl) rfl (fun K hK=>?_);refine stepU_app1 rfl (.tmp 34) (.tmp 45) 26 rfl nC P _ _ _ rfl a3 _ _ _ rfl H0 rfl ?g1 ?g2 ?g3 ?_
     case g1=>unfold maxLen;omega
     case g2=>omega
     case g3=>rw[zL];omega
     intro sa' sc' w8 h8 b4;refine hK.out _ _ ⟨trivial,fun h=>by simp at h⟩ ?_;clear hK K
     try simp only[Act.put,sPa,sPb,sPc]
     refine oneG (i:=13) (by kernel_rfl) rfl (fun K hK=>?_);go_simp;refine hK.out _ _ ⟨trivial,fun h=>by simp at h⟩ ?_;clear hK K
     try simp only[Act.put,sPa,sPb,sPc]
     refine rP (by kernel_rfl) ?_ _;refine NoPanic.normal ?_;have d5:=Kh h8;have e0:=Kh (zA (zA c0.out a5 (by simp)) b4 (fun k e=>by have:=(a3.lt k e).1;have:=a8.out;omega));clear h8 b4 a5 a3 H0;go_wp2;go_roundg (letters-(a+1))
     case measure=>have:=c2.out;omega
     case rel =>
      refine⟨a+1,sa',sc',by omega,by go_num,by rw[Nat.add_assoc],Kh ?_,e0.out⟩;rw[d4.out a ha,oH,<-Nat.add_assoc];have e9:strs [u++[97+(a:Int)]]=[.string (X++Y)]:=by rw[d1.out];rfl
      rw[e9];exact d5.out
    ·have d0:a=letters:=by have:=c2.out;omega
     subst d0;have b2:(block a u 0).take a=block a u 0:=List.take_of_length_le (by rw[tV];exact Nat.le_refl _);rw[b2,<-b9.out]at h7;have d8:Hid (L+a=(grown a n (i+1)).length):=Kh (by rw[b9.out,List.length_append,tV,<-hL.out]);clear b2 h2;go_wp2;go_roundg (V.length-(i+1))
     case measure=>have:=a1.out;omega
     case rel=>exact⟨i+1,L+a,some ⟨kb,0,none⟩,sd,by have:=a1.out;omega,by go_num,rfl,d8,h7,H3.out⟩
  ·
   have H1:grown letters n i=V:=by rw[qCM (by rw[<-h3.out];exact hiU),H2.out]
   rw[H1]at hL h0;have d7:=hL;by_cases b3:i<L
   ·have H4:(i:Int)<L:=by omega
    obtain⟨kb,rfl,c8,H8,h4⟩:=yG h0.out (by omega);have a4:i<V.length:=(by rw[<-hL.out];exact b3);have h2:=qBD h4 i a4
    have h9:(V[i]).length=n:=by
     have:=upTo_last (letters:=letters) (n:=n) (i:=i) (by rw[<-h3.out];exact hiU) (by rw[<-H2.out];exact a4);have e:V[i]=(upTo letters (n+1))[i]'(by rw[<-H2.out];exact a4):=by congr 1
     rw[e];exact this
    obtain⟨X,hX⟩:∃X,X=strOfNums V[i]:=⟨_,rfl⟩;have c4:¬(X.size:Int)<n:=(by rw[hX,strOfNums_size,h9];omega);rw[<-hX]at h2;have a6:sc<=9223372036854775807:=by unfold maxLen at H8;omega
    have e3:(0:Int)<letters:=(by omega);have c3:Hid (grown letters n (i+1)=V):=Kh (by rw[qCM (by rw[<-h3.out];omega),H2.out]);clear h4 H8 hX h9 H1;obtain⟨wo,rfl⟩:∃wo:World,wo=wr:=⟨_,rfl⟩;go_wp2
    go_loopg [5,7] 0 (fun gh lv av wq=>lv=.slice (some ⟨kb,0,none⟩) L sc/\av=.int .i64 0/\wq=wo)
    case atStart=>exact⟨rfl,rfl,rfl⟩
    case round =>
     obtain⟨rfl,rfl,rfl⟩:=hrel;go_wp2;go_roundg (V.length-(i+1))
     case measure=>have:=a1.out;omega
     case rel=>exact⟨i+1,L,some ⟨kb,0,none⟩,sc,by have:=a1.out;have:=hL.out;omega,by go_num,rfl,by rw[c3.out];exact d7,by rw[c3.out];exact h0,a0.out⟩
   ·have H4:¬(i:Int)<L:=by omega
    clear H1;go_wp2;go_ret;exact⟨sa,sc,by rw[<-H2.out,<-hL.out];rfl,by rw[<-H2.out,<-hL.out];exact RowT.of_owns h0.out,a0.out⟩
def allC (ws:List (List Int)):Nat->List (List (List Int))
 | 0=>[]
 | i+1=>allC ws i++exts (chB ws i) ws
theorem qAO (ws:List (List Int)):∀i,chL ws i=ws.map oneB++allC ws i
 | 0=>by simp[chL,allC]
 | i+1=>by rw[chL,qAO ws i,allC,List.append_assoc]
theorem qFX (ws:List (List Int))(i:Nat):∀d,allC ws i <+: allC ws (i+d)
 | 0=>List.prefix_refl _
 | d+1=>(qFX ws i d).trans (List.prefix_append _ _)
theorem allC_pre' (ws:List (List Int)){i j:Nat}(h:i<=j):allC ws i <+: allC ws j:=by
 obtain⟨d,rfl⟩:∃d,j=i+d:=⟨j-i,by omega⟩;exact qFX ws i d
theorem part_pre (ws:List (List Int)){n m p:Nat}(hn:n<=m)(hp:p<(chB ws n).length)(r:Nat):allC ws n++exts ((chB ws n).take p) ws++(ws.take r).map (fun u=>(chB ws n)[p]++[u]) <+: allC ws (m+1):=by
 refine List.IsPrefix.trans ?_ (allC_pre' ws (show n+1<=m+1 by omega));rw[allC,List.append_assoc];exact List.prefix_append_right_inj _ |>.2 (exts_part hp r)
theorem take_of_pre {α:Type}{a b:List α}(h:a <+: b){n:Nat}(hn:a.length=n):a=b.take n:=by rw[<-hn];exact List.prefix_iff_eq_take.1 h
theorem chB_all {ws:List (List Int)}(hw:1<=ws.length){n:Nat}:(chB ws n).length<=ws.length+(allC ws n).length:=by
 cases n with
 | zero=>simp[chB,allC]
 | succ n =>
  rw[chB,allC,List.length_append,tO,tO,List.length_drop];have:=Nat.mul_le_mul_left (chB ws n).length (show ws.length-1<=ws.length by omega);omega
theorem qJA (l:List Int):(strOfNums l).toList.isEmpty=l.isEmpty:=by
 rw[ByteArray.toList_eq,strOfNums_data,Bool.eq_iff_iff,List.isEmpty_iff,List.isEmpty_iff,List.map_eq_nil_iff]
def rA (ws:List (List Int))(r:Nat):List (List Int):=(ws.take r).drop 1
theorem tailTo_one (ws:List (List Int)):rA ws 1=[]:=by cases ws<;>simp[rA]
theorem fK (ws:List (List Int)):rA ws 0=[]:=by simp[rA]
theorem tailTo_succ {ws:List (List Int)}{r:Nat}(h1:1<=r)(h:r<ws.length):rA ws (r+1)=rA ws r++[ws[r]]:=by
 rw[rA,List.take_succ_eq_append_getElem h,List.drop_append_of_le_length (by rw[List.length_take];omega)];rfl
theorem tailTo_all (ws:List (List Int)):rA ws ws.length=ws.drop 1:=by rw[rA,List.take_length]
def nxP (b:Bool)(l:List (List (List Int))):List (List (List Int)):=if b then l else []
def opP (ws:List (List Int))(m n:Nat):List (List (List Int)):=if n<=m then chB ws n else []
theorem rchains_any (B:Nat)(w:World)(v:Value)(ws:List (List Int))(m:Nat)(hB:B<=w.heap.size)(h:RowT B 9 w v (strs ws))(hm4:m<=4)(h2w:2<=ws.length)(hwl:ws.length<=301)(hw0:ws[0]=[])(hwn:∀r (h:r<ws.length),1<=r->ws[r]≠[]):Calls Try.prog 77 #[v,.int .i64 m] w (PatListed w ((allC ws (m+1)).take 301)):=by
 obtain⟨va,sc,rfl⟩:=h.row.shape;rw[xX]at h⊢;obtain⟨b,off,rfl,n1,j7⟩:=cJ h (by omega);have n0:sc<=9223372036854775807:=by unfold maxLen at j7;omega
 have n3:=Kh h
 have m0:Hid (∀r (h:r<ws.length),(strOfNums ws[r]).toList.isEmpty=decide (r=0)):=Kh (fun r h=>by
  rw[qJA];by_cases h0:r=0
  ·subst h0;rw[hw0];rfl
  ·rw[decide_eq_false h0,List.isEmpty_eq_false_iff];exact hwn r h (by omega))
 obtain⟨ba,f3⟩:∃ba,ba=w.heap.size:=⟨_,rfl⟩;have m6:=Kh f3;have l6:w.heap.size<=ba:=by omega
 have l9:B<=ba:=by omega
 obtain⟨w1,f1⟩:∃w1,w1=w.alloc (.cells #[] 26):=⟨_,rfl⟩;have f2:w.grownBy w1 none:=by rw[f1];exact Ga w _ none
 have g6:=heap_alloc_new w (.cells #[] 26);rw[<-f1,<-f3]at g6;have k7:Hid (LUp 26 ba w1 (.slice (some ⟨ba,0,none⟩) 0 0) 0 [] []):=Kh ⟨qE g6 (Nat.le_refl _),wK.nil,by decide⟩;have m1:=Kh f1;have j9:=h.kept f2 (by simp);have b5:ba<=w1.heap.size:=by rw[f3];exact f2.size
 clear h j7 hw0 hwn f3 f1 g6;go_enter Try.func77,Try.ntmps77;go_upto_region 3 with fail;rw[<-m1.out,<-m6.out];go_wp2
 go_loopw [6,18] (fun v i wr=>∃(sb:Option Addr) (cb j:Nat) (svb:List Value),i=.int .i64 j/\j<=ws.length/\v=.slice sb j cb /\
   LUp 26 ba wr (.slice sb j cb) j svb ((ws.take j).map oneB)/\RowT B 9 wr (.slice (some ⟨b,off,none⟩) ws.length sc) (strs ws)/\w.grownBy wr none/\ba<=wr.heap.size)
  (fun _ i _=>ws.length-(intOf i).toNat)
 case atStart=>exact⟨_,_,0,_,rfl,Nat.zero_le _,rfl,by simpa using k7.out,j9,f2,b5⟩
 case round =>
  clear k7 j9 f2 b5;obtain⟨sb,cb,j,svb,rfl,hj,rfl,j2,hT,hg,b5⟩:=hrel;obtain⟨wo,rfl⟩:∃wo:World,wo=wr:=⟨_,rfl⟩;have d4:=Kh j2;clear j2;by_cases hlt:j<ws.length
  ·have g0:(j:Int)<ws.length:=by omega
   have h9:=gY hT hlt;obtain⟨u,b6⟩:∃u,u=ws[j]:=⟨_,rfl⟩;have HU:=Kh b6;rw[<-b6]at h9;clear b6;have g1:=Ga wo (.cells #[.string (strOfNums u)] 9) none;have j0:=(d4.out.kept g1 (by simp)).own;have d8:=World.ownsRow_lit (e:=9) (size:=1) wo #[.string (strOfNums u)] 1 (Nat.le_refl _) (by unfold maxLen;omega) (by simp);go_wp2_with (at_builtin;refine app1 rfl (.tmp 22) (.tmp 25) _ rfl qCS ba _ j svb rfl j0 _ (by rw[zL];rfl) rfl ?c1 ?c2 ?c3 ?_)
   case c1=>unfold maxLen;omega
   case c2=>omega
   case c3=>(try rw[zL]);omega
   intro sb' cb' w4 h7 e0 _;obtain⟨i9,b9⟩:=d4.out.push (us:=oneB u) g1 d8 h7 e0;have g9:=fun q (e:(Value.slice sb j cb).ownBlock=some q)=>(d4.out.own.lt q e).1;have l8:=hT.kept b9 (fun q e=>.inl (by have:=g9 q e;omega));have b0:=zA hg b9 (fun q e=>by have:=g9 q e;omega);have m8:=b9.size;have m3:=Kh i9;clear h7 e0 b9 j0 h9 i9 hT g1 d8 g9;go_wp2;go_roundw
   case rel =>
    refine⟨sb',cb',j+1,svb++[Value.slice (some ⟨wo.heap.size,0,none⟩) 1 1],by go_num,by omega,rfl,?_,l8,b0,by omega⟩;have e9:ws[j]'hlt=u:=HU.out.symm;rw[kR oneB _ j hlt,e9];exact m3.out
   case measure=>simp[intOf];omega
  ·obtain rfl:j=ws.length:=by omega
   rw[List.take_length]at d4;clear hlt;have d5:Hid (LRead wo.heap.size wo (.slice sb ws.length cb) svb (opP ws m 0)):=Kh (by rw[opP,if_pos (Nat.zero_le _)];exact LRead.of d4.out);have k5:Hid (ws.length=(opP ws m 0).length):=Kh (by rw[opP,if_pos (Nat.zero_le _)];simp[chB]);have h6:Hid (LUp 28 ba wo (.slice none 0 0) 0 [] (allC ws 0)):=Kh (LUp.nil (by decide) _ _);clear d4;go_wp2
   go_loopg [5,6,9,10] (m+1) (fun gh v5 v6 i v10 wx=>∃(q n nb:Nat) (sl:Option Addr) (c:Nat) (svs:List Value) (sb:Option Addr) (cb:Nat) (svb:List Value),gh+q=m+1/\i=.int .i64 (q:Int)/\v5=.slice sl n c/\v6=.slice sb nb cb /\
     LUp 28 ba wx (.slice sl n c) n svs (allC ws q)/\Hid (n<=301)/\LRead wx.heap.size wx (.slice sb nb cb) svb (opP ws m q)/\Hid (nb=(opP ws m q).length)/\RowT B 9 wx (.slice (some ⟨b,off,none⟩) ws.length sc) (strs ws)/\w.grownBy wx none/\ba<=wx.heap.size)
   case atStart=>exact⟨0,0,_,none,0,[],sb,cb,svb,rfl,rfl,rfl,rfl,h6.out,Kh (by omega),d5.out,k5,hT,hg,b5⟩
   case round =>
    clear h6 d5 k5 hT hg b5 hj;obtain⟨q,n,nb,sl,c,svs,sb,cb,svb,j3,rfl,rfl,rfl,a8,H4,H0,d2,hT,hg,b5⟩:=hrel;obtain⟨wo,rfl⟩:∃wo:World,wo=wr:=⟨_,rfl⟩;have i5:=Kh j3;have h6:=Kh a8;have H5:=Kh H0;clear j3 a8 H0;by_cases hq:q<=m
    ·have l0:(q:Int)<=(m:Int):=by omega
     have k0:opP ws m q=chB ws q:=by rw[opP,if_pos hq]
     rw[k0]at H5 d2;have f9:1<=nb:=by rw[d2.out];exact qHS h2w q
     have a7:=H4.out;have d1:=h6.out.len
     have l1:nb<=700:=by
      have:=chB_all (ws:=ws) (by omega) (n:=q);rw[d2.out];omega
     have e8:Hid (∀bb∈chB ws q,bb.length=q+1):=Kh (fun bb h=>iI q h);have k3:Hid (∀p (hp:p<(chB ws q).length) r,allC ws q++exts ((chB ws q).take p) ws++(ws.take r).map (fun u=>(chB ws q)[p]++[u]) <+: allC ws (m+1)):=Kh (fun p hp r=>part_pre ws hq hp r)
     have f0:Hid (allC ws (q+1)=allC ws q++exts (chB ws q) ws/\opP ws m (q+1)=nxP (decide (q<m)) (exts (chB ws q) (ws.drop 1))):=Kh ⟨rfl,by
      by_cases d6:q<m
      ·rw[opP,if_pos (by omega),decide_eq_true d6];rfl
      ·rw[opP,if_neg (by omega),decide_eq_false d6];rfl⟩
     obtain⟨Bs,f5⟩:∃Bs,Bs=chB ws q:=⟨_,rfl⟩;obtain⟨L0,i0⟩:∃L0,L0=allC ws q:=⟨_,rfl⟩;obtain⟨FU,f4⟩:∃FU,FU=allC ws (m+1):=⟨_,rfl⟩;rw[<-f5]at H5 e8 f0 d2;rw[<-i0]at h6 f0
     have i1:Hid (∀p (hp:p<Bs.length) r,L0++exts (Bs.take p) ws++(ws.take r).map (fun u=>Bs[p]++[u]) <+: FU):=Kh (by
      intro p hp r;have:=k3.out p (by rw[<-f5];exact hp) r;simp only[<-f5,<-i0,<-f4]at this
      exact this)
     rw[<-f4];have n5:=Kh f4;clear k3 f5 i0 f4 k0 H4 d1;obtain⟨nq,d1⟩:∃nq,nq=decide (q<m):=⟨_,rfl⟩;rw[<-d1]at f0;have d6:decide ((q:Int)<(m:Int))=nq:=by rw[d1];exact decide_eq_decide.2 (by omega)
     have n4:=Kh d1;clear d1;obtain⟨bb,bo,rfl,l5,e4⟩:=rowT_some H5.out.row f9;have l4:cb<=9223372036854775807:=by unfold maxLen at e4;omega
     have d0:=d2;obtain⟨BB,c7⟩:∃BB,BB=wo.heap.size:=⟨_,rfl⟩;have n2:ba<=BB:=by rw[c7];exact b5
     have c6:BB<=wo.heap.size:=by omega
     rw[<-c7]at H5
     have k4:Hid (LUp 26 BB wo (.slice none 0 0) 0 [] (nxP nq (exts (Bs.take 0) (ws.drop 1)))):=Kh (by
      have:nxP nq (exts (Bs.take 0) (ws.drop 1))=[]:=by cases nq<;>simp[nxP,exts]
      rw[this];exact LUp.nil (by decide) _ _)
     have k6:=Kh a7;clear c7 e4 d2 b5 a7;go_wp2
     go_loopw [5,10,35] (fun v5 v10 i wx=>∃(p n nl:Nat) (sl:Option Addr) (c:Nat) (svs:List Value) (sg:Option Addr) (cg:Nat) (svg:List Value),i=.int .i64 p/\p<=nb/\v5=.slice sl n c/\v10=.slice sg nl cg /\
       LUp 28 ba wx (.slice sl n c) n svs (L0++exts (Bs.take p) ws)/\LUp 26 BB wx (.slice sg nl cg) nl svg (nxP nq (exts (Bs.take p) (ws.drop 1)))/\Hid (n<=301)/\LRead BB wx (.slice (some ⟨bb,bo,none⟩) nb cb) svb Bs/\RowT B 9 wx (.slice (some ⟨b,off,none⟩) ws.length sc) (strs ws)/\w.grownBy wx none/\BB<=wx.heap.size)
      (fun _ _ i _=>nb-(intOf i).toNat)
     case atStart=>exact⟨0,n,0,sl,c,svs,none,0,[],rfl,Nat.zero_le _,rfl,rfl,by simpa [exts] using h6.out,k4.out,k6,H5.out,hT,hg,c6⟩
     case round =>
      clear h6 k4 H5 hT hg c6 k6;obtain⟨p,n,nl,sl,c,svs,sg,cg,svg,rfl,hp,rfl,rfl,a8,d3,a7,H0,hT,hg,c6⟩:=hrel;obtain⟨wo,rfl⟩:∃wo:World,wo=wr:=⟨_,rfl⟩;have h6:=Kh a8;have a5:=Kh d3;have H5:=Kh H0;clear a8 d3 H0;by_cases hlt:p<nb
      ·have g0:(p:Int)<(nb:Int):=by omega
       have d7:p<Bs.length:=(by rw[<-d0.out];exact hlt);obtain⟨ra,rc,g7,a0⟩:=H5.out.at d0.out hlt;have j1:=e8.out _ (List.getElem_mem d7);obtain⟨bl,g5⟩:∃bl,bl=Bs[p]'d7:=⟨_,rfl⟩;have d5:=Kh g5;rw[<-g5]at g7 a0 j1;obtain⟨bn,g4⟩:∃bn,bn=bl.length:=⟨_,rfl⟩;rw[<-g4]at g7 a0;have k8:=Kh g4;have l3:bn<=100:=by omega
       have e7:Hid (∀x∈strs bl,x.oneCell'=true):=Kh (fun x hx=>by
        obtain⟨y,_,rfl⟩:=List.mem_map.1 hx;rfl)
       clear g5 g4 j1;go_wp2
       go_loopw [5,10,41] (fun v5 v10 i wx=>∃(r n nl:Nat) (sl:Option Addr) (c:Nat) (svs:List Value) (sg:Option Addr) (cg:Nat) (svg:List Value),i=.int .i64 r/\r<=ws.length/\v5=.slice sl n c/\v10=.slice sg nl cg /\
         LUp 28 ba wx (.slice sl n c) n svs (L0++exts (Bs.take p) ws++(ws.take r).map (fun u=>bl++[u]))/\LUp 26 BB wx (.slice sg nl cg) nl svg (nxP nq (exts (Bs.take p) (ws.drop 1)++(rA ws r).map (fun u=>bl++[u])))/\Hid (n<=301)/\LRead BB wx (.slice (some ⟨bb,bo,none⟩) nb cb) svb Bs/\RowT BB 9 wx (.slice ra bn rc) (strs bl)/\RowT B 9 wx (.slice (some ⟨b,off,none⟩) ws.length sc) (strs ws)/\w.grownBy wx none/\BB<=wx.heap.size)
        (fun _ _ i _=>ws.length-(intOf i).toNat)
       case atStart=>exact⟨0,n,nl,sl,c,svs,sg,cg,svg,rfl,Nat.zero_le _,rfl,rfl,by simpa using h6.out,by simpa [fK] using a5.out,a7,H5.out,a0,hT,hg,c6⟩
       case round =>
        clear h6 a5 H5 hT hg c6 a0 g7 a7;obtain⟨r,n,nl,sl,c,svs,sg,cg,svg,rfl,hr,rfl,rfl,a8,d3,a7,H0,a0,hT,hg,c6⟩:=hrel;obtain⟨wo,rfl⟩:∃wo:World,wo=wr:=⟨_,rfl⟩;have h6:=Kh a8;have a5:=Kh d3;have H5:=Kh H0;have H4:=a7.out
        have m9:nl<=1000:=by
         have h1:=d3.len;have h2:=a8.len
         have h3:(nxP nq (exts (Bs.take p) (ws.drop 1)++(rA ws r).map (fun u=>bl++[u]))).length<=(exts (Bs.take p) ws).length+r:=by
          cases nq with
          | false=>simp[nxP]
          | true =>
           show (exts (Bs.take p) (ws.drop 1)++(rA ws r).map (fun u=>bl++[u])).length<=_;have h4:(rA ws r).length<=r:=by rw[rA,List.length_drop,List.length_take];omega
           rw[List.length_append,List.length_map,tO,tO,List.length_drop];have:=Nat.mul_le_mul_left (Bs.take p).length (show ws.length-1<=ws.length by omega);omega
         simp only[List.length_append,List.length_map]at h2;omega
        clear a8 d3 H0;by_cases H0:r<ws.length
        ·have l2:(r:Int)<ws.length:=by omega
         have h9:=gY hT H0;have H3:=m0.out r H0;obtain⟨u,b6⟩:∃u,u=ws[r]:=⟨_,rfl⟩;have HU:=Kh b6;rw[<-b6]at h9 H3;clear b6;by_cases hfull:300<n
         ·have c0:(300:Int)<n:=by omega
          have hl:=h6.out.len;have b7:=i1.out p d7 r;rw[<-d5.out]at b7;have e1:=take_of_pre b7 (n:=301) (by omega);have HL:=Kh hl;have i6:=Kh e1;clear e1 hl b7 H3;go_wp2;go_ret;rw[<-i6.out];exact⟨sl,c,svs,by rw[<-HL.out];rfl,by rw[<-HL.out];exact RowT.of_owns h6.out.own,h6.out.rows,hg⟩
         have c0:¬(300:Int)<n:=(by omega);have a9:=Ga wo (.cells #[] 9) none;have e3:=heap_alloc_new wo (.cells #[] 9);obtain⟨we,f7⟩:∃we,we=wo.alloc (.cells #[] 9):=⟨_,rfl⟩;have b8:=qE (base:=wo.heap.size) e3 (Nat.le_refl _);have H9:=a0.kept a9 (by simp);go_wp2_with (at_builtin;refine appR rfl (.tmp 50) (.tmp 51) _ rfl nC wo.heap.size _ 0 [] rfl b8 _ (strs bl) rfl ⟨_,H9.row⟩ e7.out bn ?a1 ?a2 ?a3 a9.size ?_)
         case a1=>rw[xX,<-k8.out]<;>omega
         case a2=>unfold maxLen;omega
         case a3=>omega
         intro s2 c2 w2 h5 e2
         try rw[List.nil_append]at h5
         have H2:=zA a9 e2 (fun q e=>(b8.lt q e).1);go_wp2_with (at_builtin;refine app1 rfl (.tmp 52) (.tmp 54) _ rfl nC wo.heap.size _ bn (strs bl) rfl h5 _ rfl rfl ?c1 ?c2 ?c3 ?_)
         case c1=>unfold maxLen;omega
         case c2=>omega
         case c3=>exact H2.size
         intro s4 c4 w4 h7 e0 _;have b2:=zA H2 e0 (fun q e=>(h5.lt q e).1);rw[qBC]at h7;clear a9 e3 b8 H9 h5 e2 H2 e0 f7 we;have k2:=h6.out.kept b2 (by simp);go_wp2_with (at_builtin;refine app1 rfl (.tmp 49) (.tmp 57) _ rfl gW ba _ n svs rfl k2.own _ rfl rfl ?c1 ?c2 ?c3 ?_)
         case c1=>unfold maxLen;omega
         case c2=>omega
         case c3=>have:=b2.size;omega
         intro sl5 c5 w5 b4 b9 _;obtain⟨i8,b0⟩:=h6.out.push (us:=bl++[u]) b2 h7 b4 b9;have j8:=fun q (e:(Value.slice sl n c).ownBlock=some q)=>(h6.out.own.lt q e).1;have a6:=yF h6.out.own (e':=9) (by decide);have H6:=yF h6.out.own (e':=26) (by decide);have e5:=hT.kept b0 (fun q e=>.inr (a6 q e));have H7:=a0.kept b0 (fun q e=>.inr (a6 q e));have a4:=Kh (H5.out.kept b0 (fun q e=>.inr ⟨H6 q e,a6 q e⟩));have h8:=Kh (a5.out.kept b0 (fun q e=>.inr ⟨a6 q e,H6 q e⟩));have d9:=zA hg b0 (fun q e=>by have:=j8 q e;omega);have m7:=b0.size
         have e6:Hid (LUp 28 ba w5 (.slice sl5 (n+1) c5) (n+1) (svs++[Value.slice s4 (bn+1) c4]) (L0++exts (Bs.take p) ws++(ws.take (r+1)).map (fun u=>bl++[u]))):=Kh (by
          have e9:ws[r]'H0=u:=HU.out.symm
          rw[kR (fun u=>bl++[u]) _ r H0,e9,<-List.append_assoc];exact i8)
         have f6:Hid (n+1<=301):=Kh (by omega);clear h7 b4 b2 b9 b0 k2 h9 i8 hT a0 a6 H6 j8 h6 H5 a5 hg a7;cases nq with
         | false =>
          have f8:¬(q:Int)<(m:Int):=of_decide_eq_false d6;cases hdd:decide (r=0) with
          | true =>
           rw[hdd]at H3;go_wp2;go_roundw
           case rel =>
            exact⟨r+1,n+1,nl,sl5,c5,svs++[Value.slice s4 (bn+1) c4],sg,cg,svg,by go_num,by omega,rfl,rfl,e6.out,h8.out,f6,a4.out,H7,e5,d9,by omega⟩
           case measure=>simp[intOf];omega
          | false =>
           rw[hdd]at H3;go_wp2;go_roundw
           case rel =>
            exact⟨r+1,n+1,nl,sl5,c5,svs++[Value.slice s4 (bn+1) c4],sg,cg,svg,by go_num,by omega,rfl,rfl,e6.out,h8.out,f6,a4.out,H7,e5,d9,by omega⟩
           case measure=>simp[intOf];omega
         | true =>
          have f8:(q:Int)<(m:Int):=of_decide_eq_true d6;by_cases hr0:r=0
          ·have m5:Hid (nxP true (exts (Bs.take p) (ws.drop 1)++(rA ws (r+1)).map (fun u=>bl++[u]))=nxP true (exts (Bs.take p) (ws.drop 1)++(rA ws r).map (fun u=>bl++[u]))):=Kh (by rw[hr0,fK,tailTo_one])
           rw[decide_eq_true hr0]at H3;go_wp2;go_roundw
           case rel =>
            exact⟨r+1,n+1,nl,sl5,c5,svs++[Value.slice s4 (bn+1) c4],sg,cg,svg,by go_num,by omega,rfl,rfl,e6.out,by rw[m5.out];exact h8.out,f6,a4.out,H7,e5,d9,by omega⟩
           case measure=>simp[intOf];omega
          ·have j6:(strOfNums u).toList.isEmpty=false:=by rw[H3];exact decide_eq_false hr0
           clear H3;obtain⟨wo2,rfl⟩:∃wo2:World,wo2=w5:=⟨_,rfl⟩;have a0:=H7;have a9:=Ga wo2 (.cells #[] 9) none;have e3:=heap_alloc_new wo2 (.cells #[] 9);obtain⟨we,f7⟩:∃we,we=wo2.alloc (.cells #[] 9):=⟨_,rfl⟩;have b8:=qE (base:=wo2.heap.size) e3 (Nat.le_refl _);have H9:=a0.kept a9 (by simp);go_wp2_with (at_builtin;refine appR rfl (.tmp 67) (.tmp 68) _ rfl nC wo2.heap.size _ 0 [] rfl b8 _ (strs bl) rfl ⟨_,H9.row⟩ e7.out bn ?a1 ?a2 ?a3 a9.size ?_)
           case a1=>rw[xX,<-k8.out]<;>omega
           case a2=>unfold maxLen;omega
           case a3=>omega
           intro s2 c2 w2 h5 e2
           try rw[List.nil_append]at h5
           have H2:=zA a9 e2 (fun q e=>(b8.lt q e).1);go_wp2_with (at_builtin;refine app1 rfl (.tmp 69) (.tmp 71) _ rfl nC wo2.heap.size _ bn (strs bl) rfl h5 _ rfl rfl ?c1 ?c2 ?c3 ?_)
           case c1=>unfold maxLen;omega
           case c2=>omega
           case c3=>exact H2.size
           intro s8 c8 w8 H8 j5 _;have b1:=zA H2 j5 (fun q e=>(h5.lt q e).1);rw[qBC]at H8;clear a9 e3 b8 H9 h5 e2 H2 j5 f7 we;have k1:=h8.out.kept b1 (by simp);go_wp2_with (at_builtin;refine app1 rfl (.tmp 66) (.tmp 73) _ rfl qCS BB _ nl svg rfl k1.own _ rfl rfl ?c1 ?c2 ?c3 ?_)
           case c1=>unfold maxLen;omega
           case c2=>omega
           case c3=>have:=b1.size;omega
           intro sg9 c9 w9 b3 j4 _;obtain⟨i7,H1⟩:=h8.out.push (us:=bl++[u]) b1 H8 b3 j4;have g8:=fun q (e:(Value.slice sg nl cg).ownBlock=some q)=>(h8.out.own.lt q e).1;have a6:=yF h8.out.own (e':=9) (by decide);have H6:=yF h8.out.own (e':=28) (by decide);have l7:=e5.kept H1 (fun q e=>.inr (a6 q e));have g3:=H7.kept H1 (fun q e=>.inr (a6 q e));have i3:=Kh (e6.out.kept H1 (fun q e=>.inr ⟨a6 q e,H6 q e⟩));have i2:=Kh (a4.out.kept H1 (fun q e=>.inl (by have:=g8 q e;omega)));have g2:=zA d9 H1 (fun q e=>by have:=g8 q e;omega);have k9:=H1.size
           have m2:Hid (LUp 26 BB w9 (.slice sg9 (nl+1) c9) (nl+1) (svg++[Value.slice s8 (bn+1) c8]) (nxP true (exts (Bs.take p) (ws.drop 1)++(rA ws (r+1)).map (fun u=>bl++[u])))):=Kh (by
            have e9:ws[r]'H0=u:=HU.out.symm
            rw[tailTo_succ (by omega) H0,e9,List.map_append,<-List.append_assoc];exact i7)
           clear H8 b3 b1 j4 H1 k1 i7 e5 H7 a6 H6 g8 h8 a4 e6 d9 a0;go_wp2;go_roundw
           case rel =>
            exact⟨r+1,n+1,nl+1,sl5,c5,svs++[Value.slice s4 (bn+1) c4],sg9,c9,svg++[Value.slice s8 (bn+1) c8],by go_num,by omega,rfl,rfl,i3.out,m2.out,f6,i2.out,g3,l7,g2,by omega⟩
           case measure=>simp[intOf];omega
        ·obtain rfl:r=ws.length:=by omega
         rw[List.take_length,List.append_assoc,d5.out,<-eX d7]at h6;rw[tailTo_all,d5.out,<-eX d7]at a5;go_wp2;go_roundw
         case rel=>exact⟨p+1,n,nl,sl,c,svs,sg,cg,svg,by go_num,by omega,rfl,rfl,h6.out,a5.out,a7,H5.out,hT,hg,c6⟩
         case measure=>simp[intOf];omega
      ·obtain rfl:p=nb:=by omega
       rw[d0.out,List.take_length]at h6 a5;rw[<-f0.out.1]at h6;rw[<-f0.out.2]at a5;have i4:=Kh (LRead.of a5.out);have m4:=Kh a5.out.len;clear hlt;go_wp2;go_roundg (m+1-(q+1))
       case measure=>have:=i5.out;omega
       case rel=>exact⟨q+1,n,nl,sl,c,svs,sg,cg,svg,by have:=i5.out;omega,by go_num,rfl,rfl,h6.out,a7,i4.out,m4,hT,hg,by omega⟩
    ·obtain rfl:q=m+1:=by have:=i5.out;omega
     have l0:¬((m+1:Nat):Int)<=(m:Int):=by omega
     have hl:=h6.out.len;have e1:(allC ws (m+1)).take 301=allC ws (m+1):=List.take_of_length_le (by rw[<-hl];exact H4.out);have i6:=Kh e1;clear e1;go_wp2;go_ret;rw[i6.out];exact⟨sl,c,svs,by rw[<-hl];rfl,by rw[<-hl];exact RowT.of_owns h6.out.own,h6.out.rows,hg⟩
def lexZ:List Int->List Int->Bool
 | _,[]=>false
 | [],_::_=>true
 | a::x,b::y=>decide (a<b) || (decide (a=b) && lexZ x y)
def rT (u v:List Int):Bool:=decide (u.length<v.length) || (decide (u.length=v.length) && lexZ u v)
theorem bU:∀u v:List Int,u.length=v.length->u≠v->lexZ u v=true\/lexZ v u=true
 | [],[],_,h=>absurd rfl h
 | [],_::_,h,_=>by simp at h
 | _::_,[],h,_=>by simp at h
 | a::x,b::y,hl,hne=>by
  simp only[lexZ,Bool.or_eq_true,Bool.and_eq_true,decide_eq_true_eq]
  rcases Int.lt_trichotomy a b with h|h|h
  ·exact .inl (.inl h)
  ·subst h
   rcases bU x y (by simpa using hl) (fun e=>hne (by rw[e])) with h|h
   ·exact .inl (.inr ⟨rfl,h⟩)
   ·exact .inr (.inr ⟨rfl,h⟩)
  ·exact .inr (.inl h)
theorem bT:∀u v w:List Int,lexZ u v=true->lexZ v w=true->lexZ u w=true
 | _,[],_,h,_=>by cases ‹List Int› <;> simp[lexZ]at h
 | _,_::_,[],_,h=>by simp[lexZ]at h
 | [],_::_,_::_,_,_=>rfl
 | a::x,b::y,c::z,h1,h2=>by
  simp only[lexZ,Bool.or_eq_true,Bool.and_eq_true,decide_eq_true_eq]at h1 h2⊢
  rcases h1 with h1|⟨rfl,h1⟩
  ·rcases h2 with h2|⟨rfl,h2⟩
   ·exact .inl (by omega)
   ·exact .inl h1
  ·rcases h2 with h2|⟨rfl,h2⟩
   ·exact .inl h2
   ·exact .inr ⟨rfl,bT x y z h1 h2⟩
theorem eM:∀u:List Int,lexZ u u=false
 | []=>rfl
 | a::x=>by simp[lexZ,eM x]
theorem pB (u:List Int):rT u u=false:=by simp[rT,eM]
theorem lessW_total {u v:List Int}(h:u≠v):rT u v=true\/rT v u=true:=by
 simp only[rT,Bool.or_eq_true,Bool.and_eq_true,decide_eq_true_eq];rcases Nat.lt_trichotomy u.length v.length with h1|h1|h1
 ·exact .inl (.inl h1)
 ·rcases bU u v h1 h with h2|h2
  ·exact .inl (.inr ⟨h1,h2⟩)
  ·exact .inr (.inr ⟨h1.symm,h2⟩)
 ·exact .inr (.inl h1)
theorem lessW_trans {u v w:List Int}(h1:rT u v=true)(h2:rT v w=true):rT u w=true:=by
 simp only[rT,Bool.or_eq_true,Bool.and_eq_true,decide_eq_true_eq]at h1 h2⊢;rcases h1 with h1|⟨e1,h1⟩
 ·rcases h2 with h2|⟨e2,h2⟩
  ·exact .inl (by omega)
  ·exact .inl (by omega)
 ·rcases h2 with h2|⟨e2,h2⟩
  ·exact .inl (by omega)
  ·exact .inr ⟨by omega,bT u v w h1 h2⟩
def xE:List (List Int)->List (List Int)->Bool
 | [],_=>false
 | _::_,[]=>false
 | a::p,b::q=>rT a b || (decide (a=b) && xE p q)
def vL (p q:List (List Int)):Bool:=decide (p.length<q.length) || (decide (p.length=q.length) && xE p q)
theorem jQ:∀p q:List (List Int),p.length=q.length->p≠q->xE p q=true\/xE q p=true
 | [],[],_,h=>absurd rfl h
 | [],_::_,h,_=>by simp at h
 | _::_,[],h,_=>by simp at h
 | a::p,b::q,hl,hne=>by
  simp only[xE,Bool.or_eq_true,Bool.and_eq_true,decide_eq_true_eq]
  by_cases e:a=b
  ·subst e
   rcases jQ p q (by simpa using hl) (fun e=>hne (by rw[e])) with h|h
   ·exact .inl (.inr ⟨rfl,h⟩)
   ·exact .inr (.inr ⟨rfl,h⟩)
  ·rcases lessW_total e with h|h
   ·exact .inl (.inl h)
   ·exact .inr (.inl h)
theorem jP:∀p q r:List (List Int),xE p q=true->xE q r=true->xE p r=true
 | [],_,_,h,_=>by simp[xE]at h
 | _::_,[],_,h,_=>by simp[xE]at h
 | _::_,_::_,[],_,h=>by simp[xE]at h
 | a::p,b::q,c::r,h1,h2=>by
  simp only[xE,Bool.or_eq_true,Bool.and_eq_true,decide_eq_true_eq]at h1 h2⊢
  rcases h1 with h1|⟨rfl,h1⟩
  ·rcases h2 with h2|⟨rfl,h2⟩
   ·exact .inl (lessW_trans h1 h2)
   ·exact .inl h1
  ·rcases h2 with h2|⟨rfl,h2⟩
   ·exact .inl h2
   ·exact .inr ⟨rfl,jP p q r h1 h2⟩
theorem lT:∀p:List (List Int),xE p p=false
 | []=>rfl
 | a::p=>by simp[xE,pB,lT p]
theorem pC (p:List (List Int)):vL p p=false:=by simp[vL,lT]
theorem lessP_total {p q:List (List Int)}(h:p≠q):vL p q=true\/vL q p=true:=by
 simp only[vL,Bool.or_eq_true,Bool.and_eq_true,decide_eq_true_eq];rcases Nat.lt_trichotomy p.length q.length with h1|h1|h1
 ·exact .inl (.inl h1)
 ·rcases jQ p q h1 h with h2|h2
  ·exact .inl (.inr ⟨h1,h2⟩)
  ·exact .inr (.inr ⟨h1.symm,h2⟩)
 ·exact .inr (.inl h1)
theorem eN {p q r:List (List Int)}(h1:vL p q=true)(h2:vL q r=true):vL p r=true:=by
 simp only[vL,Bool.or_eq_true,Bool.and_eq_true,decide_eq_true_eq]at h1 h2⊢;rcases h1 with h1|⟨e1,h1⟩
 ·rcases h2 with h2|⟨e2,h2⟩
  ·exact .inl (by omega)
  ·exact .inl (by omega)
 ·rcases h2 with h2|⟨e2,h2⟩
  ·exact .inl (by omega)
  ·exact .inr ⟨by omega,jP p q r h1 h2⟩
theorem lessP_asymm {p q:List (List Int)}(h:vL p q=true):vL q p=false:=by
 cases e:vL q p with
 | false=>rfl
 | true=>have:=eN h e;rw[pC]at this;cases this
theorem qCD:∀ {l m:List (List (List Int))},l.Pairwise (fun a b=>vL a b=true)->m.Pairwise (fun a b=>vL a b=true)->(∀a,a∈l↔a∈m)->l=m
 | [],[],_,_,_=>rfl
 | [],b::m,_,_,h=>by have:=(h b).2 (by simp);simp at this
 | a::l,[],_,_,h=>by have:=(h a).1 (by simp);simp at this
 | a::l,b::m,hl,hm,h=>by
  have hl':=List.pairwise_cons.1 hl
  have hm':=List.pairwise_cons.1 hm
  have e:a=b:=by
   rcases List.mem_cons.1 ((h a).1 (by simp)) with h1|h1
   ·exact h1
   ·rcases List.mem_cons.1 ((h b).2 (by simp)) with h2|h2
    ·exact h2.symm
    ·have h3:=hl'.1 b h2
     have h4:=lessP_asymm (hm'.1 a h1);rw[h3]at h4;cases h4
  subst e;congr 1;refine qCD hl'.2 hm'.2 fun c=>?_;constructor
  ·intro hc
   have h1:=hl'.1 c hc;rcases List.mem_cons.1 ((h c).1 (List.mem_cons_of_mem _ hc)) with e|e
   ·rw[e,pC]at h1;cases h1
   ·exact e
  ·intro hc
   have h1:=hm'.1 c hc;rcases List.mem_cons.1 ((h c).2 (List.mem_cons_of_mem _ hc)) with e|e
   ·rw[e,pC]at h1;cases h1
   ·exact e
def okW (u:List Int):Prop:=∀x∈u,qGC 6 x
theorem qJP {a b:Int}(ha:qGC 6 a)(hb:qGC 6 b):(UInt8.ofNat a.toNat<UInt8.ofNat b.toNat↔a<b)/\(UInt8.ofNat a.toNat=UInt8.ofNat b.toNat↔a=b):=by
 obtain⟨a1,a2⟩:=ha;obtain⟨b1,b2⟩:=hb;have e1:(UInt8.ofNat a.toNat).toNat=a.toNat:=by rw[UInt8.toNat_ofNat'];omega
 have e2:(UInt8.ofNat b.toNat).toNat=b.toNat:=by rw[UInt8.toNat_ofNat'];omega
 refine⟨by rw[UInt8.lt_iff_toNat_lt,e1,e2];omega,⟨fun h=>?_,fun h=>by rw[h]⟩⟩;have:=congrArg UInt8.toNat h;rw[e1,e2]at this;omega
theorem qCX:∀u v:List Int,okW u->okW v->Op.bytesLess ((u.map fun n=>UInt8.ofNat n.toNat)) ((v.map fun n=>UInt8.ofNat n.toNat))=lexZ u v
 | [],[],_,_=>rfl
 | [],_::_,_,_=>rfl
 | _::_,[],_,_=>rfl
 | a::x,b::y,hu,hv=>by
  have ih:=qCX x y (fun c hc=>hu c (by simp[hc])) (fun c hc=>hv c (by simp[hc]))
  obtain⟨h1,h2⟩:=qJP (hu a (by simp)) (hv b (by simp))
  simp only[List.map_cons,Op.bytesLess,lexZ]
  rw[ih,decide_eq_decide.2 h1]
  congr 1
  congr 1
  rw[Bool.eq_iff_iff,beq_iff_eq,decide_eq_true_eq];exact h2
theorem qFT:∀u v:List Int,okW u->okW v->((u.map fun n=>UInt8.ofNat n.toNat)=(v.map fun n=>UInt8.ofNat n.toNat)↔u=v)
 | [],[],_,_=>by simp
 | [],_::_,_,_=>by simp
 | _::_,[],_,_=>by simp
 | a::x,b::y,hu,hv=>by
  have ih:=qFT x y (fun c hc=>hu c (by simp[hc])) (fun c hc=>hv c (by simp[hc]))
  obtain⟨_,h2⟩:=qJP (hu a (by simp)) (hv b (by simp))
  simp only[List.map_cons,List.cons.injEq]
  rw[h2,ih]
def cmpI (u v:List Int):Int:=if rT u v then -1 else if u=v then 0 else 1
theorem compare_any (u v:List Int)(w:World)(hu:u.length<=1000)(hv:v.length<=1000)(ou:okW u)(ov:okW v):Calls Try.prog 98 #[.string (strOfNums u),.string (strOfNums v)] w fun e w'=>e=.returned (.int .i64 (cmpI u v))/\w=w':=by
 have h1:=strOfNums_size u;have h2:=strOfNums_size v;have hb:Op.bytesLess (strOfNums u).toList (strOfNums v).toList=lexZ u v:=by rw[ByteArray.toList_eq,ByteArray.toList_eq,strOfNums_data,strOfNums_data];exact qCX u v ou ov
 have he:((strOfNums u).toList == (strOfNums v).toList)=decide (u=v):=by
  rw[ByteArray.toList_eq,ByteArray.toList_eq,strOfNums_data,strOfNums_data,Bool.eq_iff_iff,beq_iff_eq,decide_eq_true_eq];exact qFT u v ou ov
 obtain⟨lb,h3⟩:∃lb,lb=lexZ u v:=⟨_,rfl⟩;obtain⟨eb,h0⟩:∃eb,eb=decide (u=v):=⟨_,rfl⟩
 have HC:Hid (cmpI u v=if decide (u.length<v.length) || (decide (u.length=v.length) && lb) then -1 else if eb then 0 else 1):=Kh (by
  rw[cmpI,rT,h3,h0];simp)
 rw[<-h3]at hb;rw[<-h0]at he;have h5:Hid (eb=true->u.length=v.length):=Kh (fun h=>by rw[h0,decide_eq_true_eq]at h;rw[h]);clear h3 h0;by_cases hlt:u.length<v.length
 ·go_enter Try.func98,Try.ntmps98
  go_wp2;go_ret;exact⟨yB (by rw[HC.out];simp[hlt]),rfl⟩
 ·by_cases heq:u.length=v.length
  ·cases lb<;>cases eb
   all_goals
    go_enter Try.func98,Try.ntmps98;go_wp2;go_ret;exact⟨yB (by rw[HC.out];simp[heq]),rfl⟩
  ·have h4:eb=false:=by
    cases eb with
    | false=>rfl
    | true=>exact absurd (h5.out rfl) heq
   subst h4;go_enter Try.func98,Try.ntmps98;go_wp2;go_ret;exact⟨yB (by rw[HC.out];simp[hlt,heq]),rfl⟩
theorem blk_drop {p q:List (List Int)}{k:Nat}(hp:k<p.length)(hq:k<q.length):xE (p.drop k) (q.drop k)=(rT p[k] q[k] || (decide (p[k]=q[k]) && xE (p.drop (k+1)) (q.drop (k+1)))):=by
 rw[List.drop_eq_getElem_cons hp,List.drop_eq_getElem_cons hq];rfl
theorem cmpI_cases (u v:List Int):(cmpI u v = -1/\rT u v=true)\/(cmpI u v=0/\u=v/\rT u v=false)\/(cmpI u v=1/\rT u v=false/\u≠v):=by
 unfold cmpI;cases h:rT u v with
 | true=>exact .inl ⟨by simp,rfl⟩
 | false =>
  by_cases e:u=v
  ·exact .inr (.inl ⟨by simp[e],e,rfl⟩)
  ·exact .inr (.inr ⟨by simp[e],rfl,e⟩)
theorem qBJ {b off:Nat}{w:World}{ls:List (List Int)}(hra:uJ w b off (strs ls)){i:Nat}(hi:i<ls.length):w.cell? ⟨b,off+i,none⟩=some (.string (strOfNums ls[i])):=hra.map i hi
theorem less_any (B1 B2:Nat)(w:World)(v1 v2:Value)(p q:List (List Int))(h1:Row B1 w v1 (strs p))(h2:Row B2 w v2 (strs q))(hp:∀u∈p,okW u/\u.length<=8)(hq:∀u∈q,okW u/\u.length<=8)(hpl:p.length<=100)(hql:q.length<=100):Calls Try.prog 78 #[.agg #[v1],.agg #[v2]] w fun e w'=>e=.returned (.bool (vL p q))/\w.grownBy w' none:=by
 have H1:=Kh h1;have H2:=Kh h2;have HP:=Kh hp;have HQ:=Kh hq;obtain⟨a1,c1,rfl⟩:=h1.shape;obtain⟨a2,c2,rfl⟩:=h2.shape;rw[xX]at H1 H2⊢;rw[xX];clear h1 h2 hp hq;obtain⟨P,hP⟩:∃P,P=w.heap.size:=⟨_,rfl⟩;obtain⟨wA,h8⟩:∃wA,wA=(w.alloc (.cells #[.slice a1 p.length c1] 28)).alloc (.cells #[.slice a2 q.length c2] 28):=⟨_,rfl⟩;have b1:=zB (heap_alloc_new w (.cells #[.slice a1 p.length c1] 28)) (Ga _ (.cells #[.slice a2 q.length c2] 28) none) (by simp);have b2:=heap_alloc_new (w.alloc (.cells #[.slice a1 p.length c1] 28)) (.cells #[.slice a2 q.length c2] 28);rw[zL]at b2;rw[<-h8,<-hP]at b1 b2;have H3:w.grownBy wA none:=by rw[h8];exact vO (Ga w _ none) _
 have h3:=Kh H3;have H6:=Kh h8;have H7:=Kh hP;have a0:=Kh b1;have H9:=Kh b2;clear H3 h8 hP b1 b2;go_enter Try.func78,Try.ntmps78;go_upto_region 1 with fail;rw[<-H6.out,<-H7.out];have k1:=zI a0.out 0 (by simp);have k2:=zI H9.out 0 (by simp);simp only[List.getElem_toArray,List.getElem_cons_zero]at k1 k2;by_cases hl:p.length=q.length
 ·have H4:((p.length:Int) != (q.length:Int))=false:=by rw[hl];simp
  go_wp2
  go_loopg [24] p.length (fun gh i wr=>∃(k m:Nat),gh+k=p.length/\i=.int .i64 (k:Int)/\Hid (vL p q=xE (p.drop k) (q.drop k))/\wr=wA.drewN m)
  case atStart=>exact⟨0,0,rfl,rfl,Kh (by simp[vL,hl]),rfl⟩
  case round =>
   obtain⟨k,m,H0,rfl,h7,rfl⟩:=hrel;have H8:=Kh H0;clear H0;by_cases hk:k<p.length
   ·have a5:(k:Int)<p.length:=by omega
    have h9:k<q.length:=(by omega);have H5:(k:Int)<q.length:=(by omega);obtain⟨b1,o1,d1,e1,_,f1,g1,r1⟩:=(H1.out.kept h3.out (by simp)).some_ (by rw[xX];omega);obtain⟨b2,o2,d2,e2,_,f2,g2,r2⟩:=(H2.out.kept h3.out (by simp)).some_ (by rw[xX];omega);rw[xX]at e1 f1 e2 f2;simp only[Value.slice.injEq]at e1 e2;obtain⟨rfl,_,rfl⟩:=e1;obtain⟨rfl,_,rfl⟩:=e2;have x1:=qBJ r1 hk;have x2:=qBJ r2 h9;have a4:c1<=9223372036854775807:=by unfold maxLen at g1;omega
    have a3:c2<=9223372036854775807:=by unfold maxLen at g2;omega
    have hu:=HP.out _ (List.getElem_mem hk);have hv:=HQ.out _ (List.getElem_mem h9);have h0:=blk_drop hk h9;obtain⟨u,h6⟩:∃u,u=p[k]:=⟨_,rfl⟩;obtain⟨v,h5⟩:∃v,v=q[k]:=⟨_,rfl⟩;rw[<-h6]at x1 hu h0;rw[<-h5]at x2 hv h0;have h4:∀W:World,Hid (Calls Try.prog 98 #[.string (strOfNums u),.string (strOfNums v)] W fun e w'=>e=.returned (.int .i64 (cmpI u v))/\W=w'):=fun W=>Kh (compare_any u v W (by omega) (by omega) hu.1 hv.1);rcases cmpI_cases u v with ⟨hc,hw⟩|⟨hc,he,hw⟩|⟨hc,hw,he⟩
    ·have HR:Hid (vL p q=true):=Kh (by rw[h7.out,h0,hw];rfl)
     rw[hc]at h4;clear r1 r2 g1 g2 hu hv h0 h6 h5 hw hc;go_wp2
     go_quiet ((go_at_call 98;exact sX (h4 _).out))
     go_wp2;go_ret;exact⟨yA HR.out.symm,zA h3.out (zM wA _ none) (by simp)⟩
    ·have HR:Hid (vL p q=xE (p.drop (k+1)) (q.drop (k+1))):=Kh (by rw[h7.out,h0,hw,decide_eq_true he];rfl)
     rw[hc]at h4;clear r1 r2 g1 g2 hu hv h0 h6 h5 hw hc he;go_wp2
     go_quiet ((go_at_call 98;exact sX (h4 _).out))
     go_wp2;go_roundg (p.length-(k+1))
     case measure=>have:=H8.out;omega
     case rel=>exact⟨k+1,_,by omega,by go_num,HR,rfl⟩
    ·have HR:Hid (vL p q=false):=Kh (by rw[h7.out,h0,hw,decide_eq_false he];rfl)
     rw[hc]at h4;clear r1 r2 g1 g2 hu hv h0 h6 h5 hw hc he;go_wp2
     go_quiet ((go_at_call 98;exact sX (h4 _).out))
     go_wp2;go_ret;exact⟨yA HR.out.symm,zA h3.out (zM wA _ none) (by simp)⟩
   ·have HR:Hid (vL p q=false):=Kh (by rw[h7.out,List.drop_of_length_le (by omega)];rfl)
    go_wp2;go_ret;exact⟨yA HR.out.symm,zA h3.out (zM wA _ none) (by simp)⟩
 ·have H4:((p.length:Int) != (q.length:Int))=true:=by rw[bne_iff_ne];omega
  have HR:Hid (vL p q=decide (p.length<q.length)):=Kh (by
   rw[vL,decide_eq_false hl,Bool.false_and,Bool.or_false])
  go_wp2;go_ret;exact⟨yA (by rw[HR.out]),h3.out⟩
end Go.Proofs.Ytjfdomfendbhfaa
namespace Go.Proofs.Ytjfdomfendbhfaa
theorem qCC:∀(w x y:List Int),lexZ (w++x) (w++y)=lexZ x y
 | [],_,_=>rfl
 | a::w,x,y=>by simp[lexZ,qCC w x y]
theorem bV:∀(w v x y:List Int),w.length=v.length->lexZ w v=true->lexZ (w++x) (v++y)=true
 | [],[],_,_,_,h=>by simp[lexZ]at h
 | [],_::_,_,_,h,_=>by simp at h
 | _::_,[],_,_,h,_=>by simp at h
 | a::w,b::v,x,y,hl,h=>by
  simp only[List.cons_append,lexZ,Bool.or_eq_true,Bool.and_eq_true,decide_eq_true_eq]at h⊢
  rcases h with h|⟨rfl,h⟩
  ·exact .inl h
  ·exact .inr ⟨rfl,bV w v x y (by simpa using hl) h⟩
theorem block_sorted (letters:Nat)(w:List Int):(block letters w 0).Pairwise (fun a b=>lexZ a b=true):=by
 rw[block,List.pairwise_map];refine List.Pairwise.imp ?_ (List.pairwise_lt_range' (s:=0) (n:=letters-0) (step:=1) );intro a b h;rw[qCC];simp[lexZ];omega
theorem eL {letters:Nat}{w x:List Int}(h:x∈block letters w 0):∃c:Int,x=w++[c]:=by
 obtain⟨c,_,rfl⟩:=List.mem_map.1 h;exact⟨_,rfl⟩
theorem bS (letters:Nat):∀n,(lex letters n).Pairwise (fun a b=>lexZ a b=true)
 | 0=>by simp[lex]
 | n+1=>by
  rw[qAB,List.pairwise_flatMap]
  refine⟨fun w _=>block_sorted letters w,?_⟩
  have ih:=bS letters n
  refine List.Pairwise.imp_of_mem ?_ ih
  intro a b ha hb hab x hx y hy
  obtain⟨c,rfl⟩:=eL hx
  obtain⟨d,rfl⟩:=eL hy
  exact bV a b [c] [d] (by rw[(qI ha).1,(qI hb).1]) hab
def gH (l:List (List Int)):Prop:=l.Pairwise (fun a b=>rT a b=true)
def qQ (l:List (List (List Int))):Prop:=l.Pairwise (fun a b=>vL a b=true)
theorem lU (letters:Nat):∀n,gH (upTo letters n)
 | 0=>by simp[upTo,gH]
 | n+1=>by
  rw[wS,gH,List.pairwise_append]
  refine⟨lU letters n,?_,fun a ha b hb=>?_⟩
  ·refine List.Pairwise.imp_of_mem ?_ (bS letters n)
   intro a b ha hb h
   simp only[rT,Bool.or_eq_true,Bool.and_eq_true,decide_eq_true_eq]
   exact .inr ⟨by rw[(qI ha).1,(qI hb).1],h⟩
  ·simp only[rT,Bool.or_eq_true,decide_eq_true_eq]
   exact .inl (by rw[(qI hb).1];exact lV ha)
theorem fB (letters n:Nat):∃r,upTo letters (n+1)=[]::r/\∀u∈r,u≠[]:=by
 have e:=kP letters n;refine⟨_,e,fun u hu=>?_⟩;obtain⟨w,_,hx⟩:=List.mem_flatMap.1 hu;obtain⟨c,rfl⟩:=eL hx;simp
def mono (f:List Int->List (List Int)):Prop:=∀u v,rT u v=true->vL (f u) (f v)=true
theorem gU:mono oneB:=fun u v h=>by simp[vL,oneB,xE,h]
theorem mono_pre:mono preB:=fun u v h=>by simp[vL,preB,xE,h]
theorem mono_suf:mono sufB:=fun u v h=>by simp[vL,sufB,xE,h,pB]
theorem mono_fac:mono facB:=fun u v h=>by simp[vL,facB,xE,h,pB]
theorem qFU (w x y:List (List Int)):xE (w++x) (w++y)=xE x y:=by
 induction w with
 | nil=>rfl
 | cons a w ih=>simp[xE,pB,ih]
theorem dP:∀(w v x y:List (List Int)),w.length=v.length->xE w v=true->xE (w++x) (v++y)=true
 | [],_,_,_,_,h=>by simp[xE]at h
 | _::_,[],_,_,h,_=>by simp at h
 | a::w,b::v,x,y,hl,h=>by
  simp only[List.cons_append,xE,Bool.or_eq_true,Bool.and_eq_true,decide_eq_true_eq]at h⊢
  rcases h with h|⟨rfl,h⟩
  ·exact .inl h
  ·exact .inr ⟨rfl,dP w v x y (by simpa using hl) h⟩
theorem dO:∀u v:List Int,u.length=v.length->lexZ u v=true->xE (u.map fun c=>[c]) (v.map fun c=>[c])=true
 | [],[],_,h=>by simp[lexZ]at h
 | [],_::_,h,_=>by simp at h
 | _::_,[],h,_=>by simp at h
 | a::x,b::y,hl,h=>by
  simp only[lexZ,Bool.or_eq_true,Bool.and_eq_true,decide_eq_true_eq]at h
  simp only[List.map_cons,xE,Bool.or_eq_true,Bool.and_eq_true,decide_eq_true_eq]
  rcases h with h|⟨rfl,h⟩
  ·exact .inl (by simp[rT,lexZ,h])
  ·exact .inr ⟨rfl,dO x y (by simpa using hl) h⟩
theorem mono_piece:mono rL:=fun u v h=>by
 simp only[rT,Bool.or_eq_true,Bool.and_eq_true,decide_eq_true_eq]at h
 simp only[vL,Bool.or_eq_true,Bool.and_eq_true,decide_eq_true_eq,rL,List.length_append,List.length_map,List.length_singleton]
 rcases h with h|⟨e,h⟩
 ·exact .inl (by omega)
 ·refine .inr ⟨by omega,?_⟩
  rw[List.append_assoc,List.append_assoc,qFU]
  exact dP _ _ _ _ (by simp[e]) (dO u v e h)
theorem qU {f:List Int->List (List Int)}(hf:mono f){l:List (List Int)}(h:gH l):qQ (l.map f):=by
 rw[qQ,List.pairwise_map];exact List.Pairwise.imp (fun h=>hf _ _ h) h
theorem qBF {l:List (List Int)}(h:gH l)(n:Nat):gH (l.drop n):=List.Pairwise.drop h
theorem rC {a b:List (List (List Int))}(ha:qQ a)(hb:qQ b)(h:∀p∈a,∀q∈b,vL p q=true):qQ (a++b):=by
 rw[qQ,List.pairwise_append];exact⟨ha,hb,h⟩
theorem mF {p q:List (List Int)}(h:p.length<q.length):vL p q=true:=by simp[vL,h]
theorem suf_pre {u v:List Int}(hv:v≠[]):vL (sufB u) (preB v)=true:=by
 have:0<v.length:=List.length_pos_iff.2 hv;simp[vL,sufB,preB,xE,rT,this]
theorem eW {bs:List (List (List Int))}{ws:List (List Int)}{n:Nat}(hb:qQ bs)(hw:gH ws)(hl:∀b∈bs,b.length=n):qQ (exts bs ws):=by
 rw[qQ,exts,List.pairwise_flatMap];refine⟨fun b _=>?_,?_⟩
 ·rw[List.pairwise_map]
  refine List.Pairwise.imp ?_ hw;intro u v h;simp only[vL,Bool.or_eq_true,Bool.and_eq_true,decide_eq_true_eq];exact .inr ⟨by simp,by rw[qFU];simp[xE,h]⟩
 ·refine List.Pairwise.imp_of_mem ?_ hb
  intro a b ha h0 h x hx y hy;obtain⟨u,_,rfl⟩:=List.mem_map.1 hx;obtain⟨v,_,rfl⟩:=List.mem_map.1 hy;have e:a.length=b.length:=by rw[hl a ha,hl b h0]
  simp only[vL,Bool.or_eq_true,Bool.and_eq_true,decide_eq_true_eq]at h⊢;rcases h with h|⟨_,h⟩
  ·omega
  ·exact .inr ⟨by simp[e],dP a b _ _ e h⟩
theorem aB {ws:List (List Int)}(hw:gH ws):∀i,qQ (chB ws i)
 | 0=>qU gU hw
 | i+1=>eW (aB hw i) (qBF hw 1) (fun _ h=>iI i h)
theorem gA {ws:List (List Int)}{i:Nat}{p:List (List Int)}(h:p∈exts (chB ws i) ws):p.length=i+2:=by
 obtain⟨c,hc,hb⟩:=List.mem_flatMap.1 h;obtain⟨u,_,rfl⟩:=List.mem_map.1 hb;rw[List.length_append,iI i hc];rfl
theorem dI {ws:List (List Int)}:∀ {i:Nat} {p:List (List Int)},p∈chL ws i->p.length<=i+1
 | 0,p,h=>by
  obtain⟨u,_,rfl⟩:=List.mem_map.1 h;exact Nat.le_refl _
 | i+1,p,h=>by
  rcases List.mem_append.1 h with h|h
  ·have:=dI h;omega
  ·rw[gA h];omega
theorem aA {ws:List (List Int)}(hw:gH ws):∀i,qQ (chL ws i)
 | 0=>qU gU hw
 | i+1=>rC (aA hw i) (eW (aB hw i) hw (fun _ h=>iI i h)) (fun p hp q hq=>mF (by have:=dI hp;rw[gA hq];omega))
theorem drop_ne {letters n:Nat}{u:List Int}(h:u∈(upTo letters (n+1)).drop 1):u≠[]:=by
 obtain⟨r,e,hr⟩:=fB letters n;rw[e]at h;exact hr u (by simpa using h)
theorem eV (kind:Int)(letters k m:Nat):qQ (famP kind letters k m):=by
 have hW:gH (xO letters k):=lU letters (k+1);have hS:gH (upTo letters k):=lU letters k;have hD:gH ((xO letters k).drop 1):=qBF hW 1;have h0:∀u∈(xO letters k).drop 1,u≠[]:=fun u h=>drop_ne h;have l1:∀p∈(upTo letters k).map oneB,p.length=1:=fun p hp=>by obtain⟨u,_,rfl⟩:=List.mem_map.1 hp;rfl
 have l2:∀p∈((xO letters k).drop 1).map preB,p.length=2:=fun p hp=>by obtain⟨u,_,rfl⟩:=List.mem_map.1 hp;rfl
 have l3:∀p∈((xO letters k).drop 1).map sufB,p.length=2:=fun p hp=>by obtain⟨u,_,rfl⟩:=List.mem_map.1 hp;rfl
 have l4:∀p∈((xO letters k).drop 1).map facB,p.length=3:=fun p hp=>by obtain⟨u,_,rfl⟩:=List.mem_map.1 hp;rfl
 have h1:∀p∈((xO letters k).drop 1).map sufB,∀q∈((xO letters k).drop 1).map preB,vL p q=true:=fun p hp q hq=>by
  obtain⟨u,_,rfl⟩:=List.mem_map.1 hp;obtain⟨v,hv,rfl⟩:=List.mem_map.1 hq;exact suf_pre (h0 v hv)
 have A:=qU gU hS;have S:=qU mono_suf hD;have P:=qU mono_pre hD;have F:=qU mono_fac hD;have AS:=rC A S (fun p hp q hq=>mF (by rw[l1 p hp,l3 q hq];decide))
 have ASP:=rC AS P (fun p hp q hq=>by
  rcases List.mem_append.1 hp with h|h
  ·exact mF (by rw[l1 p h,l2 q hq];decide)
  ·exact h1 p h q hq)
 unfold famP;simp only
 split
 ·exact qU gU hW
 split
 ·exact rC A P (fun p hp q hq=>mF (by rw[l1 p hp,l2 q hq];decide))
 split
 ·exact AS
 split
 ·exact ASP
 split
 ·refine rC ASP F (fun p hp q hq=>mF ?_)
  rw[l4 q hq];rcases List.mem_append.1 hp with h|h
  ·rcases List.mem_append.1 h with h|h
   ·rw[l1 p h];decide
   ·rw[l3 p h];decide
  ·rw[l2 p h];decide
 split
 ·exact qU mono_piece hD
 ·exact aA hW _
end Go.Proofs.Ytjfdomfendbhfaa
