/- Part 13 of the proof. -/
import Derived.Test.YtobakifdllameaaGreatQd12
import Derived.Shelf.Small.Strs
import Derived.Shelf.Strings.Search1
import Derived.Shelf.Slices.Equal
import Derived.Ground.Names2Prog
import Derived.Shelf.Slices.Clone
import Derived.Shelf.Slices.Empties2
import Derived.Ground.SlgnProg
import Derived.Shelf.SlicesE.Equal
import Derived.Shelf.SlicesE.Clone
import Derived.Ground.SlgfProg
import Derived.Shelf.SlicesE.IndexFunc
import Derived.Shelf.SlicesE.DeleteFunc
import Derived.Test.YtobakifdllameaaGreatProg
import Derived.Deep.RegionLaw
set_option linter.unusedVariables false
set_option linter.unusedSimpArgs false
set_option maxRecDepth 100000
set_option maxHeartbeats 16000000
namespace Go.Proofs.YtobakifdllameaaGreat
open Go.Maps Go.RowKit
section
variable {X:Nat->Prop} {B o ty:Nat} {w0 wk w w':World} {rs:List RowS} {c:Array Value}
theorem BoxS.retire {r:RowS}(h:BoxS B X o ty w0 wk (rs++[r]) c w):BoxS B (fun k=>X k\/r.v.ownBlock=some k) o ty w0 w rs c w :=
 ⟨h.mem.retire,fun s hs=>h.typ s (List.mem_append_left _ hs),h.box,fun e=>by
  rcases e with e|e
  ·exact h.off e
  ·exact absurd e (zV (h.mem.own r (by simp)) h.box (h.typ r (by simp)).2),h.size,h.old,Nat.le_trans h.base h.wk,h.grown,xV.refl _ _,Nat.le_refl _⟩
end
section
variable {w0 w w':World} {B o n k m d s ub:Nat} {sG:Option Addr} {cG:Nat} {hsG:List Value} {gs els right:List (List Nat)} {pre las beh:List Int} {sgl:List Nat} {tl:List RowS}
theorem RunS.grow (h:RunS w0 B o n k m d s ub sG cG hsG gs els pre las right beh sgl tl w)(hg:w.grownBy w' none):RunS w0 B o n k m d s ub sG cG hsG gs els pre las right beh sgl tl w':=by
 obtain⟨X,mb,u,us,h2,h1,ws,sE,sP,sL,sR,sU,sW,sB,sS,cE,cP,cL,cR,cU,cW,cB,cS,hB,hE,hR,hG,⟨c,hM⟩,h3,h4,hl,h5,hw,hu⟩:=h;have h0:=hB.mem.keep hg;exact⟨X,mb,u,us,h2,h1,ws,sE,sP,sL,sR,sU,sW,sB,sS,cE,cP,cL,cR,cU,cW,cB,cS,(hB.grow hg).rebase,hE.kept h0 hg.size,hR.kept h0 hg.size,hG.kept h0 hg.size,⟨c,hM.kept hg (by simp)⟩,h3,h4,hl,h5,hw,hu⟩
theorem RunS.ubm (h:RunS w0 B o n k m d s ub sG cG hsG gs els pre las right beh sgl tl w){a9:Nat}(a8:ub<=a9):RunS w0 B o n k m d s a9 sG cG hsG gs els pre las right beh sgl tl w:=by
 obtain⟨X,mb,u,us,h1,h0,ws,sE,sP,sL,sR,sU,sW,sB,sS,cE,cP,cL,cR,cU,cW,cB,cS,hB,hE,hR,hG,⟨c,hM⟩,h2,h3,hl,h4,hw,hu⟩:=h;exact⟨X,mb,u,us,h1,h0,ws,sE,sP,sL,sR,sU,sW,sB,sS,cE,cP,cL,cR,cU,cW,cB,cS,hB,hE,hR,hG,⟨c,hM⟩,h2,h3,hl,h4,hw,Nat.le_trans hu a8⟩
theorem RunS.facts (h:RunS w0 B o n k m d s ub sG cG hsG gs els pre las right beh sgl tl w):w0.grownBy w none/\B<=w.heap.size/\w0.heap.size<=B/\w0.heap.size<=o/\o<w.heap.size:=by
 obtain⟨X,mb,u,us,h1,h0,ws,sE,sP,sL,sR,sU,sW,sB,sS,cE,cP,cL,cR,cU,cW,cB,cS,hB,hE,hR,hG,⟨c,hM⟩,h2,h3,hl,h4,hw,hu⟩:=h;exact⟨hB.grown,Nat.le_trans hB.base hB.wk,hB.size,hB.old,zR hB.box⟩
theorem RunS.addRow (h:RunS w0 B o n k m d s ub sG cG hsG gs els pre las right beh sgl [] w)(hg:w.grownBy w' none){e sz q:Nat}{v:Value}{xs:List Value}(ho:w'.ownsRow w.heap.size e sz v q xs)(he:e≠156):RunS w0 B o n k m d s ub sG cG hsG gs els pre las right beh sgl (⟨B,e,v,q,xs,sz⟩::[]) w':=by
 obtain⟨X,mb,u,us,h2,h1,ws,sE,sP,sL,sR,sU,sW,sB,sS,cE,cP,cL,cR,cU,cW,cB,cS,hB,hE,hR,hG,⟨c,hM⟩,h3,h4,hl,h5,hw,hu⟩:=h;have h0:=hB.mem.keep hg;exact⟨X,mb,u,us,h2,h1,ws,sE,sP,sL,sR,sU,sW,sB,sS,cE,cP,cL,cR,cU,cW,cB,cS,(hB.add hg ho he).rebase,hE.kept h0 hg.size,hR.kept h0 hg.size,hG.kept h0 hg.size,⟨c,hM.kept hg (by simp)⟩,h3,h4,hl,h5,hw,hu⟩
theorem RunS.arr {e rb q cap:Nat}{xs:List Value}(h:RunS w0 B o n k m d s ub sG cG hsG gs els pre las right beh sgl (⟨B,e,.slice (some ⟨rb,0,none⟩) q cap,q,xs,1⟩::[]) w):Arr w rb e xs:=by
 obtain⟨X,mb,u,us,h1,h0,ws,sE,sP,sL,sR,sU,sW,sB,sS,cE,cP,cL,cR,cU,cW,cB,cS,hB,hE,hR,hG,⟨c,hM⟩,h2,h3,hl,h4,hw,hu⟩:=h;exact Arr.of_owns (hB.own (r:=⟨B,e,.slice (some ⟨rb,0,none⟩) q cap,q,xs,1⟩) (by simp))
theorem lX (l:List Nat)(i c:Nat):(nats l).set i (.int .i64 (c:Int))=nats (l.set i c):=by simp[nats,List.map_set]
theorem RunS.put {e rb q cap i:Nat}{xs:List Value}(h:RunS w0 B o n k m d s ub sG cG hsG gs els pre las right beh sgl (⟨B,e,.slice (some ⟨rb,0,none⟩) q cap,q,xs,1⟩::[]) w)(hi:i<q)(y:Value):RunS w0 B o n k m d s ub sG cG hsG gs els pre las right beh sgl (⟨B,e,.slice (some ⟨rb,0,none⟩) q cap,q,xs.set i y,1⟩::[]) (w.setCell ⟨rb,i,none⟩ y):=by
 obtain⟨X,mb,u,us,h3,h2,ws,sE,sP,sL,sR,sU,sW,sB,sS,cE,cP,cL,cR,cU,cW,cB,cS,hB,hE,hR,hG,⟨c,hM⟩,h5,h6,hl,h7,hw,hu⟩:=h;have hP:=hB.put (j:=9) rfl hi y;have h1:=hP.kept;have h0:=hP.wk
 have h4:rb≠mb:=fun e1=>by
  subst e1;exact uT (es:=#[]) (clock:=0) (hB.own (r:=⟨B,e,.slice (some ⟨rb,0,none⟩) q cap,q,xs,1⟩) (by simp)) hM.obj rfl
 exact⟨X,mb,u,us,h3,h2,ws,sE,sP,sL,sR,sU,sW,sB,sS,cE,cP,cL,cR,cU,cW,cB,cS,hP.rebase,hE.kept h1 h0,hR.kept h1 h0,hG.kept h1 h0,⟨c,hM.kept (zF w ⟨rb,i,none⟩ y) (fun e=>h4 (Oj e))⟩,h5,h6,hl,h7,hw,hu⟩
end
end Go.Proofs.YtobakifdllameaaGreat
namespace Go.Proofs
open Go.Shelf
def Tryz.lays111_ren:Go.Shelf.Ren:=⟨fun|111=>67|n=>n,fun|28=>22|3=>3|4=>4|0=>0|n=>n,fun|n=>n⟩
theorem Tryz.lays111:Go.Proofs.Lays.n111 Tryz.prog Tryz.lays111_ren:={
 mixed:=by kernel_rfl
 f111:=Tryz.func67.trans (congrArg some (by kernel_rfl))
 t0:=Tryz.underlying0
 a0:=Tryz.isAgg0
 z0:=Tryz.sizeOf0
 v0:=Tryz.zeroValue0
 t3:=Tryz.underlying3
 a3:=Tryz.isAgg3
 z3:=Tryz.sizeOf3
 v3:=Tryz.zeroValue3
 t4:=Tryz.underlying4
 a4:=Tryz.isAgg4
 z4:=Tryz.sizeOf4
 v4:=Tryz.zeroValue4
 t28:=Tryz.underlying22
 a28:=Tryz.isAgg22
 z28:=Tryz.sizeOf22
 v28:=Tryz.zeroValue22 }
open Go.RowKit Go.Lib in
theorem Tryz.slices_Equal_int (b1 o1 n c b2 o2 m d:Nat)(xs ys:List Int)(w:World)(hx:n<=xs.length)(hy:m<=ys.length)(a8:n<=9223372036854775807)(a9:m<=9223372036854775807)(a6:∀j,j<xs.length->w.cell? ⟨b1,o1+j,none⟩=some (.int .i64 (xs.getD j 0)))(a7:∀j,j<ys.length->w.cell? ⟨b2,o2+j,none⟩=some (.int .i64 (ys.getD j 0))):
  Calls Tryz.prog 67 #[.slice (some ⟨b1,o1,none⟩) n c,.slice (some ⟨b2,o2,none⟩) m d] w fun e w'=>e=.returned (.bool (xs.take n == ys.take m))/\∃q,w'=w.drewN q:=Any.slices_Equal_int Tryz.lays111 b1 o1 n c b2 o2 m d xs ys w hx hy a8 a9 a6 a7
def Tryz.lays193_ren:Go.Shelf.Ren:=⟨fun|193=>68|n=>n,fun|31=>37|9=>9|4=>4|3=>3|0=>0|n=>n,fun|n=>n⟩
theorem Tryz.lays193:Go.Proofs.Lays.n193 Tryz.prog Tryz.lays193_ren:={
 mixed:=by kernel_rfl
 f193:=Tryz.func68.trans (congrArg some (by kernel_rfl))
 t0:=Tryz.underlying0
 a0:=Tryz.isAgg0
 z0:=Tryz.sizeOf0
 v0:=Tryz.zeroValue0
 t3:=Tryz.underlying3
 a3:=Tryz.isAgg3
 z3:=Tryz.sizeOf3
 v3:=Tryz.zeroValue3
 t4:=Tryz.underlying4
 a4:=Tryz.isAgg4
 z4:=Tryz.sizeOf4
 v4:=Tryz.zeroValue4
 t9:=Tryz.underlying9
 a9:=Tryz.isAgg9
 z9:=Tryz.sizeOf9
 v9:=Tryz.zeroValue9
 t31:=Tryz.underlying37
 a31:=Tryz.isAgg37
 z31:=Tryz.sizeOf37
 v31:=Tryz.zeroValue37 }
open Go.RowKit Go.Lib in
theorem Tryz.slices_Equal_string (b1 o1 n c b2 o2 m d:Nat)(xs ys:List ByteArray)(w:World)(hx:n<=xs.length)(hy:m<=ys.length)(a8:n<=9223372036854775807)(a9:m<=9223372036854775807)(a6:∀j,j<xs.length->w.cell? ⟨b1,o1+j,none⟩=some (.string (xs.getD j ByteArray.empty)))(a7:∀j,j<ys.length->w.cell? ⟨b2,o2+j,none⟩=some (.string (ys.getD j ByteArray.empty))):
  Calls Tryz.prog 68 #[.slice (some ⟨b1,o1,none⟩) n c,.slice (some ⟨b2,o2,none⟩) m d] w fun e w'=>e=.returned (.bool (decide (xs.take n=ys.take m)))/\∃q,w'=w.drewN q:=Any.slices_Equal_string Tryz.lays193 b1 o1 n c b2 o2 m d xs ys w hx hy a8 a9 a6 a7
def Tryz.laysNm215_ren:Go.Shelf.Ren:=⟨fun|15=>79|n=>n,fun|22=>22|3=>3|4=>4|n=>n,fun|n=>n⟩
theorem Tryz.laysNm215:Go.Proofs.Lays2.n15 Tryz.prog Tryz.laysNm215_ren:={
 mixed:=by kernel_rfl
 f15:=Tryz.func79.trans (congrArg some (by kernel_rfl))
 t3:=Tryz.underlying3
 a3:=Tryz.isAgg3
 z3:=Tryz.sizeOf3
 v3:=Tryz.zeroValue3
 t4:=Tryz.underlying4
 a4:=Tryz.isAgg4
 z4:=Tryz.sizeOf4
 v4:=Tryz.zeroValue4
 t22:=Tryz.underlying22
 a22:=Tryz.isAgg22
 z22:=Tryz.sizeOf22
 v22:=Tryz.zeroValue22
 i3:=by kernel_rfl }
open Go.RowKit Go.Lib in
theorem Tryz.slices_Clone_int (b off n c:Nat)(zs:List Int)(w:World)(hz:n<=zs.length)(a9:n*8<=140737488355328)(hc:∀j,j<zs.length->w.cell? ⟨b,off+j,none⟩=some (.int .i64 (zs.getD j 0))):
  Calls Tryz.prog 79 #[.slice (some ⟨b,off,none⟩) n c] w fun e w'=>∃v',e=.returned v'/\w'.ownsRow w.heap.size 3 1 v' n ((zs.take n).map (Value.int .i64))/\v'≠.slice none 0 0/\Below w.heap.size w w':=Any.slices_Clone_int Tryz.laysNm215 b off n c zs w hz a9 hc
open Go.RowKit Go.Lib in
theorem Tryz.slices_Equal_int_lens (a1 a2:Option Addr)(n c m d:Nat)(w:World)(a9:n≠m):
  Calls Tryz.prog 67 #[.slice a1 n c,.slice a2 m d] w fun e w'=>e=.returned (.bool false)/\w'=w:=Any.slices_Equal_int_lens Tryz.lays111 a1 a2 n c m d w a9
open Go.RowKit Go.Lib in
theorem Tryz.slices_Equal_string_lens (a1 a2:Option Addr)(n c m d:Nat)(w:World)(a9:n≠m):
  Calls Tryz.prog 68 #[.slice a1 n c,.slice a2 m d] w fun e w'=>e=.returned (.bool false)/\w'=w:=Any.slices_Equal_string_lens Tryz.lays193 a1 a2 n c m d w a9
def Tryz.laysSlE33_f69_ren:Go.Shelf.Ren:=⟨fun|33=>69|n=>n,fun|22=>26|23=>4|4=>4|3=>3|0=>0|n=>n,fun|n=>n⟩
theorem Tryz.laysSlE33_f69:Go.Proofs.SlLaysE.n33 Tryz.prog Tryz.laysSlE33_f69_ren:={
 mixed:=by kernel_rfl
 f33:=⟨Tryz.f69.name,by decide,Tryz.func69.trans (congrArg some (by kernel_rfl))⟩
 t0:=Tryz.underlying0
 a0:=Tryz.isAgg0
 z0:=Tryz.sizeOf0
 v0:=Tryz.zeroValue0
 t3:=Tryz.underlying3
 a3:=Tryz.isAgg3
 z3:=Tryz.sizeOf3
 v3:=Tryz.zeroValue3
 t4:=Tryz.underlying4
 a4:=Tryz.isAgg4
 z4:=Tryz.sizeOf4
 v4:=Tryz.zeroValue4
 t22:=Tryz.underlying26
 a22:=Tryz.isAgg26
 z22:=Tryz.sizeOf26
 v22:=Tryz.zeroValue26
 a23:=Tryz.isAgg4
 z23:=Tryz.sizeOf4 }
open Go.RowKit Go.Lib in
theorem Tryz.slices_Equal_f69 {α:Type}[Inhabited α](enc:α->Value)(eq:α->α->Bool)(a7:NeqAt Tryz.prog 4 enc eq)(b1 o1 n c b2 o2 m d:Nat)(xs ys:List α)(w:World)(hx:n<=xs.length)(hy:m<=ys.length)(a8:n<=9223372036854775807)(a9:m<=9223372036854775807)(a5:∀j,j<xs.length->w.cell? ⟨b1,o1+j,none⟩=some (enc xs[j]!))(a6:∀j,j<ys.length->w.cell? ⟨b2,o2+j,none⟩=some (enc ys[j]!)):
  Calls Tryz.prog 69 #[.slice (some ⟨b1,o1,none⟩) n c,.slice (some ⟨b2,o2,none⟩) m d] w fun e w'=>e=.returned (.bool (Lib.allEq eq (xs.take n) (ys.take m)))/\∃q,w'=w.drewN q:=AnyE.slices_Equal Tryz.laysSlE33_f69 enc eq a7 b1 o1 n c b2 o2 m d xs ys w hx hy a8 a9 a5 a6
def Tryz.laysSlH10_f129_ren:Go.Shelf.Ren:=⟨fun|10=>129|6=>148|n=>n,fun|22=>22|23=>3|25=>74|3=>3|4=>4|0=>0|n=>n,fun|n=>n⟩
theorem Tryz.laysSlH10_f129:Go.Proofs.SlLaysH.n10 Tryz.prog Tryz.laysSlH10_f129_ren:={
 mixed:=by kernel_rfl
 f6:=⟨Tryz.f148.name,by decide,Tryz.func148.trans (congrArg some (by kernel_rfl))⟩
 f10:=⟨Tryz.f129.name,by decide,Tryz.func129.trans (congrArg some (by kernel_rfl))⟩
 t0:=Tryz.underlying0
 a0:=Tryz.isAgg0
 z0:=Tryz.sizeOf0
 v0:=Tryz.zeroValue0
 t3:=Tryz.underlying3
 a3:=Tryz.isAgg3
 z3:=Tryz.sizeOf3
 v3:=Tryz.zeroValue3
 t4:=Tryz.underlying4
 a4:=Tryz.isAgg4
 z4:=Tryz.sizeOf4
 v4:=Tryz.zeroValue4
 t22:=Tryz.underlying22
 a22:=Tryz.isAgg22
 z22:=Tryz.sizeOf22
 v22:=Tryz.zeroValue22
 a23:=Tryz.isAgg3
 z23:=Tryz.sizeOf3
 t25:=Tryz.underlying74
 a25:=Tryz.isAgg74
 z25:=Tryz.sizeOf74
 v25:=Tryz.zeroValue74 }
open Go.RowKit Go.Lib Go.Sort in
theorem Tryz.slices_DeleteFunc {α:Type}[Inhabited α](enc:α->Value)(hO:OneCell enc)(p:α->Bool)(g:Nat)(lb:Array Value)(eg:∀args w,(callFunc g args).run Tryz.prog w=.ok (.enter g args) w)(zr:α)(a8:∀w,(zeroValue 3).run Tryz.prog w=.ok (enc zr) w)(blk off cap:Nat)(d:Array α)(w:World)(hp:PredAt Tryz.prog g lb enc p w)(a6:PredOver Tryz.prog g lb enc p blk off d.size w)(hH:Holds enc w blk off d)(a7:d.size<=9223372036854775807)(a9:d.size<=cap):
  Calls Tryz.prog 129 #[.slice (some ⟨blk,off,none⟩) d.size cap,.func (.func g) #[] lb] w fun e w'=>e=.returned (.slice (some ⟨blk,off,none⟩) (d.toList.filter fun x=>!p x).length cap)/\∃q,w'=putRow enc (Sort.ahead w q) blk off ((d.toList.filter fun x=>!p x)++List.replicate (d.size-(d.toList.filter fun x=>!p x).length) zr).toArray:=AnyE.slices_DeleteFunc Tryz.laysSlH10_f129 enc hO p g lb eg zr a8 blk off cap d w hp a6 hH a7 a9
end Go.Proofs
namespace Go.Proofs.YtobakifdllameaaGreat
open Go.Maps Go.RowKit
theorem qSS (l:List Nat):(l.map fun(x:Nat)=>(x:Int)).map (Value.int .i64)=nats l:=by simp[nats]
theorem iR (B:Nat)(w:World)(v:Value)(f:List Nat)(h:Row B w v (nats f))(h1:1<=f.length)(hb:f.length<=1000000):Calls Tryz.prog 79 #[v] w fun e w'=>∃g c,e=.returned (.slice (some ⟨g,0,none⟩) f.length c)/\w.heap.size<=g/\f.length<=c/\c<=maxLen/\w'.ownsRow w.heap.size 3 1 (.slice (some ⟨g,0,none⟩) f.length c) f.length (nats f)/\w.grownBy w' none:=by
 obtain⟨b,off,cap,rfl,_,h9,h8,h6⟩:=h.some_ (by rw[zT];omega);rw[zT];refine(Tryz.slices_Clone_int b off f.length cap (f.map fun(x:Nat)=>(x:Int)) w (by simp) (by omega) (fun j hj=>?_)).mono ?_
 ·have h5:j<f.length:=by simpa using hj
  rw[h6.nat j h5];simp[List.getD,h5]
 rintro e w' ⟨v',rfl,h0,h7,h4⟩;rw[show ((f.map fun(x:Nat)=>(x:Int)).take f.length).map (Value.int .i64)=nats f by rw[List.take_of_length_le (by simp),qSS]]at h0;obtain⟨sa,sc,rfl⟩:=qU h0;obtain⟨g,rfl,h2,h3,_⟩:=yZ h0 (by omega);exact⟨g,sc,rfl,(h0.lt g rfl).1,h2,h3,h0,kP h4⟩
end Go.Proofs.YtobakifdllameaaGreat
namespace Go.Proofs.YtobakifdllameaaGreat
def qCU (n:Nat):Code->Option Code
 | .block i c=>if i=n then some c else qCU n c
 | .seq a b=>match qCU n a with
  | some c=>some c
  | none=>qCU n b
 | .cond _ a b=>match qCU n a with
  | some c=>some c
  | none=>qCU n b
 | .loop c=>qCU n c
 | .scope c=>qCU n c
 | _=>none
noncomputable def blk (f:Func)(n:Nat):Code:=(f.body.bind (qCU n)).getD .skip
def qCT (n:Nat):Code->Option Code
 | .region i o d=>if i=n then some (.region i o d) else none
 | .block _ c=>qCT n c
 | .seq a b=>match qCT n a with
  | some c=>some c
  | none=>qCT n b
 | .cond _ a b=>match qCT n a with
  | some c=>some c
  | none=>qCT n b
 | .loop c=>qCT n c
 | .scope c=>qCT n c
 | _=>none
noncomputable def reg (f:Func)(n:Nat):Code:=(f.body.bind (qCT n)).getD .skip
open Go.Maps Go.RowKit
theorem qNN:numE []=fun _=>none:=by funext f;simp[numE]
theorem RunS.init {w w2:World}{mb o n:Nat}(hm:MapK 9 (IsT n) (fun f=>.string (txtT f)) w2 mb 0 0 (fun _=>none))(hb:w2.heap[o]?=some (.cells #[.int .i64 (n:Int),.bool true,.slice none 0 0,.slice none 0 0,.slice none 0 0,.slice none 0 0,.slice none 0 0,.slice none 0 0,.int .i64 ((0:Nat):Int),.map (some mb),.slice none 0 0,.slice none 0 0,.slice none 0 0] 156 (0,0)))(h1:w.heap.size<=mb)(h2:w.heap.size<=o)(hg:w.grownBy w2 none):RunS w w.heap.size o n 0 0 0 0 0 none 0 [] [] [] [] [] [] [] [] [] w2:=by
 have h0:∀r∈(⟨w.heap.size,22,.slice none 0 0,0,[],1⟩::⟨w.heap.size,3,.slice none 0 0,0,ints [],1⟩::⟨w.heap.size,3,.slice none 0 0,0,ints [],1⟩::⟨w.heap.size,22,.slice none 0 0,0,[],1⟩::⟨w.heap.size,180,.slice none 0 0,0,[],2⟩::⟨w.heap.size,9,.slice none 0 0,0,xD [],1⟩::⟨w.heap.size,3,.slice none 0 0,0,ints [],1⟩::⟨w.heap.size,3,.slice none 0 0,0,nats [],1⟩::⟨w.heap.size,22,.slice none 0 0,0,[],1⟩::([]:List RowS)),
   r.v=.slice none 0 0/\r.n=0/\r.xs=[]/\r.base=w.heap.size/\r.e≠156:=by
  intro r hr;simp only[List.mem_cons,List.not_mem_nil,or_false]at hr;rcases hr with rfl|rfl|rfl|rfl|rfl|rfl|rfl|rfl|rfl<;>exact⟨rfl,rfl,rfl,rfl,by simp⟩
 refine⟨fun _=>False,mb,0,[],[],[],[],none,none,none,none,none,none,none,none,0,0,0,0,0,0,0,0,⟨⟨fun r hr=>?_,?_,fun r hr k hk=>?_,fun k hk=>hk.elim⟩,fun r hr=>?_,hb,fun h=>h,Nat.le_refl _,h2,hg.size,hg,xV.refl _ _,Nat.le_refl _⟩,xU.nil,xU.nil,xU.nil,⟨0,by rw[qNN];exact hm⟩,fun h=>h,h1,⟨rfl,rfl,rfl,rfl,rfl,rfl,rfl,rfl⟩,fun f hf=>by simp at hf,fun i=>by rw[List.getD_nil];exact Nat.zero_le i,Nat.le_refl _⟩
 ·obtain⟨e1,e2,e3,_,_⟩:=h0 r hr
  rw[e1,e2,e3];exact World.ownsRow_nil _ _ _ _
 ·rw[List.pairwise_iff_getElem]
  intro i j hi hj _ k hk;rw[(h0 _ (List.getElem_mem hi)).1]at hk;simp[Value.ownBlock]at hk
 ·rw[(h0 r hr).1]at hk
  simp[Value.ownBlock]at hk
 exact⟨(h0 r hr).2.2.2.1,(h0 r hr).2.2.2.2⟩
theorem qRI {Q:Exit->Act->World->Prop}{v0 v1 v2 v3 v4 v5 v7 v9 o8 o9 n0 n1 n2 n3 n4 n5 n6 n7 n8 n9 m0 m1 m2 m3 m4 m5 m6 m7 m8 m9 l0 l1 l2 l3 l4 l5 l6 l7 l8 l9 k0 k1 k2 k3 k4 k5 k6 k7 k8 k9 j0 j1 j2 j3 j4 j5 p3 p4 p5 p6 p7 p8 p9 o0 o1 o2 o3 o4 o5 j6 j7 j8 j9 i0 i1 i2 i3 i4 i5 i6 i7 i8 i9 g0 g1 g2 g3 g4 g5 g6 g7 g9 f0 f1 f3 f4 f5 f6 f8 f9 e0 e1 e2 e3 e4 e5 e6 e7 e8 e9 d0 d1 d2 d3 d4 d5 d6 d7 d8 d9 c0 c1 c2 c3 c4 c5 c6 c7 c9 b0 b1 b2 b3 b4 b5 b6 b7 b8 b9 a0 a1 a2 a3 a4 a5:Value}{gv:Value}{w0 w:World}{B C o n k m d s ub:Nat}{sG:Option Addr}{cG:Nat}{a9:List Value}{gs o6 right:List (List Nat)}{pre a7 a6:List Int}{a8:List Nat}{tl:List RowS}{g:List Nat}(h:RunS w0 B o n k m d s ub sG cG a9 gs o6 pre a7 right a6 a8 tl w)(hk:k<=100)(hg:IsT n g)(h1:1<=n)(p2:n<=32)(hC:C<=w0.heap.size)(o7:Row C w gv (nats g))(f7:∀(z58 z59 z60 z61 z62 z63 z64 z65 z66 z67 z68 z69 z70:Value) (w':World) (sG':Option Addr) (cG':Nat) (x:Value),RunS w0 B o n (k+1) m d s ub sG' cG' (a9++[x]) (gs++[g]) o6 pre a7 right a6 a8 tl w'->w.heap.size<=w'.heap.size->Q .normal ⟨(v0::v1::v2::v3::v4::v5::(Value.pointer (some ⟨o,0,none⟩))::v7::gv::v9::o8::o9::n0::n1::n2::n3::n4::n5::n6::n7::n8::n9::m0::m1::m2::m3::m4::m5::m6::m7::m8::m9::l0::l1::l2::l3::l4::l5::l6::l7::l8::l9::k0::k1::k2::k3::k4::k5::k6::k7::k8::k9::j0::j1::j2::j3::j4::j5::z58::z59::z60::z61::z62::z63::z64::z65::z66::z67::z68::z69::z70::j6::j7::j8::j9::i0::i1::i2::i3::i4::i5::i6::i7::i8::i9::g0::g1::g2::g3::g4::g5::g6::g7::g9::f0::f1::f3::f4::f5::f6::f8::f9::e0::e1::e2::e3::e4::e5::e6::e7::e8::e9::d0::d1::d2::d3::d4::d5::d6::d7::d8::d9::c0::c1::c2::c3::c4::c5::c6::c7::c9::b0::b1::b2::b3::b4::b5::b6::b7::b8::b9::a0::a1::a2::a3::a4::a5::[]).toArray,[]⟩ w'):Code.wp Tryz.prog (reg Tryz.f105 10) Q ⟨(v0::v1::v2::v3::v4::v5::(Value.pointer (some ⟨o,0,none⟩))::v7::gv::v9::o8::o9::n0::n1::n2::n3::n4::n5::n6::n7::n8::n9::m0::m1::m2::m3::m4::m5::m6::m7::m8::m9::l0::l1::l2::l3::l4::l5::l6::l7::l8::l9::k0::k1::k2::k3::k4::k5::k6::k7::k8::k9::j0::j1::j2::j3::j4::j5::p3::p4::p5::p6::p7::p8::p9::o0::o1::o2::o3::o4::o5::j6::j7::j8::j9::i0::i1::i2::i3::i4::i5::i6::i7::i8::i9::g0::g1::g2::g3::g4::g5::g6::g7::g9::f0::f1::f3::f4::f5::f6::f8::f9::e0::e1::e2::e3::e4::e5::e6::e7::e8::e9::d0::d1::d2::d3::d4::d5::d6::d7::d8::d9::c0::c1::c2::c3::c4::c5::c6::c7::c9::b0::b1::b2::b3::b4::b5::b6::b7::b8::b9::a0::a1::a2::a3::a4::a5::[]).toArray,[]⟩ w:=by
 have q0:=h.facts.1;have t9:C<=w.heap.size:=Nat.le_trans hC q0.size;obtain⟨X,mb,u,us,h4,h3,ws,sE,sP,sL,sR,sU,sW,sB,sS,cE,cP,cL,cR,cU,cW,cB,cS,hB,hE,hR,hG,⟨c,hM⟩,s2,s5,hl,r4,hw,hu⟩:=h
 have H9:o≠mb:=fun e=>by
  obtain⟨es,clock,hb⟩:=hM.obj;have:=hB.box;rw[e,hb]at this;simp at this
 have s3:=hM.lt;have q3:=hB.stand s3 (fun r hr=>uT (es:=#[]) (clock:=0) (hB.mem.own r hr) hM.obj) H9;obtain⟨X1,q1⟩:∃X1:Nat->Prop,X1=fun q=>X q\/q=mb:=⟨_,rfl⟩;rw[<-q1]at q3;have HS:=Kh q3;have q4:=Kh q1
 have q6:Hid (∀W:World,w.grownBy W none->W.cell? ⟨o,2,none⟩=some (.slice sG k cG)):=Kh (fun W hg=>by
  have hb:=(HS.out.grow hg).box;have q2:=zH hb 2;simp only[List.getElem_toArray,List.getElem_cons_zero,List.getElem_cons_succ]at q2
  exact q2)
 obtain⟨HE,HR,HG,HM,HL,t7⟩:=K6 hE hR hG hM hl r4;have HW:=Kh hw;have x1:=Kh hg
 have s1:Hid (∀W:World,w.grownBy W none->Calls Tryz.prog 79 #[gv] W fun e w'=>∃g8 c8,e=.returned (.slice (some ⟨g8,0,none⟩) n c8)/\W.heap.size<=g8/\n<=c8/\c8<=maxLen/\w'.ownsRow W.heap.size 3 1 (.slice (some ⟨g8,0,none⟩) n c8) n (nats g)/\W.grownBy w' none):=Kh (fun W hgW=>by
  have:=iR C W gv g (o7.kept hgW (by simp)) (by rw[hg.1];exact h1) (by rw[hg.1];omega)
  rw[hg.1]at this;exact this)
 clear hB hE hR hG hM hl r4 hw q3 q1 hg o7
 conv=>arg 2;whnf
 obtain⟨w7,H8⟩:=Nm w.drew;have r7:w.grownBy w7 none:=by rw[H8];exact zS w none
 have t5:=Kh H8;have h8:=Kh r7;clear H8 r7;refine wp_region_noPanic ?_;refine yM (G:=wH 13 (fun _=>True) (fun W=>W.cell? ⟨o,2,none⟩=some (.slice sG k cG))) (by kernel_rfl) ?_;rw[<-t5.out];have q5:Hid (BoxS B X1 o 156 w0 w (⟨B,22,.slice sE m cE,m,h4,1⟩::⟨B,3,.slice sP m cP,m,ints pre,1⟩::⟨B,3,.slice sL m cL,m,ints a7,1⟩::⟨B,22,.slice sR d cR,d,h3,1⟩::⟨B,180,.slice sU u cU,u,us,2⟩::⟨B,9,.slice sW m cW,m,xD ws,1⟩::⟨B,3,.slice sB m cB,m,ints a6,1⟩::⟨B,3,.slice sS s cS,s,nats a8,1⟩::⟨B,22,.slice sG k cG,k,a9,1⟩::tl) #[.int .i64 (n:Int),.bool true,.slice sG k cG,.slice sE m cE,.slice sP m cP,.slice sL m cL,.slice sR d cR,.slice sU u cU,.int .i64 (d:Int),.map (some mb),.slice sW m cW,.slice sB m cB,.slice sS s cS] w7):=Kh (HS.out.grow h8.out);have C:=Kh (q6.out w7 h8.out);refine zO 0 ⟨trivial,fun _=>C.out⟩ ?_;refine zO 1 ⟨trivial,fun _=>C.out⟩ ?_;refine zO 2 ⟨trivial,fun _=>C.out⟩ ?_;refine zO 3 ⟨trivial,fun _=>C.out⟩ ?_;refine zO 4 ⟨trivial,fun _=>C.out⟩ ?_;refine yY 5 ⟨trivial,fun _=>C.out⟩ ?_;refine zO 6 ⟨trivial,fun _=>C.out⟩ ?_;refine oneG (i:=7) (by kernel_rfl) rfl (fun K hK=>?_);go_simp
 go_at_call 79
 refine(s1.out w7 h8.out).mono ?_;rintro e w8 ⟨g8,c8,rfl,h6,t8,x0,h0,H2⟩;have p0:=(h0.lt g8 rfl).2;have H6:=Kh (zC h8.out H2);have C8:=Kh (q6.out w8 H6.out);have s4:mb≠g8:=by have:=HM.out.lt;have:=h8.out.size;omega
 obtain⟨X2,H4⟩:∃X2:Nat->Prop,X2=fun q=>X1 q\/q=g8:=⟨_,rfl⟩;have r8:=Kh H4;have r9:Hid (BoxS B X2 o 156 w0 w8 (⟨B,22,.slice sE m cE,m,h4,1⟩::⟨B,3,.slice sP m cP,m,ints pre,1⟩::⟨B,3,.slice sL m cL,m,ints a7,1⟩::⟨B,22,.slice sR d cR,d,h3,1⟩::⟨B,180,.slice sU u cU,u,us,2⟩::⟨B,9,.slice sW m cW,m,xD ws,1⟩::⟨B,3,.slice sB m cB,m,ints a6,1⟩::⟨B,3,.slice sS s cS,s,nats a8,1⟩::⟨B,22,.slice sG k cG,k,a9,1⟩::tl) #[.int .i64 (n:Int),.bool true,.slice sG k cG,.slice sE m cE,.slice sP m cP,.slice sL m cL,.slice sR d cR,.slice sU u cU,.int .i64 (d:Int),.map (some mb),.slice sW m cW,.slice sB m cB,.slice sS s cS] w8):=Kh (by rw[H4];exact q5.out.fresh (Y:=fun q=>q=g8) H2 (fun q hq=>by subst hq;exact⟨h6,p0⟩));have t6:Hid (RowX X2 3 w8 (.slice (some ⟨g8,0,none⟩) n c8) (nats g)):=Kh (RowX.of_owns h0 (fun q hq=>by simp[Value.ownBlock]at hq;subst hq;rw[H4];exact .inr rfl));have s0:Hid (xV X w w8/\w.heap.size<=w8.heap.size):=Kh ⟨fun q hq=>(q5.out.grow H2).kept q (by rw[q4.out];exact .inl hq),H6.out.size⟩;refine hK.out _ _ ⟨trivial,fun _=>C8.out⟩ ?_;clear hK K C q5 H2 h0 H4 h6 s1
 try simp only[Act.put,sPa,sPb,sPc]
 refine oneG (i:=8) (by kernel_rfl) rfl (fun K hK=>?_);go_simp;have H0:=heap_alloc_new w8 (.cells #[Value.slice (some ⟨g8,0,none⟩) n c8] 22);have H1:=Ga w8 (.cells #[Value.slice (some ⟨g8,0,none⟩) n c8] 22) none;obtain⟨gR,r5⟩:=Nm w8.heap.size;obtain⟨w9,q9⟩:=Nm (w8.alloc (.cells #[Value.slice (some ⟨g8,0,none⟩) n c8] 22));rw[<-r5]at H0⊢;rw[<-q9]at H0 H1⊢;have h7:Hid (BoxS B X2 o 156 w0 w8 (⟨B,22,.slice sE m cE,m,h4,1⟩::⟨B,3,.slice sP m cP,m,ints pre,1⟩::⟨B,3,.slice sL m cL,m,ints a7,1⟩::⟨B,22,.slice sR d cR,d,h3,1⟩::⟨B,180,.slice sU u cU,u,us,2⟩::⟨B,9,.slice sW m cW,m,xD ws,1⟩::⟨B,3,.slice sB m cB,m,ints a6,1⟩::⟨B,3,.slice sS s cS,s,nats a8,1⟩::⟨B,22,.slice sG k cG,k,a9,1⟩::tl) #[.int .i64 (n:Int),.bool true,.slice sG k cG,.slice sE m cE,.slice sP m cP,.slice sL m cL,.slice sR d cR,.slice sU u cU,.int .i64 (d:Int),.map (some mb),.slice sW m cW,.slice sB m cB,.slice sS s cS] w9):=Kh (r9.out.grow H1);have C9:=Kh (q6.out w9 (zC H6.out H1));refine hK.out _ _ ⟨trivial,fun _=>C9.out⟩ ?_;clear hK K C8 r5 q9 H1
 try simp only[Act.put,sPa,sPb,sPc]
 have r1:=h7.out.own (r:=⟨B,22,.slice sG k cG,k,a9,1⟩) (by simp);have q7:=Nat.le_trans h7.out.base h7.out.wk;refine oneG (i:=9) (by kernel_rfl) rfl (fun K hK=>?_);refine qC rfl (.tmp 63) (.tmp 66) 27 rfl wG.toN B (.slice sG k cG) k a9 rfl r1 [.slice (some ⟨g8,0,none⟩) n c8] gR rfl (0,0) rfl H0 ?z1 ?z2 ?z3 q7 ?_
 case z1=>intro v hv;simp only[List.mem_cons,List.not_mem_nil,or_false]at hv;subst hv;rfl
 case z2=>unfold maxLen;omega
 case z3=>show (k+1)*24<=140737488355328;omega
 intro sN cN wM h5 r6 r2;have H5:Hid (BoxS B X2 o 156 w0 w8 (⟨B,22,.slice sE m cE,m,h4,1⟩::⟨B,3,.slice sP m cP,m,ints pre,1⟩::⟨B,3,.slice sL m cL,m,ints a7,1⟩::⟨B,22,.slice sR d cR,d,h3,1⟩::⟨B,180,.slice sU u cU,u,us,2⟩::⟨B,9,.slice sW m cW,m,xD ws,1⟩::⟨B,3,.slice sB m cB,m,ints a6,1⟩::⟨B,3,.slice sS s cS,s,nats a8,1⟩::⟨B,22,.slice sN (k+1) cN,k+1,a9++[.slice (some ⟨g8,0,none⟩) n c8],1⟩::tl) #[.int .i64 (n:Int),.bool true,.slice sG k cG,.slice sE m cE,.slice sP m cP,.slice sL m cL,.slice sR d cR,.slice sU u cU,.int .i64 (d:Int),.map (some mb),.slice sW m cW,.slice sB m cB,.slice sS s cS] wM):=Kh (h7.out.appAt (j:=8) rfl h5 r6 r2)
 have CM:Hid (wM.cell? ⟨o,2,none⟩=some (.slice sG k cG)):=Kh (by
  have q2:=zH H5.out.box 2;simp only[List.getElem_toArray,List.getElem_cons_zero,List.getElem_cons_succ]at q2
  exact q2)
 refine hK.out _ _ ⟨trivial,fun _=>CM.out⟩ ?_;clear hK K C9 h7 r9 h5 r6 r2 H0 r1 q7
 try simp only[Act.put,sPa,sPb,sPc]
 refine zO 10 ⟨trivial,fun _=>CM.out⟩ ?_;refine zO 11 ⟨trivial,fun _=>CM.out⟩ ?_;refine zO 12 ⟨trivial,fun _=>CM.out⟩ ?_;refine oneG (i:=13) (by kernel_rfl) rfl (fun K hK=>?_);have q2:=CM.out;have f2:=zA H5.out.box 2;go_simp;refine hK.out _ _ ⟨trivial,fun h=>by simp at h⟩ ?_;clear hK K q2 f2 CM
 try simp only[Act.put,sPa,sPb,sPc]
 refine tT (by kernel_rfl) ?_ _;refine NoPanic.normal ?_;obtain⟨wZ,H7⟩:=Nm (wM.setCell ⟨o,2,none⟩ (.slice sN (k+1) cN));have HZ:Hid (BoxS B X2 o 156 w0 w8 (⟨B,22,.slice sE m cE,m,h4,1⟩::⟨B,3,.slice sP m cP,m,ints pre,1⟩::⟨B,3,.slice sL m cL,m,ints a7,1⟩::⟨B,22,.slice sR d cR,d,h3,1⟩::⟨B,180,.slice sU u cU,u,us,2⟩::⟨B,9,.slice sW m cW,m,xD ws,1⟩::⟨B,3,.slice sB m cB,m,ints a6,1⟩::⟨B,3,.slice sS s cS,s,nats a8,1⟩::⟨B,22,.slice sN (k+1) cN,k+1,a9++[.slice (some ⟨g8,0,none⟩) n c8],1⟩::tl) #[.int .i64 (n:Int),.bool true,.slice sN (k+1) cN,.slice sE m cE,.slice sP m cP,.slice sL m cL,.slice sR d cR,.slice sU u cU,.int .i64 (d:Int),.map (some mb),.slice sW m cW,.slice sB m cB,.slice sS s cS] wZ):=Kh (by rw[H7];exact H5.out.set 2 (.slice sN (k+1) cN));rw[<-H7];clear H7 H5;obtain⟨X3,H3⟩:∃X3:Nat->Prop,X3=fun q=>X q\/q=g8:=⟨_,rfl⟩
 have q8:∀q,X3 q->X2 q:=fun q hq=>by
  rw[H3]at hq;rw[r8.out,q4.out];rcases hq with hq|hq
  ·exact .inl (.inl hq)
  exact .inr hq
 have h9:∀q,X q->X3 q:=fun q hq=>by rw[H3];exact .inl hq
 have r3:=(HZ.out.less q8).kept;have r0:=HZ.out.wk;have p1:xV X w wZ:=s0.out.1.trans (fun q hq=>r3 q (h9 q hq));have h2:=Nat.le_trans s0.out.2 r0;have t4:RowX X3 3 w8 (.slice (some ⟨g8,0,none⟩) n c8) (nats g):=⟨t6.out.1,fun q hq=>by rw[H3];simp[Value.ownBlock]at hq;exact .inr hq.symm⟩;refine f7 _ _ _ _ _ _ _ _ _ _ _ _ _  _ _ _ _ ⟨X3,mb,u,us,h4,h3,ws,sE,sP,sL,sR,sU,sW,sB,sS,cE,cP,cL,cR,cU,cW,cB,cS,(HZ.out.less q8).rebase,(HE.out.kept p1 h2).mono h9,(HR.out.kept p1 h2).mono h9,((HG.out.kept p1 h2).mono h9).snoc (t4.kept r3 r0),⟨c,(HM.out.kept H6.out (by simp)).of_block (HZ.out.kept mb (by rw[r8.out,q4.out];exact .inl (.inr rfl)))⟩,?_,s5,?_,t7.out,HW.out,hu⟩ h2
 ·rw[H3]
  intro e;rcases e with e|e
  ·exact s2 e
  exact s4 e
 obtain⟨t3,t2,t1,t0,s9,s8,s7,s6⟩:=HL.out;exact⟨t3,t2,t1,t0,s9,s8,s7,by simp[s6]⟩
theorem qRC {Q:Exit->Act->World->Prop}{v1 v2 v3 v4 v5 v6 v7 v9 r9 q0 q1 q2 q3 q4 q5 q6 q8 q9 p0 p1 p2 p3 p4 p5 p6 p7 p8 p9 o0 o1 o2 o3 o4 o5 o6 o7 o8 o9 n0 n1 n2 n3 n4 n5 n6 n7 n8 n9 m0 m1 m2 m3 m4 m5 m6 m7 m8 m9 l0 l1 l2 l3 l4 l5 l6 l7 l8 l9 k0 k1 k2 k3 k4 k5 k6 k7 k8 k9 j0 j1 j2 j3 j4 j5 j6 j7 j8 j9 i0 i1 i2 i3 i4 i5 i6 i7 i8 e1 e2 e3 e4 e5 e6 e7 e8 e9 d0 d1 d2 d3 d4 d5 d6 d7 d8 i9 g0 g1 g2 g3 g4 g5 g6 g7 g8 g9 f0 f1 f2 f3 f4 f5 f6 f8 f9 d9 c0 c1 c2 c3 c4 c5 c6 c7 c8 c9 b0 b1 b2 b3 b4 b5 b6 b7 b8 b9 a0 a1 a2 a3 a4:Value}{w0 w:World}{B o n k m d s ub i:Nat}{sG:Option Addr}{cG:Nat}{a6:List Value}{gs r8 right:List (List Nat)}{pre a7 a5:List Int}{a8:List Nat}{tl:List RowS}{a9:ByteArray}(h:RunS w0 B o n k m d s ub sG cG a6 gs r8 pre a7 right a5 a8 tl w)(hi:i<m)(hm:m<=4000)(r7:ub<=100000)(e0:∀(z118 z119 z120 z121 z122 z123 z124 z125 z126 z127 z128 z129 z130 z131 z132 z133 z134 z135 z136 z137:Value) (w':World),RunS w0 B o n k m d s (ub+1) sG cG a6 gs r8 pre a7 right a5 a8 tl w'->w.heap.size<=w'.heap.size->Q .normal ⟨((Value.pointer (some ⟨o,0,none⟩))::v1::v2::v3::v4::v5::v6::v7::(Value.int .i64 (i:Int))::v9::(Value.string a9)::r9::q0::q1::q2::q3::q4::q5::q6::q8::q9::p0::p1::p2::p3::p4::p5::p6::p7::p8::p9::o0::o1::o2::o3::o4::o5::o6::o7::o8::o9::n0::n1::n2::n3::n4::n5::n6::n7::n8::n9::m0::m1::m2::m3::m4::m5::m6::m7::m8::m9::l0::l1::l2::l3::l4::l5::l6::l7::l8::l9::k0::k1::k2::k3::k4::k5::k6::k7::k8::k9::j0::j1::j2::j3::j4::j5::j6::j7::j8::j9::i0::i1::i2::i3::i4::i5::i6::i7::i8::e1::e2::e3::e4::e5::e6::e7::e8::e9::d0::d1::d2::d3::d4::d5::d6::d7::d8::z118::z119::z120::z121::z122::z123::z124::z125::z126::z127::z128::z129::z130::z131::z132::z133::z134::z135::z136::z137::d9::c0::c1::c2::c3::c4::c5::c6::c7::c8::c9::b0::b1::b2::b3::b4::b5::b6::b7::b8::b9::a0::a1::a2::a3::a4::[]).toArray,[]⟩ w'):Code.wp Tryz.prog (reg Tryz.f107 14) Q ⟨((Value.pointer (some ⟨o,0,none⟩))::v1::v2::v3::v4::v5::v6::v7::(Value.int .i64 (i:Int))::v9::(Value.string a9)::r9::q0::q1::q2::q3::q4::q5::q6::q8::q9::p0::p1::p2::p3::p4::p5::p6::p7::p8::p9::o0::o1::o2::o3::o4::o5::o6::o7::o8::o9::n0::n1::n2::n3::n4::n5::n6::n7::n8::n9::m0::m1::m2::m3::m4::m5::m6::m7::m8::m9::l0::l1::l2::l3::l4::l5::l6::l7::l8::l9::k0::k1::k2::k3::k4::k5::k6::k7::k8::k9::j0::j1::j2::j3::j4::j5::j6::j7::j8::j9::i0::i1::i2::i3::i4::i5::i6::i7::i8::e1::e2::e3::e4::e5::e6::e7::e8::e9::d0::d1::d2::d3::d4::d5::d6::d7::d8::i9::g0::g1::g2::g3::g4::g5::g6::g7::g8::g9::f0::f1::f2::f3::f4::f5::f6::f8::f9::d9::c0::c1::c2::c3::c4::c5::c6::c7::c8::c9::b0::b1::b2::b3::b4::b5::b6::b7::b8::b9::a0::a1::a2::a3::a4::[]).toArray,[]⟩ w:=by
 obtain⟨X,mb,u,us,h3,h2,ws,sE,sP,sL,sR,sU,sW,sB,sS,cE,cP,cL,cR,cU,cW,cB,cS,hB,hE,hR,hG,⟨c,hM⟩,s8,t0,hl,r5,hw,hu⟩:=h;have H2:=hB.own (r:=⟨B,9,.slice sW m cW,m,xD ws,1⟩) (by simp);simp only at H2;obtain⟨wb,rfl,t3,r2,s2⟩:=yZ H2 (by omega)
 have H1:o≠mb:=fun e=>by
  obtain⟨es,clock,hb⟩:=hM.obj;have:=hB.box;rw[e,hb]at this;simp at this
 have s9:=hM.lt;have H6:=hB.stand s9 (fun r hr=>uT (es:=#[]) (clock:=0) (hB.mem.own r hr) hM.obj) H1;obtain⟨wi,r0⟩:=Nm (ws.getD i ⟨#[]⟩);have s6:ws.length=m:=hl.2.2.2.1;have s1:∀W:World,w.grownBy W none->W.cell? ⟨wb,i,none⟩=some (.string wi):=fun W hg=>zK (pJ s2 (by rw[r0];simp[xD,List.getElem?_eq_getElem (show i<ws.length by omega),zN (show i<ws.length by omega)])) hg;obtain⟨X1,H5⟩:∃X1:Nat->Prop,X1=fun q=>X q\/q=mb:=⟨_,rfl⟩;rw[<-H5]at H6;have HS:=Kh H6;have s3:=Kh H5
 have s5:Hid (∀W:World,w.grownBy W none->W.cell? ⟨o,7,none⟩=some (.slice sU u cU)/\W.cell? ⟨o,10,none⟩=some (.slice (some ⟨wb,0,none⟩) m cW)/\W.cell? ⟨wb,i,none⟩=some (.string wi)):=Kh (fun W hg=>by
  have hb:=(HS.out.grow hg).box;have q7:=zH hb 7;have q10:=zH hb 10;simp only[List.getElem_toArray,List.getElem_cons_zero,List.getElem_cons_succ]at q7 q10
  exact⟨q7,q10,s1 W hg⟩)
 obtain⟨HE,HR,HG,HM,HL,t2⟩:=K6 hE hR hG hM hl r5;have HW:=Kh hw;have HB:=Kh hB;have t5:(i:Int)<m:=by omega
 have s7:cW<=9223372036854775807:=by unfold maxLen at r2;omega
 have t4:u<=100000:=by omega
 clear hB hE hR hG hM hl r5 hw H6 H5 s1 r0 H2 s2 s6 r2
 conv=>arg 2;whnf
 obtain⟨w7,H0⟩:=Nm w.drew;have s0:w.grownBy w7 none:=by rw[H0];exact zS w none
 have t1:=Kh H0;have H7:=Kh s0;clear H0 s0;refine wp_region_noPanic ?_;refine yM (G:=wH 20 (fun _=>True) (fun W=>W.cell? ⟨o,7,none⟩=some (.slice sU u cU)/\W.cell? ⟨o,10,none⟩=some (.slice (some ⟨wb,0,none⟩) m cW)/\W.cell? ⟨wb,i,none⟩=some (.string wi))) (by kernel_rfl) ?_;rw[<-t1.out];have s4:Hid (BoxS B X1 o 156 w0 w (⟨B,22,.slice sE m cE,m,h3,1⟩::⟨B,3,.slice sP m cP,m,ints pre,1⟩::⟨B,3,.slice sL m cL,m,ints a7,1⟩::⟨B,22,.slice sR d cR,d,h2,1⟩::⟨B,180,.slice sU u cU,u,us,2⟩::⟨B,9,.slice (some ⟨wb,0,none⟩) m cW,m,xD ws,1⟩::⟨B,3,.slice sB m cB,m,ints a5,1⟩::⟨B,3,.slice sS s cS,s,nats a8,1⟩::⟨B,22,.slice sG k cG,k,a6,1⟩::tl) #[.int .i64 (n:Int),.bool true,.slice sG k cG,.slice sE m cE,.slice sP m cP,.slice sL m cL,.slice sR d cR,.slice sU u cU,.int .i64 (d:Int),.map (some mb),.slice (some ⟨wb,0,none⟩) m cW,.slice sB m cB,.slice sS s cS] w7):=Kh (HS.out.grow H7.out);have C:=Kh (s5.out w7 H7.out);refine zO 0 ⟨trivial,fun _=>C.out⟩ ?_;refine zO 1 ⟨trivial,fun _=>C.out⟩ ?_;refine zO 2 ⟨trivial,fun _=>C.out⟩ ?_;refine zO 3 ⟨trivial,fun _=>C.out⟩ ?_;refine zO 4 ⟨trivial,fun _=>C.out⟩ ?_;refine yY 5 ⟨trivial,fun _=>C.out⟩ ?_;refine zO 6 ⟨trivial,fun _=>C.out⟩ ?_;refine zO 7 ⟨trivial,fun _=>C.out⟩ ?_;refine zO 8 ⟨trivial,fun _=>C.out⟩ ?_;refine zO 9 ⟨trivial,fun _=>C.out⟩ ?_;refine yY 10 ⟨trivial,fun _=>C.out⟩ ?_;refine zO 11 ⟨trivial,fun _=>C.out⟩ ?_;refine zO 12 ⟨trivial,fun _=>C.out⟩ ?_;refine yY 13 ⟨trivial,fun _=>C.out⟩ ?_;refine zO 14 ⟨trivial,fun _=>C.out⟩ ?_;refine oneG (i:=15) (by kernel_rfl) rfl (fun K hK=>?_);go_simp;have h7:=heap_alloc_new w7 (.cells #[Value.string a9,Value.string wi] 180);have h8:=Ga w7 (.cells #[Value.string a9,Value.string wi] 180) none;obtain⟨gR,r6⟩:=Nm w7.heap.size;obtain⟨w9,r1⟩:=Nm (w7.alloc (.cells #[Value.string a9,Value.string wi] 180));rw[<-r6]at h7⊢;rw[<-r1]at h7 h8⊢;have h0:Hid (BoxS B X1 o 156 w0 w (⟨B,22,.slice sE m cE,m,h3,1⟩::⟨B,3,.slice sP m cP,m,ints pre,1⟩::⟨B,3,.slice sL m cL,m,ints a7,1⟩::⟨B,22,.slice sR d cR,d,h2,1⟩::⟨B,180,.slice sU u cU,u,us,2⟩::⟨B,9,.slice (some ⟨wb,0,none⟩) m cW,m,xD ws,1⟩::⟨B,3,.slice sB m cB,m,ints a5,1⟩::⟨B,3,.slice sS s cS,s,nats a8,1⟩::⟨B,22,.slice sG k cG,k,a6,1⟩::tl) #[.int .i64 (n:Int),.bool true,.slice sG k cG,.slice sE m cE,.slice sP m cP,.slice sL m cL,.slice sR d cR,.slice sU u cU,.int .i64 (d:Int),.map (some mb),.slice (some ⟨wb,0,none⟩) m cW,.slice sB m cB,.slice sS s cS] w9):=Kh (s4.out.grow h8);have C9:=Kh (s5.out w9 (zC H7.out h8));refine hK.out _ _ ⟨trivial,fun _=>C9.out⟩ ?_;clear hK K C r6 r1 h8
 try simp only[Act.put,sPa,sPb,sPc]
 have r3:=h0.out.own (r:=⟨B,180,.slice sU u cU,u,us,2⟩) (by simp);have H8:=Nat.le_trans h0.out.base h0.out.wk;refine oneG (i:=16) (by kernel_rfl) rfl (fun K hK=>?_);refine qC rfl (.tmp 123) (.tmp 133) 104 rfl lB B (.slice sU u cU) u us rfl r3 [.string a9,.string wi] gR rfl (0,0) rfl h7 ?z1 ?z2 ?z3 H8 ?_
 case z1=>intro v hv;simp only[List.mem_cons,List.not_mem_nil,or_false]at hv;rcases hv with rfl|rfl<;>rfl
 case z2=>unfold maxLen;omega
 case z3=>show (u+1)*32<=140737488355328;omega
 intro sN cN wM h4 H4 r4;have h5:Hid (BoxS B X1 o 156 w0 w (⟨B,22,.slice sE m cE,m,h3,1⟩::⟨B,3,.slice sP m cP,m,ints pre,1⟩::⟨B,3,.slice sL m cL,m,ints a7,1⟩::⟨B,22,.slice sR d cR,d,h2,1⟩::⟨B,180,.slice sN (u+1) cN,u+1,us++[.string a9,.string wi],2⟩::⟨B,9,.slice (some ⟨wb,0,none⟩) m cW,m,xD ws,1⟩::⟨B,3,.slice sB m cB,m,ints a5,1⟩::⟨B,3,.slice sS s cS,s,nats a8,1⟩::⟨B,22,.slice sG k cG,k,a6,1⟩::tl) #[.int .i64 (n:Int),.bool true,.slice sG k cG,.slice sE m cE,.slice sP m cP,.slice sL m cL,.slice sR d cR,.slice sU u cU,.int .i64 (d:Int),.map (some mb),.slice (some ⟨wb,0,none⟩) m cW,.slice sB m cB,.slice sS s cS] wM):=Kh (h0.out.appAt (j:=4) rfl h4 H4 r4);have h1:(Value.slice sU u cU).ownBlock≠some wb:=fun e=>zV (h0.out.own (r:=⟨B,180,.slice sU u cU,u,us,2⟩) (by simp)) (Classical.choose_spec (Classical.choose_spec (Arr.of_owns (h0.out.own (r:=⟨B,9,.slice (some ⟨wb,0,none⟩) m cW,m,xD ws,1⟩) (by simp))))).1 (by show (180:Nat)≠9;decide) e
 have CM:Hid (wM.cell? ⟨o,7,none⟩=some (.slice sU u cU)/\wM.cell? ⟨o,10,none⟩=some (.slice (some ⟨wb,0,none⟩) m cW)/\wM.cell? ⟨wb,i,none⟩=some (.string wi)):=Kh (by
  have hb:=h5.out.box;have q7:=zH hb 7;have q10:=zH hb 10;simp only[List.getElem_toArray,List.getElem_cons_zero,List.getElem_cons_succ]at q7 q10
  exact⟨q7,q10,(World.cell?_of_block (H4.block wb (World.block_lt_of_cell? _ _ C9.out.2.2) (fun e=>h1 e.symm))).trans C9.out.2.2⟩)
 refine hK.out _ _ ⟨trivial,fun _=>CM.out⟩ ?_;clear hK K C9 h0 s4 h4 H4 r4 h7 r3 H8 h1
 try simp only[Act.put,sPa,sPb,sPc]
 refine zO 17 ⟨trivial,fun _=>CM.out⟩ ?_;refine zO 18 ⟨trivial,fun _=>CM.out⟩ ?_;refine zO 19 ⟨trivial,fun _=>CM.out⟩ ?_;refine oneG (i:=20) (by kernel_rfl) rfl (fun K hK=>?_);have q7:=zH h5.out.box 7;simp only[List.getElem_toArray,List.getElem_cons_zero,List.getElem_cons_succ]at q7;have f7:=zA h5.out.box 7;go_simp;refine hK.out _ _ ⟨trivial,fun h=>by simp at h⟩ ?_;clear hK K q7 f7 CM
 try simp only[Act.put,sPa,sPb,sPc]
 refine tT (by kernel_rfl) ?_ _;refine NoPanic.normal ?_;obtain⟨wZ,h9⟩:=Nm (wM.setCell ⟨o,7,none⟩ (.slice sN (u+1) cN));have HZ:Hid (BoxS B X1 o 156 w0 w (⟨B,22,.slice sE m cE,m,h3,1⟩::⟨B,3,.slice sP m cP,m,ints pre,1⟩::⟨B,3,.slice sL m cL,m,ints a7,1⟩::⟨B,22,.slice sR d cR,d,h2,1⟩::⟨B,180,.slice sN (u+1) cN,u+1,us++[.string a9,.string wi],2⟩::⟨B,9,.slice (some ⟨wb,0,none⟩) m cW,m,xD ws,1⟩::⟨B,3,.slice sB m cB,m,ints a5,1⟩::⟨B,3,.slice sS s cS,s,nats a8,1⟩::⟨B,22,.slice sG k cG,k,a6,1⟩::tl) #[.int .i64 (n:Int),.bool true,.slice sG k cG,.slice sE m cE,.slice sP m cP,.slice sL m cL,.slice sR d cR,.slice sN (u+1) cN,.int .i64 (d:Int),.map (some mb),.slice (some ⟨wb,0,none⟩) m cW,.slice sB m cB,.slice sS s cS] wZ):=Kh (by rw[h9];exact h5.out.set 7 (.slice sN (u+1) cN));rw[<-h9];clear h9 h5;have H9:∀q,X q->X1 q:=fun q hq=>by rw[s3.out];exact .inl hq
 have H3:=(HZ.out.less H9).kept;have h6:=HZ.out.wk;refine e0 _ _ _ _ _ _ _ _ _ _ _ _ _ _ _ _ _ _ _ _  _ ⟨X,mb,u+1,us++[.string a9,.string wi],h3,h2,ws,sE,sP,sL,sR,sN,some ⟨wb,0,none⟩,sB,sS,cE,cP,cL,cR,cN,cW,cB,cS,(HZ.out.less H9).rebase,HE.out.kept H3 h6,HR.out.kept H3 h6,HG.out.kept H3 h6,⟨c,HM.out.of_block (HZ.out.kept mb (by rw[s3.out];exact .inr rfl))⟩,s8,t0,HL.out,t2.out,HW.out,by omega⟩ h6
theorem qRH {Q:Exit->Act->World->Prop}{v0 v1 v2 v3 v4 v5 v7 v8 v9 p8 p9 o0 o1 o2 o3 o4 o5 o6 o7 o8 o9 n0 n1 n2 n3 n4 n5 n6 n7 n8 n9 m0 m1 m2 m3 m4 m5 m6 m7 m8 m9 l0 l1 l2 l3 l4 l5 l6 l7 l8 l9 k0 k1 k2 k3 k4 k5 k6 k7 k8 k9 j0 j1 j2 j3 j4 j5 j6 j7 j8 j9 i0 i1 i2 i3 i4 i5 i6 i7 i8 i9 g0 g1 g2 g3 g4 g5 g6 g7 g8 g9 f0 f1 f2 f3 f4 f5 d8 d9 c0 c1 c2 c3 c4 f6 f8 f9 e0 e1 e2 e3 e4 e5 e6 e7 e8 e9 d0 d1 d2 d3 d4 d5 d6 c5 c6 c7 c8 c9 b0 b1 b2 b3 b4 b5 b6 b7 b8 b9 a0 a1 a2 a3 a4:Value}{w0 w:World}{B o n k m d s ub i:Nat}{sG:Option Addr}{cG:Nat}{a6:List Value}{gs p7 right:List (List Nat)}{pre a7 a5:List Int}{a8:List Nat}{tl:List RowS}{a9:ByteArray}(h:RunS w0 B o n k m d s ub sG cG a6 gs p7 pre a7 right a5 a8 tl w)(hi:i<m)(hm:m<=4000)(p6:ub<=100000)(d7:∀(z107 z108 z109 z110 z111 z112 z113 z114 z115 z116 z117 z118 z119 z120 z121 z122 z123 z124 z125 z126:Value) (w':World),RunS w0 B o n k m d s (ub+1) sG cG a6 gs p7 pre a7 right a5 a8 tl w'->w.heap.size<=w'.heap.size->Q .normal ⟨(v0::v1::v2::v3::v4::v5::(Value.pointer (some ⟨o,0,none⟩))::v7::v8::v9::p8::p9::(Value.string a9)::(Value.int .i64 (i:Int))::o0::o1::o2::o3::o4::o5::o6::o7::o8::o9::n0::n1::n2::n3::n4::n5::n6::n7::n8::n9::m0::m1::m2::m3::m4::m5::m6::m7::m8::m9::l0::l1::l2::l3::l4::l5::l6::l7::l8::l9::k0::k1::k2::k3::k4::k5::k6::k7::k8::k9::j0::j1::j2::j3::j4::j5::j6::j7::j8::j9::i0::i1::i2::i3::i4::i5::i6::i7::i8::i9::g0::g1::g2::g3::g4::g5::g6::g7::g8::g9::f0::f1::f2::f3::f4::f5::d8::d9::c0::c1::c2::c3::c4::z107::z108::z109::z110::z111::z112::z113::z114::z115::z116::z117::z118::z119::z120::z121::z122::z123::z124::z125::z126::c5::c6::c7::c8::c9::b0::b1::b2::b3::b4::b5::b6::b7::b8::b9::a0::a1::a2::a3::a4::[]).toArray,[]⟩ w'):Code.wp Tryz.prog (reg Tryz.f105 21) Q ⟨(v0::v1::v2::v3::v4::v5::(Value.pointer (some ⟨o,0,none⟩))::v7::v8::v9::p8::p9::(Value.string a9)::(Value.int .i64 (i:Int))::o0::o1::o2::o3::o4::o5::o6::o7::o8::o9::n0::n1::n2::n3::n4::n5::n6::n7::n8::n9::m0::m1::m2::m3::m4::m5::m6::m7::m8::m9::l0::l1::l2::l3::l4::l5::l6::l7::l8::l9::k0::k1::k2::k3::k4::k5::k6::k7::k8::k9::j0::j1::j2::j3::j4::j5::j6::j7::j8::j9::i0::i1::i2::i3::i4::i5::i6::i7::i8::i9::g0::g1::g2::g3::g4::g5::g6::g7::g8::g9::f0::f1::f2::f3::f4::f5::d8::d9::c0::c1::c2::c3::c4::f6::f8::f9::e0::e1::e2::e3::e4::e5::e6::e7::e8::e9::d0::d1::d2::d3::d4::d5::d6::c5::c6::c7::c8::c9::b0::b1::b2::b3::b4::b5::b6::b7::b8::b9::a0::a1::a2::a3::a4::[]).toArray,[]⟩ w:=by
 obtain⟨X,mb,u,us,h3,h2,ws,sE,sP,sL,sR,sU,sW,sB,sS,cE,cP,cL,cR,cU,cW,cB,cS,hB,hE,hR,hG,⟨c,hM⟩,r0,r2,hl,p5,hw,hu⟩:=h;have H2:=hB.own (r:=⟨B,9,.slice sW m cW,m,xD ws,1⟩) (by simp);simp only at H2;obtain⟨wb,rfl,r5,p2,q3⟩:=yZ H2 (by omega)
 have H1:o≠mb:=fun e=>by
  obtain⟨es,clock,hb⟩:=hM.obj;have:=hB.box;rw[e,hb]at this;simp at this
 have r1:=hM.lt;have H6:=hB.stand r1 (fun r hr=>uT (es:=#[]) (clock:=0) (hB.mem.own r hr) hM.obj) H1;obtain⟨wi,p0⟩:=Nm (ws.getD i ⟨#[]⟩);have q8:ws.length=m:=hl.2.2.2.1;have q2:∀W:World,w.grownBy W none->W.cell? ⟨wb,i,none⟩=some (.string wi):=fun W hg=>zK (pJ q3 (by rw[p0];simp[xD,List.getElem?_eq_getElem (show i<ws.length by omega),zN (show i<ws.length by omega)])) hg;obtain⟨X1,H5⟩:∃X1:Nat->Prop,X1=fun q=>X q\/q=mb:=⟨_,rfl⟩;rw[<-H5]at H6;have HS:=Kh H6;have q4:=Kh H5
 have q6:Hid (∀W:World,w.grownBy W none->W.cell? ⟨o,7,none⟩=some (.slice sU u cU)/\W.cell? ⟨o,10,none⟩=some (.slice (some ⟨wb,0,none⟩) m cW)/\W.cell? ⟨wb,i,none⟩=some (.string wi)):=Kh (fun W hg=>by
  have hb:=(HS.out.grow hg).box;have q7:=zH hb 7;have q10:=zH hb 10;simp only[List.getElem_toArray,List.getElem_cons_zero,List.getElem_cons_succ]at q7 q10
  exact⟨q7,q10,q2 W hg⟩)
 obtain⟨HE,HR,HG,HM,HL,r4⟩:=K6 hE hR hG hM hl p5;have HW:=Kh hw;have HB:=Kh hB;have r7:(i:Int)<m:=by omega
 have q9:cW<=9223372036854775807:=by unfold maxLen at p2;omega
 have r6:u<=100000:=by omega
 clear hB hE hR hG hM hl p5 hw H6 H5 q2 p0 H2 q3 q8 p2
 conv=>arg 2;whnf
 obtain⟨w7,H0⟩:=Nm w.drew;have q1:w.grownBy w7 none:=by rw[H0];exact zS w none
 have r3:=Kh H0;have H7:=Kh q1;clear H0 q1;refine wp_region_noPanic ?_;refine yM (G:=wH 20 (fun _=>True) (fun W=>W.cell? ⟨o,7,none⟩=some (.slice sU u cU)/\W.cell? ⟨o,10,none⟩=some (.slice (some ⟨wb,0,none⟩) m cW)/\W.cell? ⟨wb,i,none⟩=some (.string wi))) (by kernel_rfl) ?_;rw[<-r3.out];have q5:Hid (BoxS B X1 o 156 w0 w (⟨B,22,.slice sE m cE,m,h3,1⟩::⟨B,3,.slice sP m cP,m,ints pre,1⟩::⟨B,3,.slice sL m cL,m,ints a7,1⟩::⟨B,22,.slice sR d cR,d,h2,1⟩::⟨B,180,.slice sU u cU,u,us,2⟩::⟨B,9,.slice (some ⟨wb,0,none⟩) m cW,m,xD ws,1⟩::⟨B,3,.slice sB m cB,m,ints a5,1⟩::⟨B,3,.slice sS s cS,s,nats a8,1⟩::⟨B,22,.slice sG k cG,k,a6,1⟩::tl) #[.int .i64 (n:Int),.bool true,.slice sG k cG,.slice sE m cE,.slice sP m cP,.slice sL m cL,.slice sR d cR,.slice sU u cU,.int .i64 (d:Int),.map (some mb),.slice (some ⟨wb,0,none⟩) m cW,.slice sB m cB,.slice sS s cS] w7):=Kh (HS.out.grow H7.out);have C:=Kh (q6.out w7 H7.out);refine zO 0 ⟨trivial,fun _=>C.out⟩ ?_;refine zO 1 ⟨trivial,fun _=>C.out⟩ ?_;refine zO 2 ⟨trivial,fun _=>C.out⟩ ?_;refine zO 3 ⟨trivial,fun _=>C.out⟩ ?_;refine zO 4 ⟨trivial,fun _=>C.out⟩ ?_;refine yY 5 ⟨trivial,fun _=>C.out⟩ ?_;refine zO 6 ⟨trivial,fun _=>C.out⟩ ?_;refine zO 7 ⟨trivial,fun _=>C.out⟩ ?_;refine zO 8 ⟨trivial,fun _=>C.out⟩ ?_;refine zO 9 ⟨trivial,fun _=>C.out⟩ ?_;refine yY 10 ⟨trivial,fun _=>C.out⟩ ?_;refine zO 11 ⟨trivial,fun _=>C.out⟩ ?_;refine zO 12 ⟨trivial,fun _=>C.out⟩ ?_;refine yY 13 ⟨trivial,fun _=>C.out⟩ ?_;refine zO 14 ⟨trivial,fun _=>C.out⟩ ?_;refine oneG (i:=15) (by kernel_rfl) rfl (fun K hK=>?_);go_simp;have h7:=heap_alloc_new w7 (.cells #[Value.string a9,Value.string wi] 180);have h8:=Ga w7 (.cells #[Value.string a9,Value.string wi] 180) none;obtain⟨gR,q0⟩:=Nm w7.heap.size;obtain⟨w9,p1⟩:=Nm (w7.alloc (.cells #[Value.string a9,Value.string wi] 180));rw[<-q0]at h7⊢;rw[<-p1]at h7 h8⊢;have h0:Hid (BoxS B X1 o 156 w0 w (⟨B,22,.slice sE m cE,m,h3,1⟩::⟨B,3,.slice sP m cP,m,ints pre,1⟩::⟨B,3,.slice sL m cL,m,ints a7,1⟩::⟨B,22,.slice sR d cR,d,h2,1⟩::⟨B,180,.slice sU u cU,u,us,2⟩::⟨B,9,.slice (some ⟨wb,0,none⟩) m cW,m,xD ws,1⟩::⟨B,3,.slice sB m cB,m,ints a5,1⟩::⟨B,3,.slice sS s cS,s,nats a8,1⟩::⟨B,22,.slice sG k cG,k,a6,1⟩::tl) #[.int .i64 (n:Int),.bool true,.slice sG k cG,.slice sE m cE,.slice sP m cP,.slice sL m cL,.slice sR d cR,.slice sU u cU,.int .i64 (d:Int),.map (some mb),.slice (some ⟨wb,0,none⟩) m cW,.slice sB m cB,.slice sS s cS] w9):=Kh (q5.out.grow h8);have C9:=Kh (q6.out w9 (zC H7.out h8));refine hK.out _ _ ⟨trivial,fun _=>C9.out⟩ ?_;clear hK K C q0 p1 h8
 try simp only[Act.put,sPa,sPb,sPc]
 have p3:=h0.out.own (r:=⟨B,180,.slice sU u cU,u,us,2⟩) (by simp);have H8:=Nat.le_trans h0.out.base h0.out.wk;refine oneG (i:=16) (by kernel_rfl) rfl (fun K hK=>?_);refine qC rfl (.tmp 112) (.tmp 122) 104 rfl lB B (.slice sU u cU) u us rfl p3 [.string a9,.string wi] gR rfl (0,0) rfl h7 ?z1 ?z2 ?z3 H8 ?_
 case z1=>intro v hv;simp only[List.mem_cons,List.not_mem_nil,or_false]at hv;rcases hv with rfl|rfl<;>rfl
 case z2=>unfold maxLen;omega
 case z3=>show (u+1)*32<=140737488355328;omega
 intro sN cN wM h4 H4 p4;have h5:Hid (BoxS B X1 o 156 w0 w (⟨B,22,.slice sE m cE,m,h3,1⟩::⟨B,3,.slice sP m cP,m,ints pre,1⟩::⟨B,3,.slice sL m cL,m,ints a7,1⟩::⟨B,22,.slice sR d cR,d,h2,1⟩::⟨B,180,.slice sN (u+1) cN,u+1,us++[.string a9,.string wi],2⟩::⟨B,9,.slice (some ⟨wb,0,none⟩) m cW,m,xD ws,1⟩::⟨B,3,.slice sB m cB,m,ints a5,1⟩::⟨B,3,.slice sS s cS,s,nats a8,1⟩::⟨B,22,.slice sG k cG,k,a6,1⟩::tl) #[.int .i64 (n:Int),.bool true,.slice sG k cG,.slice sE m cE,.slice sP m cP,.slice sL m cL,.slice sR d cR,.slice sU u cU,.int .i64 (d:Int),.map (some mb),.slice (some ⟨wb,0,none⟩) m cW,.slice sB m cB,.slice sS s cS] wM):=Kh (h0.out.appAt (j:=4) rfl h4 H4 p4);have h1:(Value.slice sU u cU).ownBlock≠some wb:=fun e=>zV (h0.out.own (r:=⟨B,180,.slice sU u cU,u,us,2⟩) (by simp)) (Classical.choose_spec (Classical.choose_spec (Arr.of_owns (h0.out.own (r:=⟨B,9,.slice (some ⟨wb,0,none⟩) m cW,m,xD ws,1⟩) (by simp))))).1 (by show (180:Nat)≠9;decide) e
 have CM:Hid (wM.cell? ⟨o,7,none⟩=some (.slice sU u cU)/\wM.cell? ⟨o,10,none⟩=some (.slice (some ⟨wb,0,none⟩) m cW)/\wM.cell? ⟨wb,i,none⟩=some (.string wi)):=Kh (by
  have hb:=h5.out.box;have q7:=zH hb 7;have q10:=zH hb 10;simp only[List.getElem_toArray,List.getElem_cons_zero,List.getElem_cons_succ]at q7 q10
  exact⟨q7,q10,(World.cell?_of_block (H4.block wb (World.block_lt_of_cell? _ _ C9.out.2.2) (fun e=>h1 e.symm))).trans C9.out.2.2⟩)
 refine hK.out _ _ ⟨trivial,fun _=>CM.out⟩ ?_;clear hK K C9 h0 q5 h4 H4 p4 h7 p3 H8 h1
 try simp only[Act.put,sPa,sPb,sPc]
 refine zO 17 ⟨trivial,fun _=>CM.out⟩ ?_;refine zO 18 ⟨trivial,fun _=>CM.out⟩ ?_;refine zO 19 ⟨trivial,fun _=>CM.out⟩ ?_;refine oneG (i:=20) (by kernel_rfl) rfl (fun K hK=>?_);have q7:=zH h5.out.box 7;simp only[List.getElem_toArray,List.getElem_cons_zero,List.getElem_cons_succ]at q7;have f7:=zA h5.out.box 7;go_simp;refine hK.out _ _ ⟨trivial,fun h=>by simp at h⟩ ?_;clear hK K q7 f7 CM
 try simp only[Act.put,sPa,sPb,sPc]
 refine tT (by kernel_rfl) ?_ _;refine NoPanic.normal ?_;obtain⟨wZ,h9⟩:=Nm (wM.setCell ⟨o,7,none⟩ (.slice sN (u+1) cN));have HZ:Hid (BoxS B X1 o 156 w0 w (⟨B,22,.slice sE m cE,m,h3,1⟩::⟨B,3,.slice sP m cP,m,ints pre,1⟩::⟨B,3,.slice sL m cL,m,ints a7,1⟩::⟨B,22,.slice sR d cR,d,h2,1⟩::⟨B,180,.slice sN (u+1) cN,u+1,us++[.string a9,.string wi],2⟩::⟨B,9,.slice (some ⟨wb,0,none⟩) m cW,m,xD ws,1⟩::⟨B,3,.slice sB m cB,m,ints a5,1⟩::⟨B,3,.slice sS s cS,s,nats a8,1⟩::⟨B,22,.slice sG k cG,k,a6,1⟩::tl) #[.int .i64 (n:Int),.bool true,.slice sG k cG,.slice sE m cE,.slice sP m cP,.slice sL m cL,.slice sR d cR,.slice sN (u+1) cN,.int .i64 (d:Int),.map (some mb),.slice (some ⟨wb,0,none⟩) m cW,.slice sB m cB,.slice sS s cS] wZ):=Kh (by rw[h9];exact h5.out.set 7 (.slice sN (u+1) cN));rw[<-h9];clear h9 h5;have H9:∀q,X q->X1 q:=fun q hq=>by rw[q4.out];exact .inl hq
 have H3:=(HZ.out.less H9).kept;have h6:=HZ.out.wk;refine d7 _ _ _ _ _ _ _ _ _ _ _ _ _ _ _ _ _ _ _ _  _ ⟨X,mb,u+1,us++[.string a9,.string wi],h3,h2,ws,sE,sP,sL,sR,sN,some ⟨wb,0,none⟩,sB,sS,cE,cP,cL,cR,cN,cW,cB,cS,(HZ.out.less H9).rebase,HE.out.kept H3 h6,HR.out.kept H3 h6,HG.out.kept H3 h6,⟨c,HM.out.of_block (HZ.out.kept mb (by rw[q4.out];exact .inr rfl))⟩,r0,r2,HL.out,r4.out,HW.out,by omega⟩ h6
theorem qAN {x:Nat}(h:x<26):(Go.Utf8.encode (97+(x:Int))).size=1:=by
 have h1:Go.Utf8.valid (97+(x:Int))=true:=by
  unfold Go.Utf8.valid;simp;omega
 unfold Go.Utf8.encode;simp only[h1,if_true];rw[if_pos (by omega)];rfl
theorem qFN (W:World)(r:Int):(convert 21 9 (.int .i32 r)).run Tryz.prog W=.ok (.string (Go.Utf8.encode r)) W:=by
 have hd:Tryz.prog.underlying 9=some .string:=Tryz.underlying9;have h0:Tryz.prog.underlying 21=some (.int .i32):=Tryz.underlying21;simp[convert,run_underlying h0,run_underlying hd,Conv.intToString]
theorem aO {X:Nat->Prop}{w:World}{hs:List Value}{ts:List (List Nat)}{n:Nat}(h:xU X 3 nats w hs ts){i:Nat}(hi:i<ts.length)(hn:(ts.getD i []).length=n)(h1:1<=n):∃b off cap,hs[i]?=some (.slice (some ⟨b,off,none⟩) n cap)/\n<=cap/\cap<=maxLen/\Row w.heap.size w (.slice (some ⟨b,off,none⟩) n cap) (nats (ts.getD i [])):=by
 obtain⟨b,off,cap,h2,h3,h4,_⟩:=dZ h (j:=0) hi (by omega);rw[hn]at h2 h3;have h0:i<hs.length:=by rw[h.1];exact hi
 have h5:=(h.2 i h0 hi).row;rw[List.getElem?_eq_getElem h0]at h2;rw[Oj h2,show ts[i]=ts.getD i [] from (zN hi).symm]at h5;exact⟨b,off,cap,by rw[List.getElem?_eq_getElem h0];exact h2,h3,h4,h5⟩
theorem qJQ {w0 w:World}{B o n k m d ub:Nat}{sG:Option Addr}{cG:Nat}{a3:List Value}{gs a2 right:List (List Nat)}{pre a1 b9:List Int}{a4:List Nat}(h:RunS w0 B o n k m d k ub sG cG a3 gs a2 pre a1 right b9 a4 ([]) w)(hp:PEn gs n k d m a2 pre a1 right b9 a4)(hd:d<m)(b8:∀g∈gs,IsT n g)(h1:1<=n)(a0:n<=32)(b5:1<=k)(b6:k<=6)(b7:ub<=20000):Calls Tryz.prog 107 #[.pointer (some ⟨o,0,none⟩)] w fun e w'=>(e=.returned (.int .i64 3)/\mE gs (yO gs n k) n/\w0.grownBy w' none)\/∃(m':Nat) (els':List (List Nat)) (pre' las' beh':List Int) (row:List Nat),e=.returned (.int .i64 0)/\RunS w0 B o n k m' (d+1) k (ub+6) sG cG a3 gs els' pre' las' (right++[row]) beh' a4 ([]) w'/\PEn gs n k (d+1) m' els' pre' las' (right++[row]) beh' a4/\w0.grownBy w' none:=by
 have n2:=hp.mle;have j6:=h;obtain⟨X0,mb,u,us,H2,H0,ws,sE,sP,sL,sR,sU,sW,sB,sS,cE,cP,cL,cR,cU,cW,cB,cS,hB,hE,hR,hG,⟨c,hM⟩,d0,d1,hl,h8,hw,hu⟩:=h;have q8:=zH hB.box 8;simp only[List.getElem_toArray,List.getElem_cons_zero,List.getElem_cons_succ]at q8;have q2:=zH hB.box 2;simp only[List.getElem_toArray,List.getElem_cons_zero,List.getElem_cons_succ]at q2;have H8:=hB.own (r:=⟨B,22,.slice sG k cG,k,a3,1⟩) (by simp);simp only at H8;obtain⟨gb,rfl,q7,j8,_⟩:=yZ H8 (by omega);have j9:gs.length=k:=hl.2.2.2.2.2.2.2;have n1:cG<=9223372036854775807:=by unfold maxLen at j8;omega
 obtain⟨HH,HP,p6,l6⟩:=K4 j6 hp b8 j9;clear hB hE hR hG hM hl h8 hw j6 hp b8 H8 j9 j8 d0 d1 hu;clear ws us H2 H0 sE sP sL sR sU sW sB sS cE cP cL cR cU cW cB cS c u mb X0;go_enter Tryz.func107,Tryz.ntmps107;go_upto_region 3 with (first|(at_make;refine bJ rfl _ _ _ rfl yH rfl .i64 .i64 _ _ k rfl rfl rfl rfl ?b1 ?b2 ?_;(case b1=>omega);(case b2=>(unfold maxLen;omega));intro w2 H3 f9 e9)|fail);have h6:=HH.out.addRow f9 H3 (by decide);obtain⟨rb,i9⟩:=Nm w.heap.size;rw[<-i9]at h6⊢;rw[show List.replicate k (Value.int .i64 0)=nats (rowN k []) by rw[qJJ,yN]]at h6;have l4:=Kh h6;have q2b:w2.cell? ⟨o,2,none⟩=some (.slice (some ⟨gb,0,none⟩) k cG):=zK q2 f9;clear h6 H3 f9 e9 i9 q2 q8;go_wp2
 go_loopg [5,6,7,8,9,10,29] k (fun gh a5 a6 a7 a8 a9 a10 i wr=>∃(x mx ubx:Nat) (elx:List (List Nat)) (prx lax:List Int) (rox:List Nat) (bex:List Int),gh+x=k/\i=.int .i64 x/\ubx<=ub+x/\PRow gs n k d m a2 pre a1 x mx elx prx lax rox bex/\RunS w0 B o n k mx d k ubx (some ⟨gb,0,none⟩) cG a3 gs elx prx lax right bex a4 (⟨B,3,.slice (some ⟨rb,0,none⟩) k k,k,nats (rowN k rox),1⟩::[]) wr)
 case atStart=>exact⟨0,m,ub,a2,pre,a1,[],b9,rfl,rfl,by omega,HP.out.start,l4.out⟩
 clear l4 q2b HH;obtain⟨x,mx,ubx,elx,prx,lax,rox,bex,f6,rfl,m5,h3,c0⟩:=hrel;obtain⟨H1,h5,h6⟩:=K3 f6 h3 c0;have r0:=h3.ge;have j4:=h3.mle;obtain⟨X,mb,u,us,H2,H0,ws,sE,sP,sL,sR,sU,sW,sB,sS,cE,cP,cL,cR,cU,cW,cB,cS,hB,hE,hR,hG,⟨c,hM⟩,d0,d1,hl,h8,hw,hu⟩:=c0;have f5:=hB.grown;by_cases hx:x<k
 ·have m1:(x:Int)<k:=by omega
  have b3:=h3.rx.1;have d3:IsT n (gs.getD x []):=p6.out _ (uW (by rw[l6.out];exact hx));have d5:IsT n (elx.getD d []):=h8 _ (uW (by rw[hl.1];omega));obtain⟨b1,o1,c1,i7,r7,n4,j2⟩:=aO hG (i:=x) (by rw[l6.out];exact hx) d3.1 h1;obtain⟨b2,o2,c2,i6,r6,n3,j1⟩:=aO hE (i:=d) (by rw[hl.1];omega) d5.1 h1;have H8:=hB.own (r:=⟨B,22,.slice (some ⟨gb,0,none⟩) k cG,k,a3,1⟩) (by simp);have e6:=hB.own (r:=⟨B,22,.slice sE mx cE,mx,H2,1⟩) (by simp);have e5:=hB.own (r:=⟨B,9,.slice sW mx cW,mx,xD ws,1⟩) (by simp);have e7:=hB.own (r:=⟨B,3,.slice sB mx cB,mx,ints bex,1⟩) (by simp);simp only at H8 e6 e5 e7;obtain⟨eb,rfl,r2,k3,k7⟩:=yZ e6 (by omega);obtain⟨wb,rfl,q4,i5,k6⟩:=yZ e5 (by omega);obtain⟨bb,rfl,r8,k5,k8⟩:=yZ e7 (by omega);have cg:=pJ (Arr.of_owns H8) i7;have ce:=pJ k7 i6;obtain⟨wd,e1⟩:=Nm (ws.getD d ⟨#[]⟩);have m2:ws.length=mx:=hl.2.2.2.1;have cw:=pJ k6 (show (xD ws)[d]?=some (.string wd) by rw[e1];simp[xD,List.getElem?_eq_getElem (show d<ws.length by omega),zN (show d<ws.length by omega)]);obtain⟨bd,g2⟩:=Nm (bex.getD d 0);have cb:=qEK k8 (i:=d) (by rw[hl.2.2.2.2.1];omega);rw[<-g2]at cb;have q0:wd.size<=d:=by rw[e1];exact hw d
  have hT:IsT n (wT (a2.getD d []) (gs.getD x [])):=(by rw[<-h3.get (by rw[HP.out.len];exact hd)];exact iG d5 d3);have e0:=Kh (qBV wr.heap.size wr.heap.size wr _ _ _ _ n (Nat.le_refl _) (Nat.le_refl _) j1 j2 d5 d3 h1 a0);rw[h3.get (by rw[HP.out.len];exact hd)]at e0;obtain⟨fT,g1⟩:=Nm (wT (a2.getD d []) (gs.getD x []));rw[<-g1]at e0 hT;have q3:=zH hB.box 3;have q9:=zH hB.box 9;have q10:=zH hB.box 10;have q11:=zH hB.box 11;simp only[List.getElem_toArray,List.getElem_cons_zero,List.getElem_cons_succ]at q3 q9 q10 q11;have r4:(d:Int)<mx:=(by omega);have n0:cE<=9223372036854775807:=by unfold maxLen at k3;omega
  have m9:cW<=9223372036854775807:=by unfold maxLen at i5;omega
  have m8:cB<=9223372036854775807:=by unfold maxLen at k5;omega
  obtain⟨c8,HT,HM,l9,g8⟩:=K5 g1 hT hM g2 hl;obtain⟨wo,rfl⟩:=Nm (wr:World);have i1:Hid (∀W:World,wo.grownBy W none->W.cell? ⟨o,9,none⟩=some (.map (some mb))):=Kh (fun W hg=>zK q9 hg);have l8:Hid (∀W:World,wo.grownBy W none->W.cell? ⟨o,3,none⟩=some (.slice (some ⟨eb,0,none⟩) mx cE)/\W.cell? ⟨o,10,none⟩=some (.slice (some ⟨wb,0,none⟩) mx cW)/\W.cell? ⟨o,11,none⟩=some (.slice (some ⟨bb,0,none⟩) mx cB)/\W.cell? ⟨wb,d,none⟩=some (.string wd)/\W.cell? ⟨bb,d,none⟩=some (.int .i64 bd)):=Kh (fun W hg=>⟨zK q3 hg,zK q10 hg,zK q11 hg,zK cw hg,zK cb hg⟩);clear hB hE hR hG hM hl h8 hw H8 e6 e5 e7 k7 k6 k8 i7 i6 j2 j1 f6 h3 e1 m2 g2 g1 hT d3 d5 n4 n3 k3 i5 k5 q9 q10 q11 cw cb d0 d1 hu;go_wp2_with fail;refine e0.out.mono ?_;rintro e w5 ⟨g5,rfl,f0,h7,k2⟩;rw[show (fT).length=n from HT.out.1];have p9:=Kh h7;have l7:=Kh k2;have b4:Row w5.heap.size w5 (.slice (some ⟨g5,0,none⟩) n n) (nats fT):=(RowX.of_new (X:=fun _=>True) h7 HT.out.1 (Nat.le_refl _) (by unfold maxLen;omega) trivial).row;have l2:Hid (∀W:World,w5.grownBy W none->Calls Tryz.prog 139 #[.slice (some ⟨g5,0,none⟩) n n] W fun e w'=>e=.returned (.string (txtT fT))/\W.grownBy w' none):=Kh (fun W hgW=>eI w5.heap.size W _ fT n hgW.size (b4.kept hgW (by simp)) HT.out h1 a0);clear e0 h7 k2 b4 cg ce q3;go_upto_region 7 with fail;obtain⟨w7,e3⟩:=Nm w5.drew;have k1:w5.grownBy w7 none:=(by rw[e3];exact zS w5 none);have p2:=Kh e3;have d9:=Kh k1;clear e3 k1;refine wp_region_noPanic ?_;refine yM (G:=wH 99 (fun W=>W.cell? ⟨o,9,none⟩=some (.map (some mb))) (fun _=>True)) (by kernel_rfl) ?_;rw[<-p2.out];have C:=Kh (i1.out w7 (zC l7.out d9.out));refine zO 0 ⟨C.out,fun _=>trivial⟩ ?_;refine zO 1 ⟨C.out,fun _=>trivial⟩ ?_;refine zO 2 ⟨C.out,fun _=>trivial⟩ ?_;refine zO 3 ⟨C.out,fun _=>trivial⟩ ?_;refine zO 4 ⟨C.out,fun _=>trivial⟩ ?_;refine oneG (i:=5) (by kernel_rfl) rfl (fun K hK=>?_);go_simp
  go_at_call 139
  refine(l2.out w7 d9.out).mono ?_;rintro e w8 ⟨rfl,f7⟩;have H9:=zC l7.out (zC d9.out f7);have C8:=Kh (i1.out w8 H9);have c6:=zC d9.out f7;have c7:=Kh H9;have i0:=Kh c6;refine hK.out _ _ ⟨C8.out,fun _=>trivial⟩ ?_;clear hK K C f7 H9 l2 c6
  try simp only[Act.put,sPa,sPb,sPc]
  have j7:=(HM.out.kept c7.out (by simp)).lookup (aE a0) (x:=fT) HT.out;obtain⟨ic,f4⟩:=Nm ((numE elx fT).getD 0);obtain⟨kn,f2⟩:=Nm ((numE elx fT).isSome);rw[<-f4,<-f2]at j7;have g9:=Kh f4;have d8:=Kh f2;clear f4 f2;refine oneG (i:=6) (by kernel_rfl) rfl (fun K hK=>?_);go_simp;refine hK.out _ _ ⟨C8.out,fun _=>trivial⟩ ?_;clear hK K j7
  try simp only[Act.put,sPa,sPb,sPc]
  refine zO 7 ⟨C8.out,fun _=>trivial⟩ ?_;refine zO 8 ⟨C8.out,fun _=>trivial⟩ ?_;refine zO 9 ⟨C8.out,fun _=>trivial⟩ ?_;refine zO 10 ⟨C8.out,fun _=>trivial⟩ ?_;refine zO 11 ⟨C8.out,fun _=>trivial⟩ ?_;refine tT (by kernel_rfl) ?_ _;refine NoPanic.normal ?_;obtain⟨s3,s10,s11,sw,sb⟩:=l8.out w8 c7.out;have h0:=Kh (h6.out.grow c7.out);obtain⟨lw,e8⟩:=Nm (wd++Go.Utf8.encode (97+(x:Int)));have q5:lw.size<=d+1:=by rw[e8,ByteArray.size_append,qAN (by omega)];omega
  have l5:=Kh e8;obtain⟨ex,d4⟩:=Nm (Go.Utf8.encode (97+(x:Int)));rw[<-d4]at l5;have r5:∀W:World,(convert 21 9 (.int .i32 (97+(x:Int)))).run Tryz.prog W=.ok (.string ex) W:=fun W=>by rw[d4];exact qFN W (97+(x:Int))
  have m4:IntKind.i32.wrap (97+(x:Int))=97+(x:Int):=by unfold IntKind.wrap;simp[IntKind.bits,IntKind.signed];omega
  have q6:wd++ex=lw:=l5.out.symm;have r1:ex.size=1:=by rw[d4];exact qAN (by omega)
  clear C8 i1 l8 HM e8 d4;by_cases hin:fT∈elx
  ·have o5:kn=true:=by rw[d8.out,numE,if_pos hin];rfl
   have h8:ic=elx.idxOf fT:=by rw[g9.out,numE,if_pos hin];rfl
   subst o5;have f3:ic<mx:=(by rw[h8,<-g8.out.1];exact List.idxOf_lt_length_of_mem hin);have h2:=h5.out.known (by rw[HP.out.len];exact hd) (by rw[<-c8.out];exact hin);rw[<-c8.out,<-h8]at h2;have h4:=Kh h2;clear h8 h2 g9 d8;go_upto_region 8 with fail;go_upto_region 9 with fail;have b3:=h5.out.rx.1;by_cases hwe:wd.toList=[]
   ·go_upto_region 15 with fail
    have e4:=h0.out.arr.nat x (by rw[nD (by omega)];exact hx);have b4:=h0.out.arr.frozen x;go_wp2;go_roundg (k-(x+1))
    case measure=>have:=H1.out;omega
    refine⟨x+1,mx,ubx,elx,prx,lax,rox++[ic],bex,by have:=H1.out;omega,by go_num,by omega,h4.out,?_⟩;have h9:=h0.out.put (i:=x) hx (.int .i64 ((ic:Nat):Int));rw[lX,fH b3 hx]at h9;exact h9
   have m3:wd.toList.isEmpty=false:=by rw[List.isEmpty_eq_false_iff];exact hwe
   have H5:=h5.out.after HP.out hd hx;rw[<-l9.out]at H5;have l3:=Kh (aZ h0.out bd x H5.1 (by omega) (by omega));clear H5;go_wp2_with fail;refine l3.out.mono ?_;rintro e w9 ⟨bq,rfl,rfl⟩;clear l3;cases bq with
   | false =>
    go_upto_region 15 with fail;have e4:=h0.out.arr.nat x (by rw[nD (by omega)];exact hx);have b4:=h0.out.arr.frozen x;go_wp2;go_roundg (k-(x+1))
    case measure=>have:=H1.out;omega
    refine⟨x+1,mx,ubx,elx,prx,lax,rox++[ic],bex,by have:=H1.out;omega,by go_num,by omega,h4.out,?_⟩;have h9:=h0.out.put (i:=x) hx (.int .i64 ((ic:Nat):Int));rw[lX,fH b3 hx]at h9;exact h9
   | true =>
    go_upto_region 14 with fail;refine qRC h0.out f3 (by omega) (by omega) ?_;intro z118 z119 z120 z121 z122 z123 z124 z125 z126 z127 z128 z129 z130 z131 z132 z133 z134 z135 z136 z137 w9 j0 m7;have g7:=Kh j0;clear j0 s3 s10 s11 sw sb;have e4:=g7.out.arr.nat x (by rw[nD (by omega)];exact hx);have b4:=g7.out.arr.frozen x;go_wp2;go_roundg (k-(x+1))
    case measure=>have:=H1.out;omega
    refine⟨x+1,mx,(ubx+1),elx,prx,lax,rox++[ic],bex,by have:=H1.out;omega,by go_num,by omega,h4.out,?_⟩;have h9:=g7.out.put (i:=x) hx (.int .i64 ((ic:Nat):Int));rw[lX,fH b3 hx]at h9;exact h9
  have o6:kn=false:=by rw[d8.out,numE,if_neg hin];rfl
  subst o6;have b3:=h5.out.rx.1;clear g9 d8;by_cases hfull:mx=2000
  ·have p8:=Kh (h5.out.full HP.out hd (by omega) hfull)
   have o7:((mx:Int) == 2000)=true:=by simp[hfull]
   have p7:=Kh (zC f5 c7.out);clear hfull;go_wp2;go_ret;exact .inl ⟨rfl,p8.out,p7.out⟩
  have o7:((mx:Int) == 2000)=false:=by rw[beq_eq_false_iff_ne];omega
  have H5:=h5.out.after HP.out hd hx;rw[<-l9.out]at H5;have i2:=Kh (cZ h0.out bd x H5.1);obtain⟨ba,k4⟩:=Nm (lI a4 right bd x);rw[<-k4]at i2 H5;have o8:ba<mx:=(by omega);have h2:=h5.out.new (x:=x) (by rw[HP.out.len];exact hd) (by rw[<-c8.out];exact hin) (by omega) (by rw[<-c8.out];exact HT.out) o8;rw[<-c8.out]at h2;have h4:=Kh h2;have m0:=Kh (qAB h6.out c7.out (Nat.le_refl n) (by unfold maxLen;omega) (p9.out.kept i0.out (by simp)) f0 HT.out hin h1 a0 (by omega) (d:Int) (x:Int) (ba:Int) lw (by omega));clear H5 k4 h2;go_wp2_with fail;refine i2.out.mono ?_;rintro e w9 ⟨rfl,rfl⟩;go_wp2_with fail;refine m0.out.mono ?_;rintro e w10 ⟨rfl,c3,g0⟩;have b0:=Kh c3;clear c3 g0 s3 s10 s11 sw sb i2 m0;have e4:=b0.out.arr.nat x (by rw[nD (by omega)];exact hx);have b4:=b0.out.arr.frozen x;go_wp2;go_roundg (k-(x+1))
  case measure=>have:=H1.out;omega
  refine⟨x+1,(mx+1),ubx,(elx++[fT]),(prx++[(d:Int)]),(lax++[(x:Int)]),rox++[mx],(bex++[(ba:Int)]),by have:=H1.out;omega,by go_num,by omega,h4.out,?_⟩;have h9:=b0.out.put (i:=x) hx (.int .i64 ((mx:Nat):Int));rw[lX,fH b3 hx]at h9;exact h9
 have i4:x=k:=by have:=H1.out;omega
 have m6:u<=ub+6:=by omega
 have m1:¬(x:Int)<k:=(by omega);have H6:Hid (PRow gs n k d m a2 pre a1 k mx elx prx lax rox bex):=Kh (by have h9:=h5.out;rw[i4]at h9;exact h9);have i8:rowN k rox=rox:=qJK H6.out.rx.1;rw[i8]at hB;have l0:RowX (fun q=>X q\/(Value.slice (some ⟨rb,0,none⟩) k k).ownBlock=some q) 3 wr (.slice (some ⟨rb,0,none⟩) k k) (nats rox):=RowX.of_owns (hB.own (r:=⟨B,3,.slice (some ⟨rb,0,none⟩) k k,k,nats rox,1⟩) (by simp)) (fun q hq=>.inr hq);have g4:=BoxS.retire (rs:=(⟨B,22,.slice sE mx cE,mx,H2,1⟩::⟨B,3,.slice sP mx cP,mx,ints prx,1⟩::⟨B,3,.slice sL mx cL,mx,ints lax,1⟩::⟨B,22,.slice sR d cR,d,H0,1⟩::⟨B,180,.slice sU u cU,u,us,2⟩::⟨B,9,.slice sW mx cW,mx,xD ws,1⟩::⟨B,3,.slice sB mx cB,mx,ints bex,1⟩::⟨B,3,.slice sS k cS,k,nats a4,1⟩::⟨B,22,.slice (some ⟨gb,0,none⟩) k cG,k,a3,1⟩::[])) (r:=⟨B,3,.slice (some ⟨rb,0,none⟩) k k,k,nats rox,1⟩) hB
 have c5:o≠mb:=fun e=>by
  obtain⟨es,clock,hb⟩:=hM.obj;have:=hB.box;rw[e,hb]at this;simp at this
 have g3:=g4.stand hM.lt (fun r hr=>uT (es:=#[]) (clock:=0) (g4.mem.own r hr) hM.obj) c5;obtain⟨X1,d6⟩:∃X1:Nat->Prop,X1=fun q=>(X q\/(Value.slice (some ⟨rb,0,none⟩) k k).ownBlock=some q)\/q=mb:=⟨_,rfl⟩;rw[<-d6]at g3;have HS:=Kh g3;have l1:Hid (∀q,(X q\/(Value.slice (some ⟨rb,0,none⟩) k k).ownBlock=some q)->X1 q):=Kh (fun q hq=>by rw[d6];exact .inl hq);have H4:X1 mb:=by rw[d6];exact .inr rfl
 have k9:¬(X mb\/(Value.slice (some ⟨rb,0,none⟩) k k).ownBlock=some mb):=fun e=>by
  rcases e with e|e
  ·exact d0 e
  exact uT (es:=#[]) (clock:=0) (hB.own (r:=⟨B,3,.slice (some ⟨rb,0,none⟩) k k,k,nats rox,1⟩) (by simp)) hM.obj e
 have HE:=Kh (hE.mono (X':=fun q=>X q\/(Value.slice (some ⟨rb,0,none⟩) k k).ownBlock=some q) (fun q hq=>.inl hq));have HR:=Kh (hR.mono (X':=fun q=>X q\/(Value.slice (some ⟨rb,0,none⟩) k k).ownBlock=some q) (fun q hq=>.inl hq));have HG:=Kh (hG.mono (X':=fun q=>X q\/(Value.slice (some ⟨rb,0,none⟩) k k).ownBlock=some q) (fun q hq=>.inl hq));obtain⟨p3,HM,g8,p5,HW,p0⟩:=K6 l0 hM hl h8 hw H4;have p4:=Kh k9;clear hB hE hR hG hM hl h8 hw g4 g3 d6 l0 h3 f6 H4 k9 c5 i8 i4;go_upto_region 17 with fail;have q1:=zH HS.out.box 6;simp only[List.getElem_toArray,List.getElem_cons_zero,List.getElem_cons_succ]at q1;have j3:=HS.out.own (r:=⟨B,22,.slice sR d cR,d,H0,1⟩) (by simp);have i3:=Nat.le_trans HS.out.base HS.out.wk;go_upto_region 18 with (first|(at_builtin;refine qR rfl _ _ _ rfl wG.toN B (.slice sR d cR) (d) (H0) rfl j3 [.slice (some ⟨rb,0,none⟩) k k] rfl rfl ?z1 ?z2 ?z3 ?z4 ?_;(case z1=>(intro v hv;simp only[List.mem_cons,List.not_mem_nil,or_false]at hv;(first|(subst hv;rfl)|(rcases hv with rfl|rfl<;>rfl))));(case z2=>(unfold maxLen;omega));(case z3=>(show (d+1)*24<=140737488355328;omega));(case z4=>exact i3);intro sN1 cN1 wM1 c4 k0 j5;(have d7:Hid (BoxS B X1 o 156 w0 wr (⟨B,22,.slice sE mx cE,mx,H2,1⟩::⟨B,3,.slice sP mx cP,mx,ints prx,1⟩::⟨B,3,.slice sL mx cL,mx,ints lax,1⟩::⟨B,22,.slice sN1 (d+1) cN1,d+1,H0++[.slice (some ⟨rb,0,none⟩) k k],1⟩::⟨B,180,.slice sU u cU,u,us,2⟩::⟨B,9,.slice sW mx cW,mx,xD ws,1⟩::⟨B,3,.slice sB mx cB,mx,ints bex,1⟩::⟨B,3,.slice sS k cS,k,nats a4,1⟩::⟨B,22,.slice (some ⟨gb,0,none⟩) k cG,k,a3,1⟩::[]) #[.int .i64 (n:Int),.bool true,.slice (some ⟨gb,0,none⟩) k cG,.slice sE mx cE,.slice sP mx cP,.slice sL mx cL,.slice sR d cR,.slice sU u cU,.int .i64 (d:Int),.map (some mb),.slice sW mx cW,.slice sB mx cB,.slice sS k cS] wM1):=Kh (HS.out.appAt (j:=3) rfl c4 k0 j5));(have p1:=zH d7.out.box 6);simp only[List.getElem_toArray,List.getElem_cons_zero,List.getElem_cons_succ]at p1;(have f1:=zA d7.out.box 6);clear c4 k0 j5)|fail);obtain⟨wZ1,H7⟩:=Nm (wM1.setCell ⟨o,6,none⟩ (.slice sN1 (d+1) cN1));have g6:Hid (BoxS B X1 o 156 w0 wr (⟨B,22,.slice sE mx cE,mx,H2,1⟩::⟨B,3,.slice sP mx cP,mx,ints prx,1⟩::⟨B,3,.slice sL mx cL,mx,ints lax,1⟩::⟨B,22,.slice sN1 (d+1) cN1,d+1,H0++[.slice (some ⟨rb,0,none⟩) k k],1⟩::⟨B,180,.slice sU u cU,u,us,2⟩::⟨B,9,.slice sW mx cW,mx,xD ws,1⟩::⟨B,3,.slice sB mx cB,mx,ints bex,1⟩::⟨B,3,.slice sS k cS,k,nats a4,1⟩::⟨B,22,.slice (some ⟨gb,0,none⟩) k cG,k,a3,1⟩::[]) #[.int .i64 (n:Int),.bool true,.slice (some ⟨gb,0,none⟩) k cG,.slice sE mx cE,.slice sP mx cP,.slice sL mx cL,.slice sN1 (d+1) cN1,.slice sU u cU,.int .i64 (d:Int),.map (some mb),.slice sW mx cW,.slice sB mx cB,.slice sS k cS] wZ1):=Kh (by rw[H7];exact d7.out.set 6 (.slice sN1 (d+1) cN1));rw[<-H7];clear H7 q1 j3 i3 d7 p1 f1;have q8:=zH g6.out.box 8;simp only[List.getElem_toArray,List.getElem_cons_zero,List.getElem_cons_succ]at q8;have f8:=zA g6.out.box 8;have r3:(d:Int)+1<=4000:=by omega
 go_wp2;obtain⟨wY,e2⟩:=Nm (wZ1.setCell ⟨o,8,none⟩ (.int .i64 ((d+1:Nat):Int)));have HY:Hid (BoxS B X1 o 156 w0 wr (⟨B,22,.slice sE mx cE,mx,H2,1⟩::⟨B,3,.slice sP mx cP,mx,ints prx,1⟩::⟨B,3,.slice sL mx cL,mx,ints lax,1⟩::⟨B,22,.slice sN1 (d+1) cN1,d+1,H0++[.slice (some ⟨rb,0,none⟩) k k],1⟩::⟨B,180,.slice sU u cU,u,us,2⟩::⟨B,9,.slice sW mx cW,mx,xD ws,1⟩::⟨B,3,.slice sB mx cB,mx,ints bex,1⟩::⟨B,3,.slice sS k cS,k,nats a4,1⟩::⟨B,22,.slice (some ⟨gb,0,none⟩) k cG,k,a3,1⟩::[]) #[.int .i64 (n:Int),.bool true,.slice (some ⟨gb,0,none⟩) k cG,.slice sE mx cE,.slice sP mx cP,.slice sL mx cL,.slice sN1 (d+1) cN1,.slice sU u cU,.int .i64 ((d+1:Nat):Int),.map (some mb),.slice sW mx cW,.slice sB mx cB,.slice sS k cS] wY):=Kh (by rw[e2];exact g6.out.set 8 (.int .i64 ((d+1:Nat):Int)));rw[show wZ1.setCell ⟨o,8,none⟩ (.int .i64 ((d:Int)+1))=wY by rw[e2];rfl];clear e2 q8 f8;go_ret;have d2:=(HY.out.less l1.out).kept;have c9:=HY.out.wk;have o9:=(HR.out.kept d2 c9).snoc (p3.out.kept d2 c9);obtain⟨o4,o3,o0,n9,n8,n7,n6,n5⟩:=g8.out;exact .inr ⟨rfl,mx,elx,prx,lax,bex,rox,⟨_,mb,u,us,H2,H0++[.slice (some ⟨rb,0,none⟩) k k],ws,sE,sP,sL,sN1,sU,sW,sB,sS,cE,cP,cL,cN1,cU,cW,cB,cS,(HY.out.less l1.out).rebase,HE.out.kept d2 c9,o9,HG.out.kept d2 c9,⟨c,HM.out.of_block (HY.out.kept mb p0.out)⟩,p4.out,d1,⟨o4,o3,o0,n9,n8,by simp[n7],n6,n5⟩,p5.out,HW.out,m6⟩,H6.out.done HP.out hd,HY.out.grown⟩
end Go.Proofs.YtobakifdllameaaGreat
