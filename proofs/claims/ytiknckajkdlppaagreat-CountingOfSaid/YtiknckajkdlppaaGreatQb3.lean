/- Part 3 of the proof. -/
import Derived.Test.YtiknckajkdlppaaGreatQb2
import Derived.Shelf.Slices.Turned
import Derived.Shelf.Slices.Equal
import Derived.Ground.Names2Prog
import Derived.Shelf.Slices.Clone
import Derived.Shelf.Slices.Empties2
import Derived.Ground.SlgnProg
import Derived.Shelf.SlicesE.Equal
import Derived.Ground.SlgfProg
import Derived.Shelf.SlicesE.IndexFunc
import Derived.Shelf.SlicesE.DeleteFunc
import Derived.Test.YtiknckajkdlppaaGreatProg
import Derived.Lib.OwnBridge
import Derived.Deep.RegionHeld3
import Derived.BigQuiet
import Derived.Deep.DeepCutAuto
import Derived.Deep.CutBlock
import Derived.OrdersHeld
set_option linter.unusedVariables false
set_option linter.unusedSimpArgs false
set_option maxRecDepth 100000
set_option maxHeartbeats 16000000
namespace Go.Proofs
open Go.Shelf
def Tryz.lays111_ren:Go.Shelf.Ren:=⟨fun|111=>47|n=>n,fun|28=>22|3=>3|4=>4|0=>0|n=>n,fun|n=>n⟩
theorem Tryz.lays111:Go.Proofs.Lays.n111 Tryz.prog Tryz.lays111_ren:={
 mixed:=by kernel_rfl
 f111:=Tryz.func47.trans (congrArg some (by kernel_rfl))
 t0:=Tryz.underlying0
 a0:=Tryz.isAgg0
 z0:=Tryz.sizeOf0
 v0:=Tryz.zeroValue0
 t3:=Tryz.underlying3
 a3:=Tryz.isAgg3
 z3:=Tryz.sizeOf3
 v3:=Tryz.zeroValue3
 t4:=Tryz.underlying4
 a4:=Tryz.isAgg4
 z4:=Tryz.sizeOf4
 v4:=Tryz.zeroValue4
 t28:=Tryz.underlying22
 a28:=Tryz.isAgg22
 z28:=Tryz.sizeOf22
 v28:=Tryz.zeroValue22 }
open Go.RowKit Go.Lib in
theorem Tryz.slices_Equal_int (b1 o1 n c b2 o2 m d:Nat)(xs ys:List Int)(w:World)(hx:n<=xs.length)(hy:m<=ys.length)(a8:n<=9223372036854775807)(a9:m<=9223372036854775807)(a6:∀j,j<xs.length->w.cell? ⟨b1,o1+j,none⟩=some (.int .i64 (xs.getD j 0)))(a7:∀j,j<ys.length->w.cell? ⟨b2,o2+j,none⟩=some (.int .i64 (ys.getD j 0))):
  Calls Tryz.prog 47 #[.slice (some ⟨b1,o1,none⟩) n c,.slice (some ⟨b2,o2,none⟩) m d] w fun e w'=>e=.returned (.bool (xs.take n == ys.take m))/\∃q,w'=w.drewN q:=Any.slices_Equal_int Tryz.lays111 b1 o1 n c b2 o2 m d xs ys w hx hy a8 a9 a6 a7
def Tryz.lays193_ren:Go.Shelf.Ren:=⟨fun|193=>48|n=>n,fun|31=>37|9=>9|4=>4|3=>3|0=>0|n=>n,fun|n=>n⟩
theorem Tryz.lays193:Go.Proofs.Lays.n193 Tryz.prog Tryz.lays193_ren:={
 mixed:=by kernel_rfl
 f193:=Tryz.func48.trans (congrArg some (by kernel_rfl))
 t0:=Tryz.underlying0
 a0:=Tryz.isAgg0
 z0:=Tryz.sizeOf0
 v0:=Tryz.zeroValue0
 t3:=Tryz.underlying3
 a3:=Tryz.isAgg3
 z3:=Tryz.sizeOf3
 v3:=Tryz.zeroValue3
 t4:=Tryz.underlying4
 a4:=Tryz.isAgg4
 z4:=Tryz.sizeOf4
 v4:=Tryz.zeroValue4
 t9:=Tryz.underlying9
 a9:=Tryz.isAgg9
 z9:=Tryz.sizeOf9
 v9:=Tryz.zeroValue9
 t31:=Tryz.underlying37
 a31:=Tryz.isAgg37
 z31:=Tryz.sizeOf37
 v31:=Tryz.zeroValue37 }
open Go.RowKit Go.Lib in
theorem Tryz.slices_Equal_string (b1 o1 n c b2 o2 m d:Nat)(xs ys:List ByteArray)(w:World)(hx:n<=xs.length)(hy:m<=ys.length)(a8:n<=9223372036854775807)(a9:m<=9223372036854775807)(a6:∀j,j<xs.length->w.cell? ⟨b1,o1+j,none⟩=some (.string (xs.getD j ByteArray.empty)))(a7:∀j,j<ys.length->w.cell? ⟨b2,o2+j,none⟩=some (.string (ys.getD j ByteArray.empty))):
  Calls Tryz.prog 48 #[.slice (some ⟨b1,o1,none⟩) n c,.slice (some ⟨b2,o2,none⟩) m d] w fun e w'=>e=.returned (.bool (decide (xs.take n=ys.take m)))/\∃q,w'=w.drewN q:=Any.slices_Equal_string Tryz.lays193 b1 o1 n c b2 o2 m d xs ys w hx hy a8 a9 a6 a7
def Tryz.laysNm215_ren:Go.Shelf.Ren:=⟨fun|15=>83|n=>n,fun|22=>22|3=>3|4=>4|n=>n,fun|n=>n⟩
theorem Tryz.laysNm215:Go.Proofs.Lays2.n15 Tryz.prog Tryz.laysNm215_ren:={
 mixed:=by kernel_rfl
 f15:=Tryz.func83.trans (congrArg some (by kernel_rfl))
 t3:=Tryz.underlying3
 a3:=Tryz.isAgg3
 z3:=Tryz.sizeOf3
 v3:=Tryz.zeroValue3
 t4:=Tryz.underlying4
 a4:=Tryz.isAgg4
 z4:=Tryz.sizeOf4
 v4:=Tryz.zeroValue4
 t22:=Tryz.underlying22
 a22:=Tryz.isAgg22
 z22:=Tryz.sizeOf22
 v22:=Tryz.zeroValue22
 i3:=by kernel_rfl }
open Go.RowKit Go.Lib in
theorem Tryz.slices_Clone_int (b off n c:Nat)(zs:List Int)(w:World)(hz:n<=zs.length)(a9:n*8<=140737488355328)(hc:∀j,j<zs.length->w.cell? ⟨b,off+j,none⟩=some (.int .i64 (zs.getD j 0))):
  Calls Tryz.prog 83 #[.slice (some ⟨b,off,none⟩) n c] w fun e w'=>∃v',e=.returned v'/\w'.ownsRow w.heap.size 3 1 v' n ((zs.take n).map (Value.int .i64))/\v'≠.slice none 0 0/\Below w.heap.size w w':=Any.slices_Clone_int Tryz.laysNm215 b off n c zs w hz a9 hc
open Go.RowKit Go.Lib in
theorem Tryz.slices_Equal_int_lens (a1 a2:Option Addr)(n c m d:Nat)(w:World)(a9:n≠m):
  Calls Tryz.prog 47 #[.slice a1 n c,.slice a2 m d] w fun e w'=>e=.returned (.bool false)/\w'=w:=Any.slices_Equal_int_lens Tryz.lays111 a1 a2 n c m d w a9
open Go.RowKit Go.Lib in
theorem Tryz.slices_Equal_string_lens (a1 a2:Option Addr)(n c m d:Nat)(w:World)(a9:n≠m):
  Calls Tryz.prog 48 #[.slice a1 n c,.slice a2 m d] w fun e w'=>e=.returned (.bool false)/\w'=w:=Any.slices_Equal_string_lens Tryz.lays193 a1 a2 n c m d w a9
def Tryz.laysSlE33_f49_ren:Go.Shelf.Ren:=⟨fun|33=>49|n=>n,fun|22=>26|23=>4|4=>4|3=>3|0=>0|n=>n,fun|n=>n⟩
theorem Tryz.laysSlE33_f49:Go.Proofs.SlLaysE.n33 Tryz.prog Tryz.laysSlE33_f49_ren:={
 mixed:=by kernel_rfl
 f33:=⟨Tryz.f49.name,by decide,Tryz.func49.trans (congrArg some (by kernel_rfl))⟩
 t0:=Tryz.underlying0
 a0:=Tryz.isAgg0
 z0:=Tryz.sizeOf0
 v0:=Tryz.zeroValue0
 t3:=Tryz.underlying3
 a3:=Tryz.isAgg3
 z3:=Tryz.sizeOf3
 v3:=Tryz.zeroValue3
 t4:=Tryz.underlying4
 a4:=Tryz.isAgg4
 z4:=Tryz.sizeOf4
 v4:=Tryz.zeroValue4
 t22:=Tryz.underlying26
 a22:=Tryz.isAgg26
 z22:=Tryz.sizeOf26
 v22:=Tryz.zeroValue26
 a23:=Tryz.isAgg4
 z23:=Tryz.sizeOf4 }
open Go.RowKit Go.Lib in
theorem Tryz.slices_Equal_f49 {α:Type}[Inhabited α](enc:α->Value)(eq:α->α->Bool)(a7:NeqAt Tryz.prog 4 enc eq)(b1 o1 n c b2 o2 m d:Nat)(xs ys:List α)(w:World)(hx:n<=xs.length)(hy:m<=ys.length)(a8:n<=9223372036854775807)(a9:m<=9223372036854775807)(a5:∀j,j<xs.length->w.cell? ⟨b1,o1+j,none⟩=some (enc xs[j]!))(a6:∀j,j<ys.length->w.cell? ⟨b2,o2+j,none⟩=some (enc ys[j]!)):
  Calls Tryz.prog 49 #[.slice (some ⟨b1,o1,none⟩) n c,.slice (some ⟨b2,o2,none⟩) m d] w fun e w'=>e=.returned (.bool (Lib.allEq eq (xs.take n) (ys.take m)))/\∃q,w'=w.drewN q:=AnyE.slices_Equal Tryz.laysSlE33_f49 enc eq a7 b1 o1 n c b2 o2 m d xs ys w hx hy a8 a9 a5 a6
def Tryz.laysSlH10_f89_ren:Go.Shelf.Ren:=⟨fun|10=>89|6=>100|n=>n,fun|22=>22|23=>3|25=>68|3=>3|4=>4|0=>0|n=>n,fun|n=>n⟩
theorem Tryz.laysSlH10_f89:Go.Proofs.SlLaysH.n10 Tryz.prog Tryz.laysSlH10_f89_ren:={
 mixed:=by kernel_rfl
 f6:=⟨Tryz.f100.name,by decide,Tryz.func100.trans (congrArg some (by kernel_rfl))⟩
 f10:=⟨Tryz.f89.name,by decide,Tryz.func89.trans (congrArg some (by kernel_rfl))⟩
 t0:=Tryz.underlying0
 a0:=Tryz.isAgg0
 z0:=Tryz.sizeOf0
 v0:=Tryz.zeroValue0
 t3:=Tryz.underlying3
 a3:=Tryz.isAgg3
 z3:=Tryz.sizeOf3
 v3:=Tryz.zeroValue3
 t4:=Tryz.underlying4
 a4:=Tryz.isAgg4
 z4:=Tryz.sizeOf4
 v4:=Tryz.zeroValue4
 t22:=Tryz.underlying22
 a22:=Tryz.isAgg22
 z22:=Tryz.sizeOf22
 v22:=Tryz.zeroValue22
 a23:=Tryz.isAgg3
 z23:=Tryz.sizeOf3
 t25:=Tryz.underlying68
 a25:=Tryz.isAgg68
 z25:=Tryz.sizeOf68
 v25:=Tryz.zeroValue68 }
open Go.RowKit Go.Lib Go.Sort in
theorem Tryz.slices_DeleteFunc {α:Type}[Inhabited α](enc:α->Value)(hO:OneCell enc)(p:α->Bool)(g:Nat)(lb:Array Value)(eg:∀args w,(callFunc g args).run Tryz.prog w=.ok (.enter g args) w)(zr:α)(a8:∀w,(zeroValue 3).run Tryz.prog w=.ok (enc zr) w)(blk off cap:Nat)(d:Array α)(w:World)(hp:PredAt Tryz.prog g lb enc p w)(a6:PredOver Tryz.prog g lb enc p blk off d.size w)(hH:Holds enc w blk off d)(a7:d.size<=9223372036854775807)(a9:d.size<=cap):
  Calls Tryz.prog 89 #[.slice (some ⟨blk,off,none⟩) d.size cap,.func (.func g) #[] lb] w fun e w'=>e=.returned (.slice (some ⟨blk,off,none⟩) (d.toList.filter fun x=>!p x).length cap)/\∃q,w'=putRow enc (Sort.ahead w q) blk off ((d.toList.filter fun x=>!p x)++List.replicate (d.size-(d.toList.filter fun x=>!p x).length) zr).toArray:=AnyE.slices_DeleteFunc Tryz.laysSlH10_f89 enc hO p g lb eg zr a8 blk off cap d w hp a6 hH a7 a9
end Go.Proofs
namespace Go.Proofs.YtiknckajkdlppaaGreat
open Go.RowKit
variable{x n k fb fo fc g B' base i j a9:Nat}{p q m l:List Nat}{a a':Act}{xs:List Value}{w':World}{d:DfaV}{v:Value}{oi o:Oper}{listed:Array Bool}
def cenB (t:List (List Int))(x:Nat):Bool:=(List.range t.length).all fun y=>entN t x y == entN t y x
def nH (t:List (List Int)):Bool:=(List.range t.length).all (cenB t)
theorem qFQ {t:List (List Int)}{y:Nat}(hy:y<t.length)(h:entN t x y≠entN t y x):cenB t x=false:=by
 rw[<-Bool.not_eq_true,cenB,List.all_eq_true];intro ha;exact h (by simpa using ha y (List.mem_range.2 hy))
def qPN (t:List (List Int))(x k:Nat):Prop:=∀y,y<k->entN t x y=entN t y x
theorem qCF {t:List (List Int)}(h:qPN t x t.length):cenB t x=true:=by
 rw[cenB,List.all_eq_true];intro y hy;simpa using h y (List.mem_range.1 hy)
theorem qHF (p:Fin n->Bool):((List.finRange n).filter p).length=n↔∀x,p x=true:=by
 have h1:(List.finRange n).length=n:=List.length_finRange;constructor
 ·intro h x
  have h2:=(List.length_filter_eq_length_iff (p:=p) (l:=List.finRange n)).1 (by rw[h,h1]);exact h2 x (List.mem_finRange x)
 intro h;rw[List.filter_eq_self.2 (fun a _=>h a),h1]
structure CenAt (K:Nat)(W:World)(cb pb:Nat)(t:List (List Int))(b off cap:Nat)(RB RO RC:Nat->Nat):Prop where
 box:W.cell? ⟨pb,0,none⟩=some (.slice (some ⟨b,off,none⟩) t.length cap)
 clo:W.cell? ⟨cb,0,none⟩=some (.func (.func 74) #[] #[.pointer (some ⟨pb,0,none⟩)])
 hd:∀x,x<t.length->W.cell? ⟨b,off+x,none⟩=some (.slice (some ⟨RB x,RO x,none⟩) t.length (RC x))
 lt:cb<K/\pb<K/\b<K/\∀x,x<t.length->RB x<K
 el:∀x y,x<t.length->y<t.length->W.cell? ⟨RB x,RO x+y,none⟩=some (.int .i64 (entN t x y))
section
variable {K:Nat} {W W':World} {cb pb:Nat} {t:List (List Int)} {b off cap:Nat} {RB RO RC:Nat->Nat}
theorem CenAt.mono (h:CenAt K W cb pb t b off cap RB RO RC)(hk:∀p u,p.block<K->W.cell? p=some u->W'.cell? p=some u):CenAt K W' cb pb t b off cap RB RO RC :=
 ⟨hk _ _ h.lt.2.1 h.box,hk _ _ h.lt.1 h.clo,fun x hx=>hk _ _ h.lt.2.2.1 (h.hd x hx),h.lt,fun x y hx hy=>hk _ _ (h.lt.2.2.2 x hx) (h.el x y hx hy)⟩
theorem qEC (w:World)(h:CenAt K w cb pb t b off cap RB RO RC)(a8:t.length<=cap)(a7:cap<=9223372036854775807)(a9:∀x,x<t.length->t.length<=RC x/\RC x<=9223372036854775807)(x:Nat)(hx:x<t.length):Calls Tryz.prog 74 #[.int .i64 (x:Int),.pointer (some ⟨pb,0,none⟩)] w fun r w'=>r=.returned (.bool (cenB t x))/\∃m,w'=w.drewN m:=by
 have HQ:=Kh h;have h6:=Kh a9;have hp:=h.box;have ce:=h.hd x hx;have H6:(x:Int)<t.length:=yo
 have h0:=a9 x hx;have H3:=h0.1;have H2:=h0.2;clear h a9 h0;go_enter Tryz.func74,Tryz.ntmps74;go_wp2
 go_loopg [4,7] t.length (fun g a4 i wr=>∃k m:Nat,g+k=t.length/\i=.int .i64 k/\qPN t x k/\wr=w.drewN m)
 case atStart=>exact⟨0,0,rfl,rfl,fun x hx=>absurd hx yo,rfl⟩
 obtain⟨y,m,hg,rfl,h4,rfl⟩:=hrel;have HG:=Kh hg;have OK:=Kh h4;clear hg h4;by_cases hy:y<t.length
 ·have H5:(y:Int)<t.length:=yo
  have cy:=HQ.out.hd y hy;have cxy:=HQ.out.el x y hx hy;have cyx:=HQ.out.el y x hy hx;have H0:=(h6.out y hy).1;have h9:=(h6.out y hy).2;obtain⟨p,h3⟩:=Nm (entN t x y);obtain⟨q,h2⟩:=Nm (entN t y x);rw[<-h3]at cxy;rw[<-h2]at cyx;have h8:=Kh h3;have h7:=Kh h2;clear h3 h2;by_cases h1:p=q
  ·have e1:((p:Int) != (q:Int))=false:=by rw[h1];simp
   have H1:=Kh h1;clear h1;go_wp2
   first|(go_quiet (fail);go_wp2)|skip
   go_roundg (t.length-(y+1))
   case measure=>have:=HG.out;omega
   refine⟨y+1,_,yo,by go_num,fun z hz=>?_,rfl⟩;rcases Nat.lt_succ_iff_lt_or_eq.1 hz with hz|rfl
   ·exact OK.out z hz
   rw[<-h8.out,<-h7.out];exact H1.out
  have e1:((p:Int) != (q:Int))=true:=by rw[bne_iff_ne];omega
  have H1:=Kh h1;clear h1;go_wp2
  first|(go_quiet (fail);go_wp2)|skip
  go_ret;exact⟨yQ (qFQ hy (by rw[<-h8.out,<-h7.out];exact H1.out)).symm,_,World.drewN_drewN _ _ _⟩
 have h5:y=t.length:=by have:=HG.out;omega
 have H4:=Kh h5;clear h5;go_wp2;go_ret;exact⟨yQ (qCF (by rw[<-H4.out];exact OK.out)).symm,_,rfl⟩
theorem qEB (w:World)(h:CenAt K w cb pb t b off cap RB RO RC)(a9:t.length<=cap)(a7:cap<=9223372036854775807)(a8:∀x,x<t.length->t.length<=RC x/\RC x<=9223372036854775807)(x:Nat)(hx:x<t.length):Calls Tryz.prog 91 #[.int .i64 (x:Int),.pointer (some ⟨cb,0,none⟩)] w fun r w'=>r=.returned (.bool (!cenB t x))/\∃m,w'=w.drewN m:=by
 have HC:=Kh (qEC w h a9 a7 a8 x hx);have h0:=h.clo;have eg:∀args w,(callFunc 74 args).run Tryz.prog w=.ok (.enter 74 args) w:=enters_of Tryz.func74 yk rfl;obtain⟨c,hc⟩:=Nm (cenB t x);rw[<-hc]at HC⊢;clear h a8 hc;go_enter Tryz.func91,Tryz.ntmps91;go_wp2_with (first|(go_at_fn 74;refine HC.out.mono ?_;rintro e w1 ⟨rfl,m,rfl⟩)|fail);go_ret;exact⟨rfl,m,rfl⟩
end
open Go.Lib Go.Sort Go.Shelf in
theorem qHR (B : Nat)(w : World)(pb b off cap : Nat)(RB RO RC : Nat → Nat)(t : List (List Int))(hB : B ≤ w.heap.size)(hq : Sq B w t b off RB RO RC)(hM : Mat B w (.slice (some ⟨b, off, none⟩) t.length cap) t)(hs : Shape t)(hv : qD t = 0)(a9 : t.length ≤ cap)(a8 : cap ≤ 9223372036854775807)(hp : w.cell? ⟨pb, 0, none⟩ = some (.slice (some ⟨b, off, none⟩) t.length cap)): Calls Tryz.prog 73 #[.slice (some ⟨b, off, none⟩) t.length cap, .func (.func 74) #[] #[.pointer (some ⟨pb, 0, none⟩)]] w fun e w' => (∃ sa sc m, e = .returned (.slice sa m sc) ∧ (m = t.length ↔ nH t = true)) ∧ w.grownBy w' none := by
 have hn := hs.pos
 have hn4 := hs.le
 have hpb : pb < w.heap.size := World.block_lt_of_cell? w _ hp
 obtain⟨w1,hw1⟩:=Nm (w.alloc (.cells #[.func (.func 74) #[] #[.pointer (some ⟨pb, 0, none⟩)]] 68))
 have hg1 : w.grownBy w1 none := by rw [hw1]; exact Ga w _ none
 have hb1 := heap_alloc_new w (.cells #[.func (.func 74) #[] #[.pointer (some ⟨pb, 0, none⟩)]] 68)
 obtain⟨cb,hcb⟩:=Nm w.heap.size
 rw [← hw1, ← hcb] at hb1
 have hcl := zJ hb1 0
 simp only [List.getElem_toArray, List.getElem_cons_zero] at hcl
 have hcb1 : cb < w1.heap.size := zS hb1
 have hC : CenAt w1.heap.size w1 cb pb t b off cap RB RO RC := ⟨zN hp hg1, hcl, fun x hx => zN (hq.hd x hx) hg1, ⟨hcb1, by have := hg1.size; omega, by have := hg1.size; have := hq.ltw; omega, fun x hx => by have := hg1.size; have := (hq.ltr x hx).2; omega⟩, fun x y hx hy => zN (hq.el x y hx hy) hg1⟩
 have hrc : ∀ x, x < t.length → t.length ≤ RC x ∧ RC x ≤ 9223372036854775807 := fun x hx => ⟨(hq.cap x hx).1, by have := (hq.cap x hx).2; unfold maxLen at this; exact this⟩
 have HC := Kh hC; have HRC := Kh hrc; have HG1 := Kh hg1; have HW1 := Kh hw1; have HCB := Kh hcb
 have HV := Kh (qAC B w1 _ t (Nat.le_trans hB hg1.size) (hM.kept hg1 yq))
 rw [show (qD t == 0) = true by rw [hv]; rfl] at HV
 obtain⟨n,hN⟩:=Nm t.length
 have HN := Kh hN
 rw [← hN] at a9 hn hn4 HV ⊢
 clear hq hM hs hv hp hpb hw1 hg1 hb1 hcb hcl hcb1 hC hrc hN
 go_enter Tryz.func73, Tryz.ntmps73
 go_upto_region 1 with fail
 rw [← HW1.out, ← HCB.out]
 go_wp2_with fail
 refine HV.out.mono ?_
 rintro e w2 ⟨rfl, hg2⟩
 have HEL := Kh (qBU w2 (some ⟨b, off, none⟩) n cap hn4)
 have HG2 := Kh hg2
 clear hg2 HV
 go_wp2_with fail
 refine HEL.out.mono ?_
 rintro e w3 ⟨rfl, harr, hg3⟩
 obtain⟨g,hg⟩:=Nm w2.heap.size
 rw [← hg] at harr ⊢
 have HDF : Hid (Calls Tryz.prog 89 #[.slice (some ⟨g, 0, none⟩) n n, .func (.func 91) #[] #[.pointer (some ⟨cb, 0, none⟩)]] w3 fun e w' => (∃ m, e = .returned (.slice (some ⟨g, 0, none⟩) m n) ∧ (m = n ↔ nH t = true)) ∧ w2.grownBy w' none) := Kh (by
  have hC3 : CenAt w1.heap.size w3 cb pb t b off cap RB RO RC := HC.out.mono (fun p u _ hu => zN hu (zE HG2.out hg3))
  haveI : Inhabited (Fin n) := ⟨⟨0, by omega⟩⟩
  have hK : w1.heap.size ≤ g := by rw [hg]; exact HG2.out.size
  have hgl : g < w3.heap.size := harr.lt
  have hdl : ((List.finRange n).toArray).size = n := by simp
  have hpred : ∀ (W : World), CenAt w1.heap.size W cb pb t b off cap RB RO RC → ∀ x : Fin n, FnGives Tryz.prog 91 #[.pointer (some ⟨cb, 0, none⟩)] #[.int .i64 ((x.val : Nat) : Int)] (.bool (!cenB t x.val)) W := fun W hW x => qEB W hW (by rw [← HN.out]; exact a9) a8 HRC.out x.val (by rw [← HN.out]; exact x.isLt)
  have := Tryz.slices_DeleteFunc (fun x : Fin n => Value.int .i64 ((x.val : Nat) : Int)) (fun _ => rfl) (fun x => !cenB t x.val) 91 #[.pointer (some ⟨cb, 0, none⟩)] (enters_of Tryz.func91 yk rfl) ⟨0, by omega⟩ Tryz.zeroValue3 g 0 n (List.finRange n).toArray w3
   (fun W x hb => hpred W (hC3.mono (fun p u hp hu => (hb.cell yo).trans hu)) x)
   (fun m os dk x hdk => hpred _ (hC3.mono (fun p u hp hu => by
    unfold sortWorld
    rw [cell?_grow _ _ _ (by show p.block < (putRow _ _ _ _ _).heap.size; rw [size_putRow]; show p.block < w3.heap.size; omega), cell?_putRow_other _ _ g _ _ _ (Or.inl yo)]
    exact hu)) x)
   (fun j hj => by
    have hj' : j < n := by rw [hdl] at hj; exact hj
    have h1 := harr.nat j (by simpa using hj')
    refine ⟨?_, harr.frozen _⟩
    rw [Nat.zero_add, h1, getElem!_pos _ j hj, zQ (show j < (List.range n).length by simpa using hj')]
    simp only [List.getElem_range, List.getElem_toArray, List.getElem_finRange]
    rfl)
   (by rw [hdl]; omega) (by rw [hdl]; exact Nat.le_refl _)
  rw [hdl] at this
  refine this.mono fun e w' ⟨h1, q, h2⟩ => ⟨⟨_, h1, ?_⟩, ?_⟩
  ·have hf : (List.filter (fun x : Fin n => !!cenB t x.val) (List.finRange n).toArray.toList) = (List.finRange n).filter (fun x : Fin n => cenB t x.val) := by simp
   rw [hf, qHF, nH, List.all_eq_true, ← HN.out]
   exact ⟨fun h x hx => h ⟨x, List.mem_range.1 hx⟩, fun h x => h x.val (List.mem_range.2 x.isLt)⟩
  ·have hb3 : Below w2.heap.size w2 w3 := ⟨hg3.os, hg3.tape, hg3.output, hg3.size, fun j hj => hg3.block j hj yq⟩
   rw [h2]
   exact kG (below_putRow hb3 (by rw [hg]; exact Nat.le_refl _)))
 have HG12 := Kh (zE HG1.out HG2.out)
 clear harr hg3 hg HEL HC HRC
 go_wp2_with fail
 refine HDF.out.mono ?_
 rintro e w4 ⟨⟨m, rfl, hm⟩, hg4⟩
 have HM := Kh hm; have HG4 := Kh (zE HG12.out hg4)
 clear hm hg4
 go_wp2
 go_ret
 exact ⟨⟨_, _, m, rfl, HM.out⟩, HG4.out⟩
theorem qHS (B:Nat)(w:World)(v:Value)(t:List (List Int))(hB:B<=w.heap.size)(hM:Mat B w v t)(hs:Shape t)(hv:qD t=0):Calls Tryz.prog 51 #[v] w fun e w'=>(∃sa sc m,e=.returned (.slice sa m sc)/\(m=t.length↔nH t=true))/\w.grownBy w' none:=by
 obtain⟨b,off,cap,RB,RO,RC,rfl,h8,h4,hq⟩:=hM.sq hs;obtain⟨w1,h1⟩:=Nm (w.alloc (.cells #[.slice (some ⟨b,off,none⟩) t.length cap] 27));have h0:w.grownBy w1 none:=by rw[h1];exact Ga w _ none
 have h5:=heap_alloc_new w (.cells #[.slice (some ⟨b,off,none⟩) t.length cap] 27);obtain⟨pb,h3⟩:=Nm w.heap.size;rw[<-h1,<-h3]at h5;have h2:=zJ h5 0;simp only[List.getElem_toArray,List.getElem_cons_zero]at h2;have h6:=Kh (qHR B w1 pb b off cap RB RO RC t (Nat.le_trans hB h0.size) (hq.kept h0 yq) (hM.kept h0 yq) hs hv h8 (by unfold maxLen at h4;exact h4) h2);obtain⟨H2,h9,H0⟩:=Kc h0 h1 h3;obtain⟨n,hN⟩:=Nm t.length;rw[<-hN]at h6 h2⊢;have HN:=Kh hN;clear hM hs hv h8 h4 hq h1 h0 h5 h3 hN;go_enter Tryz.func51,Tryz.ntmps51;go_upto_region 1 with fail;rw[HN.out,<-h9.out,<-H0.out];rw[HN.out]at h2 h6;go_wp2_with fail;refine h6.out.mono ?_;rintro e w2 ⟨⟨sa,sc,m,rfl,hm⟩,h7⟩;have HM:=Kh hm;have H1:=Kh (zE H2.out h7);clear hm h7;go_wp2;go_ret;exact⟨⟨sa,sc,m,rfl,by rw[HN.out];exact HM.out⟩,H1.out⟩
theorem qON (B:Nat)(w:World)(v:Value)(t:List (List Int))(hB:B<=w.heap.size)(hM:Mat B w v t)(hs:Shape t)(hv:qD t=0):Calls Tryz.prog 26 #[v] w fun e w'=>e=.returned (.bool (nH t))/\w.grownBy w' none:=by
 obtain⟨a,cap,rfl⟩:=hM.shape;have HV:=Kh (qAC B w _ t hB hM);rw[show (qD t == 0)=true by rw[hv];rfl]at HV;have h0:Hid (∀W:World,w.grownBy W none->Calls Tryz.prog 51 #[.slice a t.length cap] W fun e w'=>(∃sa sc m,e=.returned (.slice sa m sc)/\(m=t.length↔nH t=true))/\W.grownBy w' none):=Kh (fun W hW=>qHS B W _ t (Nat.le_trans hB hW.size) (hM.kept hW yq) hs hv);obtain⟨n,hN⟩:=Nm t.length;obtain⟨c,hc⟩:=Nm (nH t);rw[<-hN]at HV h0⊢;rw[<-hc]at h0⊢;clear hM hs hv hN hc;go_enter Tryz.func26,Tryz.ntmps26;go_wp2_with fail;refine HV.out.mono ?_;rintro e w1 ⟨rfl,h1⟩;have h3:=Kh (h0.out w1 h1);have h5:=Kh h1;clear h1 h0 HV;go_wp2_with fail;refine h3.out.mono ?_;rintro e w2 ⟨⟨sa,sc,m,rfl,hm⟩,h2⟩;have h4:=Kh (zE h5.out h2)
 have e1:((m:Int) == (n:Int))=c:=by
  rw[Bool.eq_iff_iff,<-hm,beq_iff_eq];omega
 clear hm h2 h3;go_wp2;go_ret;exact⟨rfl,h4.out⟩
def eR (p q:List Nat):List Nat:=List.zipWith (fun a b=>a*(p.length+1)+b) p q
theorem mT (h:q.length=p.length):(eR p q).length=p.length:=by simp[eR,h]
theorem qHV :nats (eR p q)=ints (lV p q):=by
 rw[rD];congr 1;simp only[eR,lV,List.map_zipWith];congr 1
theorem qLM (h:q.length=p.length)(hk:k<p.length):(eR p q).getD k 0=p.getD k 0*(p.length+1)+q.getD k 0:=by
 rw[zQ (by rw[mT h];exact hk),zQ hk,zQ yo];simp[eR]
theorem qLN (hp:∀c∈p,c<4194305)(hq:∀c∈q,c<4194305)(hl:p.length<=4194304):∀x∈lV p q,Mid x:=by
 intro x hx;obtain⟨i,hi,rfl⟩:=List.getElem_of_mem hx;simp only[lV,List.getElem_zipWith,qBF];have h1:=hp _ (List.getElem_mem (l:=p) (n:=i) (by simp[lV]at hi;omega));have h2:=hq _ (List.getElem_mem (l:=q) (n:=i) (by simp[lV]at hi;omega))
 generalize p[i]'(by simp[lV]at hi;omega)=a at h1⊢
 generalize q[i]'(by simp[lV]at hi;omega)=b at h2⊢
 have:a*(p.length+1)<=4194304*4194305:=Nat.mul_le_mul yo yo;have e:(a:Int)*((p.length:Int)+1)+b=((a*(p.length+1)+b:Nat):Int):=by push_cast;rfl
 rw[e];constructor<;>omega
theorem qID {a m X b:Nat}(hX:X=a*(m+1))(a9:X<=17592190238720)(hb:b<4194305):wrap64 (wrap64 ((a:Int)*((m:Int)+1))+(b:Int))=((X+b:Nat):Int):=by
 have h0:(a:Int)*((m:Int)+1)=(X:Int):=by rw[hX];push_cast;rfl
 clear hX;rw[h0];have h9:wrap64 (X:Int)=(X:Int):=IntWalk.wrap64_in _ yo;rw[h9,<-Int.natCast_add];exact IntWalk.wrap64_in _ yo
theorem qOV (B C:Nat)(w:World)(va vb:Value)(p q:List Nat)(hB:B<=w.heap.size)(hC:C<=w.heap.size)(ha:Row B w va (nats p))(hb:Row C w vb (nats q))(hl:q.length=p.length)(h0:0<p.length)(hp:∀c∈p,c<4194305)(hq:∀c∈q,c<4194305)(a9:p.length<=4194304):Calls Tryz.prog 59 #[va,vb] w (qEM w (aU p q)):=by
 obtain⟨pb,po,pc,rfl,c0,H1,H0,H9⟩:=ha.some_ (by rw[zV];exact h0);obtain⟨qb,qo,qc,rfl,b8,h5,h9,H8⟩:=hb.some_ (by rw[zV];omega);rw[zV]at H1 h5⊢;rw[zV,hl];rw[hl]at h5;have b3:pc<=9223372036854775807:=jl H0
 have b0:qc<=9223372036854775807:=jl h9
 obtain⟨RA,RB,HL,HP,HQ⟩:=Ke H9 H8 hl hp hq;have H4:=Kh (qLN hp hq a9);clear H9 H8 hl hp hq ha hb;go_enter Tryz.func59,Tryz.ntmps59;go_wp2_with (first|(at_make;refine pL rfl _ _ _ rfl yJ rfl .i64 .i64 _ _ p.length rfl rfl rfl rfl ?b1 ?b2 ?_)|fail)
 case b1=>omega
 case b2=>unfold maxLen;omega
 intro w2 h2 a2 H2;have H7:=Kh h2;have a7:=Kh a2;clear h2 a2;obtain⟨g,hg⟩:=Nm w.heap.size;have H6:=Kh hg;rw[<-hg]at H7 H2 hB hC⊢;clear hg;go_wp2
 go_loopg [6,12] p.length (fun gh a6 i wr=>∃k:Nat,gh+k=p.length/\i=.int .i64 k/\Arr wr g 3 (nats (vO (eR p q) k))/\w.grownBy wr none)
 case atStart=>exact⟨0,rfl,rfl,by rw[tH,mT HL.out,yW];exact H7.out,a7.out⟩
 clear H7 a7;obtain⟨k,hg,rfl,h2,h4⟩:=hrel;obtain⟨HG,HA,H5⟩:=Kc hg h2 h4;have H3:(eR p q).length=p.length:=mT HL.out;clear hg;by_cases hk:k<p.length
 ·have c1:(k:Int)<p.length:=yo
  have ca:=(RA.out.kept h4 yq).nat k hk;have cb:=(RB.out.kept h4 yq).nat k (by rw[HL.out];exact hk);have h3:=tW (l:=eR p q) (k:=k) yo;rw[qLM HL.out hk]at h3;have a8:=qX (i:=k) HP.out yo;have a0:=qX (i:=k) HQ.out yo;have cgk:=h2.nat k (by rw[yZ yo];omega);have fgk:=h2.frozen k;obtain⟨a,ha⟩:=Nm (p.getD k 0);obtain⟨b,hb⟩:=Nm (q.getD k 0);rw[<-ha]at ca h3 a8;rw[<-hb]at cb h3 a0;obtain⟨X,hX⟩:=Nm (a*(p.length+1))
  have b4:X<=17592190238720:=by
   have h8:a*(p.length+1)<=4194304*4194305:=Nat.mul_le_mul yo yo;omega
  rw[<-hX]at h3;have hw:=qID hX b4 a0;have HW:=Kh hw;have HS:=Kh h3;have ca':wr.drew.cell? ⟨pb,po+k,none⟩=some (.int .i64 (a:Int)):=ca;have cb':wr.drew.cell? ⟨qb,qo+k,none⟩=some (.int .i64 (b:Int)):=cb;have b9:pb≠g:=yo;have b7:qb≠g:=yo
  have a5:Hid (∀u,((wr.setCell ⟨g,k,none⟩ u).drew.cell? ⟨pb,po+k,none⟩=some (.int .i64 (a:Int)))):=Kh (fun u=>by
   show (wr.setCell ⟨g,k,none⟩ u).cell? ⟨pb,po+k,none⟩=_
   rw[World.cell?_of_block ((zH wr ⟨g,k,none⟩ u).block pb (by have:=h4.size;have:=H6.out;omega) (by simp;omega))];exact ca)
  have a4:Hid (∀u,((wr.setCell ⟨g,k,none⟩ u).drew.cell? ⟨qb,qo+k,none⟩=some (.int .i64 (b:Int)))):=Kh (fun u=>by
   show (wr.setCell ⟨g,k,none⟩ u).cell? ⟨qb,qo+k,none⟩=_
   rw[World.cell?_of_block ((zH wr ⟨g,k,none⟩ u).block qb (by have:=h4.size;have:=H6.out;omega) (by simp;omega))];exact cb)
  clear ha hb h3 h4 h2 hX hw;go_upto_region 5 with fail
  go_region_held3 (fun w'=>w'.cell? ⟨pb,po+k,none⟩=some (.int .i64 (a:Int))/\w'.cell? ⟨qb,qo+k,none⟩=some (.int .i64 (b:Int))) (first|exact⟨ca',cb'⟩|exact⟨a5.out _,a4.out _⟩|go_keep|fail) (fail)
  all_goals
   clear ca ca' cb cb' a5 a4 cgk fgk;go_wp2;go_roundg (p.length-(k+1))
   case measure=>have:=HG.out;omega
   refine⟨k+1,yo,by go_num,?_,?_⟩
   ·rw[<-HS.out]
    have h1:=HA.out.nat_set k (by rw[yZ yo];omega) (X+b);rw[HW.out];exact h1.of_heap rfl
   exact uG (zE H5.out (zH wr ⟨g,k,none⟩ _) (fun q e=>by have h7:g=q:=Oj e;have:=H6.out;omega)) rfl rfl rfl rfl
 have a1:k=p.length:=by have:=HG.out;omega
 have HE:Hid (vO (eR p q) k=eR p q):=Kh (by rw[a1,<-H3];exact tX _);clear a1 h2;go_wp2_with fail;rw[HE.out]at HA
 have HN:=Kh (cC (g+1) wr (.slice (some ⟨g,0,none⟩) p.length p.length) (lV p q) HA.out.lt (by
  rw[<-qHV]
  exact .inr ⟨g,0,p.length,by rw[zV,H3],yo,by rw[zV,H3];exact Nat.le_refl _,jm,HA.out.row⟩) H4.out (by rw[pR HL.out];exact a9))
 go_wp2_with fail;refine HN.out.mono ?_;rintro e w5 ⟨g5,rfl,c2,a3,h6⟩;have c3:numb (lV p q)=aU p q:=rfl;have b6:=Kh a3;have b5:=Kh h6;clear a3 h6;go_wp2;go_ret;refine⟨g5,rfl,?_,b6.out,zI H5.out b5.out⟩;have:=H5.out.size;omega
theorem kB {xs:List Int}(h:k<xs.length):xs.take (k+1)=xs.take k++[xs.getD k 0]:=by
 rw[List.take_add_one];simp[List.getD,h]
theorem qT (B C:Nat)(w:World)(va vb:Value)(xs ys:List Int)(ha:Row B w va (ints xs))(hb:Row C w vb (ints ys)):Calls Tryz.prog 31 #[va,vb] w fun e w'=>e=.returned (.bool (decide (xs=ys)))/\∃m,w'=w.drewN m:=by
 have h2:=ha.len_le;rw[zL]at h2;unfold maxLen at h2;have h1:=hb.len_le;rw[zL]at h1;unfold maxLen at h1;obtain⟨aa,ac,rfl⟩:=ha.shape;obtain⟨ba,bc,rfl⟩:=hb.shape;rw[zL]at ha hb⊢;rw[zL];by_cases hl:xs.length=ys.length
 ·by_cases h0:xs.length=0
  ·have hx:xs=[]:=List.eq_nil_of_length_eq_zero h0
   have hy:ys=[]:=List.eq_nil_of_length_eq_zero yo;subst hx;subst hy;clear ha hb;go_enter Tryz.func31,Tryz.ntmps31;go_wp2
   go_loopg [13] 0 (fun g i wr=>i=.int .i64 0/\wr=w)
   case atStart=>exact⟨rfl,rfl⟩
   obtain⟨rfl,rfl⟩:=hrel;go_wp2;go_ret;exact⟨yQ rfl,0,rfl⟩
  obtain⟨ab,ao,ac',e,_,_,_,h4⟩:=ha.some_ (by rw[zL];omega);simp only[Value.slice.injEq]at e;obtain⟨rfl,-,-⟩:=e;obtain⟨bb,bo,bc',e,_,_,_,h3⟩:=hb.some_ (by rw[zL];omega);simp only[Value.slice.injEq]at e;obtain⟨rfl,-,-⟩:=e;obtain⟨RA,RB,HL⟩:=Kc h4 h3 hl;clear ha hb h4 h3;rw[<-hl];clear hl;go_enter Tryz.func31,Tryz.ntmps31;go_wp2
  go_loopg [13] xs.length (fun g i wr=>∃k:Nat,g+k=xs.length/\i=.int .i64 k/\xs.take k=ys.take k/\∃m,wr=w.drewN m)
  case atStart=>exact⟨0,rfl,rfl,rfl,0,rfl⟩
  obtain⟨k,hg,rfl,h5,m,rfl⟩:=hrel;have HG:=Kh hg;have OK:=Kh h5;clear hg h5;by_cases hk:k<xs.length
  ·have h7:(k:Int)<xs.length:=yo
   have ca:=RA.out.int k hk;have cb:=RB.out.int k (by have:=HL.out;omega);obtain⟨z,hz⟩:=Nm (xs.getD k 0);obtain⟨u,hu⟩:=Nm (ys.getD k 0);rw[<-hz]at ca;rw[<-hu]at cb;have HZ:=Kh hz;have HU:=Kh hu;clear hz hu;by_cases hzu:z=u
   ·have HN:Hid (xs.take (k+1)=ys.take (k+1)):=Kh (by rw[kB hk,kB (by have:=HL.out;omega),OK.out,<-HZ.out,<-HU.out,hzu])
    subst hzu;go_wp2
    go_quiet (fail)
    go_wp2;go_roundg (xs.length-(k+1))
    case measure=>have:=HG.out;omega
    exact⟨k+1,yo,by go_num,HN.out,_,rfl⟩
   have e1:(z != u)=true:=by rw[bne_iff_ne];exact hzu
   have HN:Hid (decide (xs=ys)=false):=Kh (by rw[decide_eq_false_iff_not];rintro rfl;exact hzu (by rw[HZ.out,HU.out]));go_wp2
   go_quiet (fail)
   go_wp2;go_ret;exact⟨yQ HN.out.symm,_,by rw[World.drewN_drewN]⟩
  have HY:Hid (decide (xs=ys)=true):=by
   have h6:k=xs.length:=by have:=HG.out;omega
   have:=OK.out;rw[List.take_of_length_le yo,List.take_of_length_le (by have:=HL.out;omega)]at this;exact Kh (by rw[decide_eq_true_eq];exact this)
  go_wp2;go_ret;exact⟨yQ HY.out.symm,m,rfl⟩
 have e1:((xs.length:Int) != (ys.length:Int))=true:=by rw[bne_iff_ne];omega
 have HN:Hid (decide (xs=ys)=false):=Kh (by rw[decide_eq_false_iff_not];rintro rfl;exact hl rfl);clear ha hb;go_enter Tryz.func31,Tryz.ntmps31;go_wp2;go_ret;exact⟨yQ HN.out.symm,0,rfl⟩
theorem qOT :((l.map fun(x:Nat)=>(x:Int)) == (m.map fun(x:Nat)=>(x:Int)))=decide (l=m):=by
 rw[Bool.eq_iff_iff,beq_iff_eq,decide_eq_true_eq];constructor
 ·intro h
  have:=congrArg (List.map Int.toNat) h;simpa [List.map_map,Function.comp_def] using this
 rintro rfl;rfl
theorem qFR :decide ((l.map fun(x:Nat)=>(x:Int))=m.map fun(x:Nat)=>(x:Int))=decide (l=m):=by
 rw[<-qOT (l:=l) (m:=m),Bool.eq_iff_iff,decide_eq_true_eq,beq_iff_eq]
structure DAt (B:Nat)(w:World)(d:DfaV)(n k fb fo fc b off cap:Nat)(RB RO RC:Nat->Nat):Prop where
 ok:VD d n k
 flt:fb<B
 frow:uE w fb fo (bls d.final)
 fcap:n<=fc/\fc<=maxLen
 blt:b<B
 bltw:b<w.heap.size
 cap:n<=cap/\cap<=maxLen
 hd:∀q,q<n->w.cell? ⟨b,off+q,none⟩=some (.slice (some ⟨RB q,RO q,none⟩) k (RC q))
 el:∀q a,q<n->a<k->w.cell? ⟨RB q,RO q+a,none⟩=some (.int .i64 ((nx d q a:Nat):Int))
 rlt:∀q,q<n->RB q<B/\RB q<w.heap.size
 rcap:∀q,q<n->k<=RC q/\RC q<=maxLen
theorem DAt.kept {B:Nat}{w:World}{b off cap:Nat}{RB RO RC:Nat->Nat}{row:Option Nat}(h:DAt B w d n k fb fo fc b off cap RB RO RC)(hg:w.grownBy w' row)(hr:∀k,row=some k->B<=k):DAt B w' d n k fb fo fc b off cap RB RO RC where
 ok:=h.ok
 flt:=h.flt
 frow:=h.frow.kept hg (fun e=>by have:=hr _ e;have:=h.flt;omega)
 fcap:=h.fcap
 blt:=h.blt
 bltw:=Nat.lt_of_lt_of_le h.bltw hg.size
 cap:=h.cap
 hd:=fun q hq=>(World.cell?_of_block (hg.block b h.bltw (fun e=>by have:=hr b e.symm;have:=h.blt;omega))).trans (h.hd q hq)
 el:=fun q a hq ha=>(World.cell?_of_block (hg.block (RB q) (h.rlt q hq).2 (fun e=>by have:=hr _ e.symm;have:=(h.rlt q hq).1;omega))).trans (h.el q a hq ha)
 rlt:=fun q hq=>⟨(h.rlt q hq).1,Nat.lt_of_lt_of_le (h.rlt q hq).2 hg.size⟩
 rcap:=h.rcap
theorem DAt.fin {B:Nat}{w:World}{b off cap:Nat}{RB RO RC:Nat->Nat}(h:DAt B w d n k fb fo fc b off cap RB RO RC){q:Nat}(hq:q<n):w.cell? ⟨fb,fo+q,none⟩=some (.bool (d.final.getD q false)):=by
 have hl:=h.ok.hn;have:=uE.map h.frow q yo;rw[this,zQ yo]
def dAgg (k st fb fo fc b off cap n:Nat):Value:=.agg #[.int .i64 (k:Int),.int .i64 (st:Int),.slice (some ⟨fb,fo,none⟩) n fc,.slice (some ⟨b,off,none⟩) n cap]
theorem rP.at {B:Nat}{w:World}(h:rP B w v d)(hd:VD d n k):∃fb fo fc b off cap RB RO RC,v=dAgg k (st0 d) fb fo fc b off cap n/\DAt B w d n k fb fo fc b off cap RB RO RC:=by
 obtain⟨fv,nv,rfl,hf,hn⟩:=h;obtain⟨fb,fo,fc,rfl,h1,h2,h3,h4⟩:=hf.some_ (by rw[yB,hd.hn];exact hd.n1);obtain⟨b,off,cap,A,C,rfl,k1,k2,k3⟩:=hn.some_ (by rw[hd.nl];exact hd.n1)
 have hr:∀q,∃rb ro,q<n->A q=some ⟨rb,ro,none⟩/\rb<B/\k<=C q/\C q<=maxLen/\uE w rb ro (ints (d.next.getD q [])):=by
  intro q;by_cases hq:q<n
  ·have hl:=hd.row q hq
   obtain⟨rb,ro,c,e,h4,h5,h6,h7⟩:=(k3.row q (by rw[hd.nl];exact hq)).some_ (by rw[zL,hl];exact hd.k1);simp only[Value.slice.injEq]at e;rw[zL,hl]at h5;exact⟨rb,ro,fun _=>⟨e.1,h4,by rw[e.2.2];exact h5,by rw[e.2.2];exact h6,h7⟩⟩
  exact⟨0,0,fun h=>absurd h hq⟩
 obtain⟨RB,h8⟩:=Classical.axiomOfChoice hr;obtain⟨RO,h0⟩:=Classical.axiomOfChoice h8;rw[yB,hd.hn]at h2;rw[hd.nl]at k1;refine⟨fb,fo,fc,b,off,cap,RB,RO,C,?_,hd,h1,h4,⟨h2,h3⟩,k3.lt,k3.ltw,⟨k1,k2⟩,fun q hq=>?_,fun q a hq ha=>?_,fun q hq=>?_,fun q hq=>?_⟩
 ·rw[dAgg,bQ hd,hd.hk,yB,hd.hn,hd.nl]
 ·rw[k3.hd q (by rw[hd.nl];exact hq),(h0 q hq).1,hd.row q hq]
 ·rw[(h0 q hq).2.2.2.2.int a (by rw[hd.row q hq];exact ha),qJV hd hq ha]
  rfl
 ·have:=h0 q hq
  exact⟨this.2.1,this.2.2.2.2.1⟩
 have:=h0 q hq;exact⟨this.2.2.1,this.2.2.2.1⟩
theorem zM {w:World}{p:Nat}{x0 x1 x2 x3:Value}{e:Nat}(h:w.heap[p]?=some (.cells #[x0,x1,x2,x3] e (0,0))):w.cell? ⟨p,0,none⟩=some x0/\w.cell? ⟨p,1,none⟩=some x1/\w.cell? ⟨p,2,none⟩=some x2/\w.cell? ⟨p,3,none⟩=some x3:=by
 have c0:=zJ h 0;have c1:=zJ h 1;have c2:=zJ h 2;have c3:=zJ h 3;simp only[sPd,sPe,sPf]at c0 c1 c2 c3;exact⟨c0,c1,c2,c3⟩
theorem jD {w:World}(h:uE w g 0 (nats l))(hl:l.length=n)(hn:n<=9223372036854775807):Row (g+1) w (.slice (some ⟨g,0,none⟩) n n) (nats l) :=
 .inr ⟨g,0,n,by rw[zV,hl],yo,by rw[zV,hl];exact Nat.le_refl _,jm,h⟩
theorem qHM {a q:Nat}(hq:q<p.length):(mR d p a).take (q+1)=(mR d p a).take q++[p.getD (nx d q a) 0]:=by
 rw[yH (d:=0) (by rw[qG];exact hq),eN hq]
theorem qOO {a:Nat}(h:∀c∈p,c<n)(hn:0<n):∀c∈mR d p a,c<n:=by
 intro c hc;obtain⟨q,hq,rfl⟩:=List.mem_map.1 hc;exact qX h hn
def finN (d:DfaV):List Nat:=d.final.map fun b=>if b then 1 else 0
theorem qLE (d:DfaV):nats (finN d)=ints (d.final.map finB):=by
 rw[rD];congr 1;simp only[finN,List.map_map];congr 1;funext b;cases b<;>rfl
theorem eK (d:DfaV):(finN d).length=d.final.length:=by simp[finN]
theorem qOG {q:Nat}(hq:q<d.final.length):(finN d).getD q 0=if d.final.getD q false then 1 else 0:=by
 rw[finN,xY (x:=false) hq]
theorem qOH (d:DfaV):∀x∈d.final.map finB,Mid x:=by
 intro x hx;obtain⟨b,_,rfl⟩:=List.mem_map.1 hx;cases b<;>constructor<;>simp[finB]
theorem qDU (h:k<l.length)(h0:l.getD k 0=0):vO l (k+1)=vO l k:=by
 unfold vO;rw[yH (d:=0) h,h0,show l.length-k=(l.length-(k+1))+1 by omega,List.replicate_succ,List.append_assoc];rfl
def qLX (w:World)(l:List Nat)(e:Ending)(w':World):Prop :=
 ∃g,e=.returned (.slice (some ⟨g,0,none⟩) l.length l.length)/\w.heap.size<=g/\uE w' g 0 (nats l)/\w.grownBy w' none
theorem qMZ (hp:Norm p)(m:Nat):∀c∈tR d p m,c<p.length:=by
 have:=mG (lE (d:=d) hp m)
 rwa [xV]at this
theorem qEA (B:Nat)(w:World)(v:Value)(d:DfaV)(n k:Nat)(hB:B<=w.heap.size)(h:rP B w v d)(hd:VD d n k):Calls Tryz.prog 37 #[v] w (qLX w (xU d k)):=by
 obtain⟨fb,fo,fc,b,off,cap,RB,RO,RC,rfl,a0⟩:=h.at hd;have hn:=hd.hn;have k0:=hd.n1;have d8:=hd.nbig;have k4:=hd.k6;have k5:=hd.k1;have k8:=a0.fcap.1;have a5:=a0.fcap.2;have k9:=a0.cap.1;have a7:=a0.cap.2;have g4:fc<=9223372036854775807:=jl a5
 have g2:cap<=9223372036854775807:=jl a7
 obtain⟨wA,a8⟩:=Nm (w.alloc (.cells #[.int .i64 (k:Int),.int .i64 (st0 d:Int),.slice (some ⟨fb,fo,none⟩) n fc,.slice (some ⟨b,off,none⟩) n cap] 29));have h9:wA.heap[w.heap.size]?=some (.cells #[.int .i64 (k:Int),.int .i64 (st0 d:Int),.slice (some ⟨fb,fo,none⟩) n fc,.slice (some ⟨b,off,none⟩) n cap] 29 (0,0)):=by rw[a8];exact heap_alloc_new w _
 have b9:w.grownBy wA none:=by rw[a8];exact Ga w _ none
 have f8:wA.heap.size=w.heap.size+1:=by rw[a8,zW]
 obtain⟨c0,c1,c2,c3⟩:=zM h9;obtain⟨P,hP⟩:=Nm w.heap.size;have f2:=Kh hP;rw[<-hP]at h9 c0 c1 c2 c3 f8 hB;obtain⟨c9,j1,i5⟩:=Kc h9 b9 a8;have f7:=Kh (a0.kept b9 yq);have HN:=Kh hn;have HD:=Kh hd;unfold dAgg;clear h9 b9 a8 a0 hn hd h a5 a7;go_enter Tryz.func37,Tryz.ntmps37;go_upto_region 1 with fail;rw[<-i5.out,<-f2.out];clear hP;go_wp2_with (first|(at_make;refine pL rfl _ _ _ rfl yJ rfl .i64 .i64 _ _ n rfl rfl rfl rfl ?b1 ?b2 ?_)|fail)
 case b1=>omega
 case b2=>unfold maxLen;omega
 intro w2 h0 e4 g8;have d4:=Kh h0;have f5:=Kh e4;clear h0 e4;obtain⟨g,hg⟩:=Nm (P+1);have l2:=Kh hg;rw[<-hg]at d4⊢;have e2:P<g:=yo
 clear hg;go_wp2
 go_loopg [4,15] n (fun gh a6 i wr=>∃q:Nat,gh+q=n/\i=.int .i64 q/\Arr wr g 3 (nats (vO (finN d) q))/\wA.grownBy wr none)
 case atStart=>exact⟨0,rfl,rfl,by rw[tH,eK,HN.out,yW];exact d4.out,f5.out⟩
 clear d4 f5;obtain⟨q,hg,rfl,h0,h3⟩:=hrel;obtain⟨HG,HA,H1⟩:=Kc hg h0 h3;have e6:(finN d).length=n:=by rw[eK,HN.out]
 have j6:=h3.size;obtain⟨d0,d1,d2,d3⟩:=zM (zD c9.out h3);clear hg c0 c1 c2 c3;by_cases hq:q<n
 ·have g0:(q:Int)<n:=yo
  have cf:=(f7.out.kept h3 yq).fin hq;have cgk:=h0.nat q (by rw[yZ yo];omega);have fgk:=h0.frozen q;have e5:=qOG (d:=d) (q:=q) (by rw[HN.out];exact hq);have b8:=Kh e5;clear e5 h0 h3;cases hb:d.final.getD q false with
  | false =>
   rw[hb]at cf b8;go_wp2;go_roundg (n-(q+1))
   case measure=>have:=HG.out;omega
   exact⟨q+1,yo,by go_num,by rw[qDU yo b8.out];exact HA.out,H1.out⟩
  | true =>
   rw[hb]at cf b8;have HS:Hid ((vO (finN d) q).set q 1=vO (finN d) (q+1)):=Kh (by have:=tW (l:=finN d) (k:=q) yo;rw[b8.out]at this;exact this);go_wp2;go_roundg (n-(q+1))
   case measure=>have:=HG.out;omega
   refine⟨q+1,yo,by go_num,?_,zE H1.out (zH wr ⟨g,q,none⟩ _) (fun q e=>by have h7:g=q:=Oj e;omega)⟩;rw[<-HS.out];exact HA.out.nat_set q (by rw[yZ yo];omega) 1
 have H5:q=n:=by have:=HG.out;omega
 have HE:Hid (vO (finN d) q=finN d):=Kh (by rw[H5,<-e6];exact tX _);rw[HE.out]at HA;have j9:Hid (q=n):=Kh H5
 have a9:=Kh (cC (g+1) wr (.slice (some ⟨g,0,none⟩) n n) (d.final.map finB) HA.out.lt (by
  rw[<-qLE]
  exact jD HA.out.row e6 yo) (qOH d) (by rw[List.length_map,HN.out];omega))
 clear H5 h0 h3 d0 d1 d2 d3;go_wp2_with fail;refine a9.out.mono ?_;rintro e w3 ⟨g3,rfl,i4,c6,a3⟩;have d6:numb (d.final.map finB)=jH d:=rfl;rw[d6]at c6⊢;have H2:(jH d).length=n:=by rw[mE,HN.out]
 rw[H2];have f0:=Kh c6.row;have f4:=Kh (zI H1.out a3);have a4:P<g3:=yo;clear c6 a3 a9 d6 H2 i4;go_wp2
 go_loopg [3] n (fun gh v3 wr=>∃(m g:Nat),gh+m=n/\m<cls (xJ d k m)/\v3=.slice (some ⟨g,0,none⟩) n n/\P<g/\uE wr g 0 (nats (xJ d k m))/\wA.grownBy wr none)
 case atStart=>exact⟨0,g3,rfl,aT (by rw[xQ,HN.out];omega),rfl,a4,f0.out,f4.out⟩
 clear f0 f4 a4 HA H1 HG;obtain⟨m,g,hg,d9,rfl,e2,b5,h3⟩:=hrel;have HG:=Kh hg;have i9:=Kh d9;have H2:=xQ d k m;rw[HN.out]at H2;have b6:=tY d k m;obtain⟨p,hp⟩:=Nm (xJ d k m);have HP:=Kh hp;rw[<-hp]at H2 b6 b5;have H6:=mG b6;rw[H2]at H6;obtain⟨wo,rfl⟩:=Nm (wr:World);obtain⟨b7,H1,f1,h5,c7⟩:=Ke b5 h3 b6 H2 H6;have i3:=b5.1;clear hg d9 hp b5 h3 b6 H2 H6;go_wp2
 go_loopg [5,6] k (fun gh v5 i wr=>∃(a g5:Nat),gh+a=k/\i=.int .i64 a/\v5=.slice (some ⟨g5,0,none⟩) n n/\P<g5/\uE wr g5 0 (nats (tR d p a))/\wo.grownBy wr none)
 case atStart=>exact⟨0,g,rfl,rfl,rfl,e2,b7.out,zX _ _⟩
 obtain⟨a,g5,hg,rfl,rfl,c4,H4,h8⟩:=hrel;have b3:=Kh hg;obtain⟨wq,rfl⟩:=Nm (wr:World);have H0:=Kh H4;have h4:=Kh h8;have e1:=H4.1;have j8:=h8.size;obtain⟨d0,d1,d2,d3⟩:=zM (zD c9.out (zI H1.out h8));clear hg H4 h8;by_cases ha:a<k
 ·have l0:(a:Int)<k:=yo
  go_wp2
  go_loopg [7,38] n (fun gh ov i wr=>∃(q:Nat) (sa:Option Addr) (sc:Nat),gh+q=n/\i=.int .i64 q/\ov=.slice sa q sc/\wr.ownsRow wq.heap.size 3 1 (.slice sa q sc) q (nats ((mR d p a).take q))/\wq.grownBy wr none)
  case atStart=>exact⟨0,none,0,rfl,rfl,rfl,by simpa [nats] using World.ownsRow_nil _ _ _ _,zX _ _⟩
  obtain⟨q,sa,sc,hg,rfl,rfl,a1,h3⟩:=hrel;obtain⟨f3,h6,H9⟩:=Kc hg a1 h3;clear hg a1 d0 d1 d2 d3;by_cases hq:q<n
  ·have g0:(q:Int)<n:=yo
   have H7:=zI (zI H1.out h4.out) h3;obtain⟨d0,d1,d2,d3⟩:=zM (zD c9.out H7);have hA:=f7.out.kept H7 yq;have ch:=hA.hd q hq;have ce:=hA.el q a hq ha;have d5:=hA.rcap q hq;have d7:=mF HD.out hq ha;have cp:=(b7.out.kept (zI h4.out h3) yq).nat (nx d q a) (by rw[h5.out];exact d7);rw[Nat.zero_add]at cp;have c8:Hid ((mR d p a).take (q+1)=(mR d p a).take q++[p.getD (nx d q a) 0]):=Kh (qHM (by rw[h5.out];exact hq));obtain⟨s,hs⟩:=Nm (nx d q a);rw[<-hs]at ce d7 cp c8;obtain⟨c,hc⟩:=Nm (p.getD s 0);rw[<-hc]at cp c8;have i2:=h3.size;have f9:=d5.1;have g1:(s:Int)<n:=yo;clear H7 hA hs hc h3 d5;go_wp2_with (first|(at_builtin;refine app1 rfl _ _ _ rfl yJ wq.heap.size _ q (nats ((mR d p a).take q)) rfl h6.out _ rfl rfl ?c1 ?c2 ?c3 ?_)|fail)
   case c1=>unfold maxLen;omega
   case c2=>omega
   case c3=>exact i2
   intro sa' sc' w6 H3 e3 g6;have i8:=Kh H3;have j3:=Kh e3;clear H3 e3;go_wp2;go_roundg (n-(q+1))
   case measure=>have:=f3.out;omega
   refine⟨q+1,sa',sc',yo,by go_num,rfl,?_,zE H9.out j3.out (fun q e=>(h6.out.lt q e).1)⟩;rw[c8.out,qF];exact i8.out
  have H5:q=n:=by have:=f3.out;omega
  have e7:(mR d p a).length=n:=by rw[qG,h5.out]
  have i6:Hid ((mR d p a).take q=mR d p a):=Kh (by rw[H5,<-e7];exact List.take_length);have l1:=Kh H5;rw[i6.out]at h6;obtain⟨kb,rfl,i1,i0,h0⟩:=yV h6.out yo;have k3:=(h6.out.lt kb rfl).1;have b4:=xV d p a
  have f6:=Kh (qOV (g5+1) wr.heap.size wr (.slice (some ⟨g5,0,none⟩) n n) (.slice (some ⟨kb,0,none⟩) q sc) (tR d p a) (mR d p a) (by have:=h3.size;omega) (Nat.le_refl _)
   (jD (H0.out.kept h3 yq) (by rw[b4,h5.out]) yo) (Row.of_owns h6.out) (by rw[e7,b4,h5.out]) (by rw[b4,h5.out];omega)
   (fun c hc=>by have:=qMZ f1.out a c hc;rw[h5.out]at this;omega) (fun c hc=>by have:=qOO c7.out yo c hc;omega) (by rw[b4,h5.out];omega))
  clear H5 h0;go_wp2_with fail;refine f6.out.mono ?_;rintro e w7 ⟨g7,rfl,k7,c5,a2⟩;have e8:aU (tR d p a) (mR d p a)=tR d p (a+1):=rfl;rw[e8]at c5⊢;have e0:(tR d p (a+1)).length=n:=by rw[xV,h5.out]
  rw[e0];have i7:=Kh c5.row;have j2:=Kh (zI (zI h4.out H9.out) a2);have j7:=H9.out.size;clear c5 a2 f6 e8 e0;go_wp2;go_roundg (k-(a+1))
  case measure=>have:=b3.out;omega
  exact⟨a+1,g7,yo,by go_num,rfl,yo,i7.out,j2.out⟩
 have e9:a=k:=by have:=b3.out;omega
 have j5:Hid (tR d p a=tR d p k):=Kh (by rw[e9]);rw[j5.out]at H0;have g9:(tR d p k).length=n:=by rw[xV,h5.out]
 have H8:=qT (g5+1) (g+1) wq (.slice (some ⟨g5,0,none⟩) n n) (.slice (some ⟨g,0,none⟩) n n) ((tR d p k).map fun(x:Nat)=>(x:Int)) (p.map fun(x:Nat)=>(x:Int))
  (by rw[<-rD];exact jD H0.out g9 yo) (by rw[<-rD];exact jD (b7.out.kept h4.out yq) h5.out yo)
 rw[qFR]at H8;have H8:=Kh H8;clear e9;by_cases he:tR d p k=p
 ·rw[decide_eq_true he]at H8
  have j4:Hid (xU d k=p):=Kh (by
   have h1:=HG.out;rw[HP.out];rw[HP.out]at he
   exact pT (by rw[HN.out];omega) he)
  clear he;go_wp2_with fail;refine H8.out.mono ?_;rintro e w8 ⟨rfl,m8,rfl⟩;go_wp2;go_ret;rw[qLX,j4.out];refine⟨g,by rw[h5.out];rfl,by have:=f2.out;omega,(b7.out.kept h4.out yq).kept (zT _ _ none) yq,?_⟩;exact zI (zI j1.out (zI H1.out h4.out)) (zT _ _ _)
 rw[decide_eq_false he]at H8
 have b0:Hid (m+1<cls (xJ d k (m+1))):=Kh (by
  have h1:=oV HD.out h5.out f1.out he;have h2:=i9.out;rw[<-HP.out]at h2;show m+1<cls (tR d (xJ d k m) k);rw[<-HP.out]
  omega)
 have j0:Hid (xJ d k (m+1)=tR d p k):=Kh (by rw[HP.out];rfl)
 have k2:m+1<n:=by
  have h1:=b0.out;have h2:=gI (xJ d k (m+1));rw[xQ,HN.out]at h2;omega
 clear he;go_wp2_with fail;refine H8.out.mono ?_;rintro e w8 ⟨rfl,m8,rfl⟩;go_wp2;go_roundg (n-(m+1))
 case measure=>have:=HG.out;omega
 exact⟨m+1,g5,yo,b0.out,rfl,c4,by rw[j0.out];exact H0.out.kept (zT _ _ none) yq,zI (zI H1.out h4.out) (zT _ _ _)⟩
def RowT (B:Nat)(e:TypeId)(w:World)(v:Value)(xs:List Value):Prop :=
 (v=.slice none 0 0/\xs=[])\/∃b off cap cur m,v=.slice (some ⟨b,off,none⟩) xs.length cap/\b<B/\xs.length<=cap/\cap<=maxLen/\w.heap[b]?=some (.cells cur e m)/\∀i (h:i<xs.length),cur[off+i]?=some xs[i]
theorem RowT.row {B:Nat}{e:TypeId}{w:World}(h:RowT B e w v xs):Row B w v xs:=by
 rcases h with h|⟨b,off,cap,cur,m,h1,h2,h3,h4,h5,h6⟩
 ·exact .inl ⟨_,_,h⟩
 exact .inr ⟨b,off,cap,h1,h2,h3,h4,zS h5,fun i hi=>by rw[cell_of_row w b (off+i) _ _ _ h5];exact h6 i hi⟩
theorem RowT.mono {B:Nat}{e:TypeId}{w:World}(h:RowT B e w v xs)(hB:B<=B'):RowT B' e w v xs:=by
 rcases h with h|⟨b,off,cap,cur,m,h1,h2,h3⟩
 ·exact .inl h
 exact .inr ⟨b,off,cap,cur,m,h1,yo,h3⟩
def yS (w:World)(e:TypeId)(k:Nat):Prop:=∃cur e' m,w.heap[k]?=some (.cells cur e' m)/\e'≠e
theorem RowT.kept {B:Nat}{e:TypeId}{w:World}{row:Option Nat}(h:RowT B e w v xs)(hg:w.grownBy w' row)(hr:∀k,row=some k->B<=k\/yS w e k):RowT B e w' v xs:=by
 rcases h with h|⟨b,off,cap,cur,m,h1,h2,h3,h4,h5,h6⟩
 ·exact .inl h
 refine .inr ⟨b,off,cap,cur,m,h1,h2,h3,h4,zD h5 hg (fun eq=>?_),h6⟩;rcases hr b eq with hk|⟨cur',e',m',hk,hne⟩
 ·omega
 rw[h5]at hk;simp at hk;exact hne hk.2.1.symm
theorem RowT.of_owns {w:World}{e:Nat}(h:w.ownsRow base e 1 v n xs):RowT w.heap.size e w v xs:=by
 have hl:xs.length=n:=by have:=h.1;omega
 rcases h.2 with ⟨rfl,rfl⟩|⟨g,cap,cur,rfl,hb,hg,hnc,hcm,hcs,htake⟩
 ·exact .inl ⟨rfl,List.eq_nil_of_length_eq_zero hl⟩
 refine .inr ⟨g,0,cap,cur,(0,0),by rw[hl],zS hg,yo,hcm,hg,fun i hi=>?_⟩;have:=h.cellAt i yo;rw[cell_of_row w g i _ _ _ hg]at this;rw[Nat.zero_add,this,List.getElem?_eq_getElem hi]
theorem wH {w:World}{e e' size:Nat}(h:w.ownsRow base e size v n xs)(a9:e≠e'):∀k,v.ownBlock=some k->yS w e' k:=by
 intro k hk;rcases h.2 with ⟨rfl,_⟩|⟨g,cap,cur,rfl,_,hg,_⟩
 ·simp[Value.ownBlock]at hk
 simp[Value.ownBlock]at hk;subst hk;exact⟨cur,e,(0,0),hg,a9⟩
def tN {α:Type}(B:Nat)(e:TypeId)(f:α->List Value)(w:World)(svs:List Value)(ps:List α):Prop :=
 svs.length=ps.length/\∀i (h:i<svs.length) (h':i<ps.length),RowT B e w svs[i] (f ps[i])
section
variable {α:Type} {B:Nat} {e:TypeId} {f:α->List Value} {w:World} {svs:List Value} {ps:List α}
theorem tN.nil:tN B e f w [] []:=⟨rfl,fun i h=>by simp at h⟩
theorem tN.kept {row:Option Nat}(h:tN B e f w svs ps)(hg:w.grownBy w' row)(hr:∀k,row=some k->B<=k\/yS w e k):tN B e f w' svs ps :=
 ⟨h.1,fun i h1 h2=>(h.2 i h1 h2).kept hg hr⟩
theorem tN.mono (h:tN B e f w svs ps)(hB:B<=B'):tN B' e f w svs ps:=⟨h.1,fun i h1 h2=>(h.2 i h1 h2).mono hB⟩
theorem tN.snoc {sv:Value}{p:α}(h:tN B e f w svs ps)(hs:RowT B e w sv (f p)):tN B e f w (svs++[sv]) (ps++[p]):=by
 refine⟨by simp[h.1],fun i h1 h2=>?_⟩;by_cases hi:i<svs.length
 ·rw[List.getElem_append_left hi,List.getElem_append_left (by rw[<-h.1];exact hi)]
  exact h.2 i hi _
 have:i=svs.length:=by simp at h1;omega
 subst this;rw[List.getElem_append_right (Nat.le_refl _),List.getElem_append_right (by rw[h.1];exact Nat.le_refl _)];simpa [h.1] using hs
end
theorem mD {P:Program}{W:World}{c:Int}(src e:TypeId)(hs:P.underlying src=some (.slice e))(he:P.underlying e=some (.int .u8))(a9:TypeId)(hd:P.underlying a9=some .string)(h:W.cell? ⟨g,0,none⟩=some (.int .u8 c)):(convert src a9 (.slice (some ⟨g,0,none⟩) 1 1)).run P W=.ok (.string (strOfNums [c])) W:=by
 refine run_convert_bytes_arg W src e hs he g 0 1 1 [c] rfl (fun i hi=>?_) a9 hd;have:i=0:=by simp at hi;omega
 subst this;simpa using h
section
variable {P:Program} {md:Region.Mode} {ops:Array Oper} {Q:Exit->Act->World->Prop}
def uU (P:Program)(md:Region.Mode)(ops:Array Oper)(Q:Exit->Act->World->Prop)(G:Array Bool->World->Prop):Nat->Array Bool->Act->World->Prop
 | 0,listed,a,w=>Region.ready md ops listed=[]/\Q .normal a w
 | fuel+1,listed,a,w =>
  (Region.ready md ops listed=[]->Q .normal a w) /\
  ∀i∈Region.ready md ops listed,wpOp P ops Q i (fun a' w'=>G (listed.setIfInBounds i true) w'/\uU P md ops Q G fuel (listed.setIfInBounds i true) a' w') a w
variable {G:Array Bool->World->Prop}
theorem dE:∀(fuel:Nat) (listed:Array Bool) (a:Act) (w:World),uU P md ops Q G fuel listed a w->wpAny P md ops Q fuel listed a w
 | 0,_,_,_,h=>h
 | fuel+1,_,_,_,h=>⟨h.1,fun i hi=>wpOp_mono (fun a' w' h'=>dE fuel _ a' w' h'.2) (h.2 i hi)⟩
theorem iV {S:World->Prop}{U:Array Bool->Prop}(hi:ops[i]?=some oi)(a9:∀(j:Nat) (o:Oper) cs b,ops[j]?=some o->o.op≠.select cs b)(hQ:∀c a w,Q (.panic c) (a.put oi.dst v) w->Q (.panic c) a w)(hU:∀listed j,U listed->i∈Region.ready md ops listed->j∈Region.ready md ops listed->j≠i->U (listed.setIfInBounds j true))(hG:∀listed w,U listed->G listed w->S w)(a8:∀listed w,U listed->i∈Region.ready md ops listed->G listed w->G (listed.setIfInBounds i true) w)(a7:∀listed j w,U listed->i∈Region.ready md ops listed->j∈Region.ready md ops listed->j≠i->G ((listed.setIfInBounds i true).setIfInBounds j true) w->G (listed.setIfInBounds j true) w):∀(fuel:Nat) (listed:Array Bool) (a:Act) (w:World),(∀j oj,ops[j]?=some oj->j≠i->listed.getD j true=false->(∀e∈oj.after,Region.binds md e=true->e.on≠i)->oi.apart ops oj=true)->i∈Region.ready md ops listed->U listed->YieldsIf P ops S oi v a->G listed w->uU P md ops Q G fuel (listed.setIfInBounds i true) (a.put oi.dst v) w->uU P md ops Q G (fuel+1) listed a w:=by
 intro fuel
 induction fuel with
 | zero =>
  intro listed a w _ hr hu hy hS H;refine⟨fun h=>(by rw[h]at hr;cases hr),fun j hj=>?_⟩;by_cases hji:j=i
  ·subst hji;exact hy.wpOp hi (hG _ _ hu hS) ⟨a8 _ _ hu hr hS,H⟩
  have:=ready_mono hj hji;rw[H.1]at this;cases this
 | succ fuel ih =>
  intro listed a w h4 hr hu hy hS H;refine⟨fun h=>(by rw[h]at hr;cases hr),fun j hj=>?_⟩;by_cases hji:j=i
  ·subst hji;exact hy.wpOp hi (hG _ _ hu hS) ⟨a8 _ _ hu hr hS,H⟩
  have h1:=H.2 j (ready_mono hj hji);obtain⟨h6,oj,h7,h9⟩:=mem_ready.1 hj
  have h8:∀e∈oj.after,Region.binds md e=true->e.on≠i:=fun e he hb heq=>by
   have h1:=h9 e he hb;have h0:=(mem_ready.1 hr).1;rw[heq]at h1;rcases Nat.lt_or_ge i listed.size with h'|h'
   ·simp[h']at h0 h1;rw[h0]at h1;cases h1
   simp[Array.getElem?_eq_none h']at h1
  have h2:=wpOp_putIf h7 (h4 j oj h7 hji h6 h8) (fun cs b=>a9 i oi cs b hi) (fun cs b=>a9 j oj cs b h7) hQ hy h1
  have h5:∀k ok,ops[k]?=some ok->k≠i->(listed.setIfInBounds j true).getD k true=false ->
    (∀e∈ok.after,Region.binds md e=true->e.on≠i)->oi.apart ops ok=true:=fun k ok hk hki hun hno=>by
   refine h4 k ok hk hki ?_ hno;by_cases hjk:j=k
   ·subst hjk;exact h6
   ·rw[Go.getD_set_ne true hjk]at hun;exact hun
  have H1:=hU listed j hu hr hj hji;refine wpOp_mono (fun a' w' h3=>?_) h2;have H0:=a7 listed j w' hu hr hj hji h3.2.1;refine⟨H0,ih (listed.setIfInBounds j true) a' w' h5 (ready_mono hr (Ne.symm hji)) H1 h3.1 H0 ?_⟩;rw[Array.setIfInBounds_comm _ _ hji];exact h3.2.2
def xM (s:Nat)(A B:World->Prop)(listed:Array Bool)(w:World):Prop:=A w/\(listed.getD s true=false->B w)
theorem tG {l:Array Bool}:(l.setIfInBounds i true).getD i true=true:=by
 rcases Nat.lt_or_ge i l.size with h|h
 ·simp[h]
 simp[h]
theorem qAG {s:Nat}{A B:World->Prop}{w:World}(h:xM s A B listed w):xM s A B (listed.setIfInBounds j true) w:=by
 refine⟨h.1,fun hs=>h.2 ?_⟩;by_cases e:j=s
 ·subst e;rw[tG]at hs;cases hs
 rwa [Go.getD_set_ne true e]at hs
theorem fJ {s:Nat}{A B:World->Prop}{w:World}(a9:i≠s)(h:xM s A B ((listed.setIfInBounds i true).setIfInBounds j true) w):xM s A B (listed.setIfInBounds j true) w:=by
 refine⟨h.1,fun hs=>h.2 ?_⟩;by_cases e:j=s
 ·subst e;rw[tG]at hs;cases hs
 rw[Go.getD_set_ne true e]at hs⊢
 rwa [Go.getD_set_ne true a9]
variable {s:Nat} {A B:World->Prop}
theorem qSK {w:World}(hi:ops[i]?=some oi)(a8:(i == s)=false)(hs:Region.noSelect ops=true)(hf:Region.free md ops listed i=true)(hr:(Region.ready md ops listed).contains i=true)(hQ:∀c a w,Q (.panic c) (a.put oi.dst v) w->Q (.panic c) a w)(hy:YieldsIf P ops A oi v a)(hG:xM s A B listed w)(h:uU P md ops Q (xM s A B) a9 (listed.setIfInBounds i true) (a.put oi.dst v) w):uU P md ops Q (xM s A B) (a9+1) listed a w :=
 iV (S:=A) (U:=fun _=>True) hi (Region.noSelect_spec hs) hQ (fun _ _ _ _ _ _=>trivial) (fun _ _ _ h=>h.1) (fun _ _ _ _ h=>qAG h)
  (fun _ _ _ _ _ _ _ h=>fJ (by simpa using a8) h) a9 listed a w (Region.free_spec hi hf) (by simpa using hr) trivial hy hG h
theorem qTP {w:World}(hi:ops[i]?=some oi)(a7:(i == s)=false)(hw:(match ops[s]? with|some os=>os.after.any fun e=>Region.binds md e && (e.on == i)|none=>false)=true)(a8:listed.getD s true=false)(hs:Region.noSelect ops=true)(hf:Region.free md ops listed i=true)(hr:(Region.ready md ops listed).contains i=true)(hQ:∀c a w,Q (.panic c) (a.put oi.dst v) w->Q (.panic c) a w)(hy:YieldsIf P ops (fun w=>A w/\B w) oi v a)(hG:xM s A B listed w)(h:uU P md ops Q (xM s A B) a9 (listed.setIfInBounds i true) (a.put oi.dst v) w):uU P md ops Q (xM s A B) (a9+1) listed a w:=by
 refine iV (S:=fun w=>A w/\B w) (U:=fun l=>l.getD s true=false) hi (Region.noSelect_spec hs) hQ (fun l j hu hir hj hji=>?_) (fun l w hu h=>⟨h.1,h.2 hu⟩) (fun _ _ _ _ h=>qAG h)
  (fun _ _ _ _ _ _ _ h=>fJ (by simpa using a7) h) a9 listed a w (Region.free_spec hi hf) (by simpa using hr) a8 hy hG h
 by_cases e:j=s
 ·subst e
  exfalso;obtain⟨h4,oj,h3,h2⟩:=mem_ready.1 hj;rw[h3]at hw;simp only[Array.any_eq_true,Bool.and_eq_true,beq_iff_eq]at hw;obtain⟨k,hk,hb,he⟩:=hw;have h1:=h2 _ (Array.getElem_mem hk) hb;have h0:=(mem_ready.1 hir).1;rw[he]at h1;rcases Nat.lt_or_ge i l.size with h'|h'
  ·simp[h']at h0 h1;rw[h0]at h1;cases h1
  simp[Array.getElem?_eq_none h']at h1
 rw[Go.getD_set_ne true e];exact hu
theorem uB (i:Nat){w:World}(hG:xM s A B listed w)(h:uU P md ops Q (xM s A B) a9 (listed.setIfInBounds i true) a' w)(hi:ops[i]?=some oi:=by rfl)(a8:(i == s)=false:=by rfl)(hs:Region.noSelect ops=true:=by kernel_rfl)(hf:Region.free md ops listed i=true:=by kernel_rfl)(hr:(Region.ready md ops listed).contains i=true:=by kernel_rfl)(hw:Region.wanted oi (yielded ops a.tmps)=true:=by rfl)(hv:∀w,A w->(execOp a.eval oi).run P w=.ok (.value v) w:=by(intro wz hz;(try dsimp only at hz);(repeat obtain⟨_,hz⟩:=hz);go_simp;(try with_reducible rfl)))(hQ:∀c a w,Q (.panic c) (a.put oi.dst v) w->Q (.panic c) a w:=by exact fun _ _ _ h=>h)(ha:a.put oi.dst v=a':=by((try simp only[Act.put,sPd,sPe,sPf,sPa,sPb,sPc]);with_reducible rfl)):
  uU P md ops Q (xM s A B) (a9+1) listed a w:=qSK hi a8 hs hf hr hQ (Or.inl ⟨hw,hv⟩) hG (by rw[ha];exact h)
theorem qIM (i:Nat){w:World}(hG:xM s A B listed w)(h:uU P md ops Q (xM s A B) a9 (listed.setIfInBounds i true) a' w)(hi:ops[i]?=some oi:=by rfl)(a6:(i == s)=false:=by rfl)(a8:(match ops[s]? with|some os=>os.after.any fun e=>Region.binds md e && (e.on == i)|none=>false)=true:=by kernel_rfl)(a7:listed.getD s true=false:=by rfl)(hs:Region.noSelect ops=true:=by kernel_rfl)(hf:Region.free md ops listed i=true:=by kernel_rfl)(hr:(Region.ready md ops listed).contains i=true:=by kernel_rfl)(hw:Region.wanted oi (yielded ops a.tmps)=true:=by rfl)(hv:∀w,A w/\B w->(execOp a.eval oi).run P w=.ok (.value v) w:=by(rintro wz ⟨hy,hz⟩;(try dsimp only at hz);(try dsimp only at hy);(repeat obtain⟨_,hz⟩:=hz);(repeat obtain⟨_,hy⟩:=hy);go_simp;(try with_reducible rfl)))(hQ:∀c a w,Q (.panic c) (a.put oi.dst v) w->Q (.panic c) a w:=by exact fun _ _ _ h=>h)(ha:a.put oi.dst v=a':=by((try simp only[Act.put,sPd,sPe,sPf,sPa,sPb,sPc]);with_reducible rfl)):
  uU P md ops Q (xM s A B) (a9+1) listed a w:=qTP hi a6 a8 a7 hs hf hr hQ (Or.inl ⟨hw,hv⟩) hG (by rw[ha];exact h)
theorem zP (i:Nat){w:World}(h:uU P md ops Q (xM s A B) a9 (listed.setIfInBounds i true) a' w)(hG:xM s A B listed w:=by first|exact⟨trivial,fun _=>Hid.out (by assumption)⟩|exact⟨Hid.out (by assumption),fun _=>trivial⟩)(hi:ops[i]?=some oi:=by rfl)(a8:(i == s)=false:=by rfl)(hs:Region.noSelect ops=true:=by kernel_rfl)(hf:Region.free md ops listed i=true:=by kernel_rfl)(hr:(Region.ready md ops listed).contains i=true:=by kernel_rfl)(hw:Region.wanted oi (yielded ops a.tmps)=true:=by rfl)(hv:∀w,A w->(execOp a.eval oi).run P w=.ok (.value v) w:=by(intro wz hz;(try dsimp only at hz);(repeat obtain⟨_,hz⟩:=hz);go_simp;(try with_reducible rfl)))(hQ:∀c a w,Q (.panic c) (a.put oi.dst v) w->Q (.panic c) a w:=by exact fun _ _ _ h=>h)(ha:a.put oi.dst v=a':=by((try simp only[Act.put,sPd,sPe,sPf,sPa,sPb,sPc]);with_reducible rfl)):
  uU P md ops Q (xM s A B) (a9+1) listed a w:=uB i hG h hi a8 hs hf hr hw hv hQ ha
theorem xD (i:Nat){w:World}(h:uU P md ops Q (xM s A B) a9 (listed.setIfInBounds i true) a' w)(hG:xM s A B listed w:=by first|exact⟨trivial,fun _=>Hid.out (by assumption)⟩|exact⟨Hid.out (by assumption),fun _=>trivial⟩)(hi:ops[i]?=some oi:=by rfl)(a6:(i == s)=false:=by rfl)(a8:(match ops[s]? with|some os=>os.after.any fun e=>Region.binds md e && (e.on == i)|none=>false)=true:=by kernel_rfl)(a7:listed.getD s true=false:=by rfl)(hs:Region.noSelect ops=true:=by kernel_rfl)(hf:Region.free md ops listed i=true:=by kernel_rfl)(hr:(Region.ready md ops listed).contains i=true:=by kernel_rfl)(hw:Region.wanted oi (yielded ops a.tmps)=true:=by rfl)(hv:∀w,A w/\B w->(execOp a.eval oi).run P w=.ok (.value v) w:=by(rintro wz ⟨hy,hz⟩;(try dsimp only at hz);(try dsimp only at hy);(repeat obtain⟨_,hz⟩:=hz);(repeat obtain⟨_,hy⟩:=hy);go_simp;(try with_reducible rfl)))(hQ:∀c a w,Q (.panic c) (a.put oi.dst v) w->Q (.panic c) a w:=by exact fun _ _ _ h=>h)(ha:a.put oi.dst v=a':=by((try simp only[Act.put,sPd,sPe,sPf,sPa,sPb,sPc]);with_reducible rfl)):
  uU P md ops Q (xM s A B) (a9+1) listed a w:=qIM i hG h hi a6 a8 a7 hs hf hr hw hv hQ ha
theorem uY {w:World}(hr:Region.ready md ops listed=[])(h:Q .normal a w):∀fuel,uU P md ops Q G fuel listed a w
 | 0=>⟨hr,h⟩
 | _+1=>⟨fun _=>h,by rw[hr];simp⟩
theorem oneG {w:World}(hr:Region.ready md ops listed=[i])(ho:ops[i]?=some o)(h:∀K':Act->World->Prop,Shut (∀a w,G (listed.setIfInBounds i true) w->uU P md ops Q G a9 (listed.setIfInBounds i true) a w->K' a w)->if Region.wanted o (yielded ops a.tmps)=true then Oper.wp P o a w K' Q else K' (a.put o.dst undef) w):uU P md ops Q G (a9+1) listed a w:=by
 refine⟨fun h0=>(by rw[hr]at h0;cases h0),fun j hj=>?_⟩;rw[hr]at hj;have:j=i:=by simpa using hj
 subst this;exact wpOp_step ho (fun K' hK=>h K' (fun a w hG hW=>hK a w ⟨hG,hW⟩))
theorem jg (i : Nat) {o : Oper} {fuel : Nat} {listed : Array Bool} {a : Act} {w : World}
    (h : ∀ K' : Act → World → Prop, Shut (∀ a w, G (listed.setIfInBounds i true) w → uU P md ops Q G fuel (listed.setIfInBounds i true) a w → K' a w) → if Region.wanted o (yielded ops a.tmps) = true then Oper.wp P o a w K' Q else K' (a.put o.dst undef) w)
    (hr : Region.ready md ops listed = [i] := by kernel_rfl) (ho : ops[i]? = some o := by rfl) :
    uU P md ops Q G (fuel + 1) listed a w := oneG hr ho h
theorem twoG {o':Oper}{w:World}(hr:Region.ready md ops listed=[i,j])(ho:ops[i]?=some o)(a8:ops[j]?=some o')(h:∀K':Act->World->Prop,Shut (∀a w,G (listed.setIfInBounds i true) w->uU P md ops Q G a9 (listed.setIfInBounds i true) a w->K' a w)->if Region.wanted o (yielded ops a.tmps)=true then Oper.wp P o a w K' Q else K' (a.put o.dst undef) w)(h':∀K':Act->World->Prop,Shut (∀a w,G (listed.setIfInBounds j true) w->uU P md ops Q G a9 (listed.setIfInBounds j true) a w->K' a w)->if Region.wanted o' (yielded ops a.tmps)=true then Oper.wp P o' a w K' Q else K' (a.put o'.dst undef) w):uU P md ops Q G (a9+1) listed a w:=by
 refine⟨fun h0=>(by rw[hr]at h0;cases h0),fun k hk=>?_⟩;rw[hr]at hk;rcases (by simpa using hk:k=i\/k=j) with rfl|rfl
 ·exact wpOp_step ho (fun K' hK=>h K' (fun a w hG hW=>hK a w ⟨hG,hW⟩))
 exact wpOp_step a8 (fun K' hK=>h' K' (fun a w hG hW=>hK a w ⟨hG,hW⟩))
theorem yI {id:Nat}{w:World}(hm:P.follows .mixedOrders=true)(h:uU P .any ops Q G ops.size (Array.replicate ops.size false) a w.drew):(Code.region id ops true).wp P Q a w :=
 wp_region_any hm (dE _ _ _ _ h)
end
theorem jU (p q:Nat->Bool)(a9:∀j,q j=true->p j=true):∀l:List Nat,(l.filter q).length<=(l.filter p).length
 | []=>Nat.le_refl _
 | x::l=>by
  have ih:=jU p q a9 l
  by_cases hq:q x=true
  ·rw[List.filter_cons_of_pos hq,List.filter_cons_of_pos (a9 x hq)]
   simp only[List.length_cons];omega
  ·rw[List.filter_cons_of_neg hq]
   by_cases hp:p x=true
   ·rw[List.filter_cons_of_pos hp];simp only[List.length_cons];omega
   ·rw[List.filter_cons_of_neg hp];exact ih
theorem jS (p q:Nat->Bool)(a9:∀j,q j=true->p j=true){i:Nat}(hp:p i=true)(hq:q i=false):∀l:List Nat,i∈l->(l.filter q).length<(l.filter p).length
 | [],h=>by cases h
 | x::l,h=>by
  rcases List.mem_cons.1 h with rfl|h'
  ·have:=jU p q a9 l
   rw[List.filter_cons_of_pos hp,List.filter_cons_of_neg (by rw[hq];simp)]
   simp only[List.length_cons];omega
  ·have ih:=jS p q a9 hp hq l h'
   by_cases hqx:q x=true
   ·rw[List.filter_cons_of_pos hqx,List.filter_cons_of_pos (a9 x hqx)]
    simp only[List.length_cons];omega
   ·rw[List.filter_cons_of_neg hqx]
    by_cases hpx:p x=true
    ·rw[List.filter_cons_of_pos hpx];simp only[List.length_cons];omega
    ·rw[List.filter_cons_of_neg hpx];exact ih
section
variable {P:Program} {md:Region.Mode} {ops:Array Oper} {Q:Exit->Act->World->Prop}
def qEQ (ops:Array Oper)(listed:Array Bool):Nat:=((List.range ops.size).filter fun i=>!listed.getD i true).length
theorem dK (hi:i∈Region.ready md ops listed):qEQ ops (listed.setIfInBounds i true)<qEQ ops listed:=by
 obtain⟨h0,o,ho,_⟩:=mem_ready.1 hi
 have h1:i<ops.size:=by
  rcases Nat.lt_or_ge i ops.size with h|h
  ·exact h
  rw[Array.getElem?_eq_none h]at ho;cases ho
 refine jS _ _ (fun j hj=>?_) (i:=i) (by rw[h0];rfl) (by rw[tG];rfl) _ (List.mem_range.2 h1);by_cases e:i=j
 ·subst e;rw[tG]at hj;cases hj
 rwa [Go.getD_set_ne true e]at hj
end
end Go.Proofs.YtiknckajkdlppaaGreat
