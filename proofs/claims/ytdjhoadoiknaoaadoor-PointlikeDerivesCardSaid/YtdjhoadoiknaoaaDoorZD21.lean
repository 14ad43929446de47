/- Part 21 of the proof: OfS. -/
import Derived.Test.YtdjhoadoiknaoaaDoorZD20
set_option linter.unusedVariables false
set_option linter.unusedSimpArgs false
namespace Go.Proofs.YtdjhoadoiknaoaaDoor
open Go.RowKit
theorem mk_bool (n:Nat) (h:n≤4096):∀ w:World,(Instr.makeSlice 25 (.int .i64 (n:Int)) (.int .i64 (n:Int))).run Tryd.prog w=.ok (.slice (some ⟨w.heap.size,0,none⟩) n n) (w.alloc (.cells (madeCells #[.bool false] n) 4)) :=
 fun w=>run_make_row' 25 4 (.bool false) 1 Tryd.underlying25 (by kernel_rfl) rfl .i64 .i64 n (by omega) (by omega) w
theorem made_bool (n:Nat):(madeCells #[.bool false] n).toList=bls (List.replicate n false):=by
 have:=jO (z:=.bool false) rfl n
 rw [Nat.mul_one] at this
 rw [vS];exact this
structure SynV where
 k:Nat
 tab:List (List Nat)
 words:List (List Nat)
 images:List Nat
 accept:List Bool
 plus:List Bool
def qI (B:Nat) (w:World) (v:Value) (ts:List (List Nat)):Prop:=∃ hs,RowT B 22 w v hs∧rY B 3 nats w hs ts
theorem qI.tmat {B:Nat} {w:World} {v:Value} {ts:List (List Nat)} (h:qI B w v ts):TMat B w v ts:=by
 obtain ⟨hs,h1,h2⟩:=h
 exact ⟨hs,h1.row,h2⟩
theorem qI.kept {B:Nat} {w w':World} {v:Value} {ts:List (List Nat)} {row:Option Nat} (h:qI B w v ts) (hg:w.grownBy w' row) (h1:∀ k,row=some k→B≤k∨wK w 22 k) (h2:∀ k,row=some k→B≤k∨wK w 3 k):qI B w' v ts:=by
 obtain ⟨hs,h3,h4⟩:=h
 exact ⟨hs,h3.kept hg h1,h4.kept hg h2⟩
theorem qI.mono {B B':Nat} {w:World} {v:Value} {ts:List (List Nat)} (h:qI B w v ts) (hB:B≤B'):qI B' w v ts:=by
 obtain ⟨hs,h3,h4⟩:=h
 exact ⟨hs,h3.mono hB,h4.mono hB⟩
theorem TX.tmatT {X:Nat→Prop} {w:World} {v:Value} {ts:List (List Nat)} (h:TX X w v ts):qI w.heap.size w v ts:=by
 obtain ⟨hs,h1,h2⟩:=h
 exact ⟨hs,h1.1,h2.rowsT⟩
def qAD (B:Nat) (w:World) (v:Value) (S:SynV):Prop:=∃ vT vW vI vA vP,v=.agg #[.int .i64 S.k,vT,vW,vI,vA,vP]∧qI B w vT S.tab∧RowT B 9 w vW (tX S.words)∧RowT B 3 w vI (nats S.images)∧RowT B 4 w vA (bls S.accept)∧RowT B 4 w vP (bls S.plus)
def SynNo (e:TypeId):Prop:=22≠e∧3≠e∧9≠e∧4≠e
theorem qAD.kept {B:Nat} {w w':World} {v:Value} {S:SynV} {row:Option Nat} (h:qAD B w v S) (hg:w.grownBy w' row) (hr:∀ k,row=some k→B≤k∨∃ c e m,w.heap[k]?=some (.cells c e m)∧SynNo e):qAD B w' v S:=by
 obtain ⟨vT,vW,vI,vA,vP,rfl,h1,h2,h3,h4,h5⟩:=h
 have t:∀ e',(∀ e,SynNo e→e'≠e)→∀ k,row=some k→B≤k∨wK w e' k:=fun e' he k hk=>by
  rcases hr k hk with h|⟨c,e,m,hb,hn⟩
  ·exact .inl h
  ·exact .inr ⟨c,e,m,hb,fun e1=>he e hn e1.symm⟩
 exact ⟨vT,vW,vI,vA,vP,rfl,h1.kept hg (t _ (fun e h=>h.1)) (t _ (fun e h=>h.2.1)),h2.kept hg (t _ (fun e h=>h.2.2.1)),h3.kept hg (t _ (fun e h=>h.2.1)),h4.kept hg (t _ (fun e h=>h.2.2.2)),h5.kept hg (t _ (fun e h=>h.2.2.2))⟩
theorem qAD.mono {B B':Nat} {w:World} {v:Value} {S:SynV} (h:qAD B w v S) (hB:B≤B'):qAD B' w v S:=by
 obtain ⟨vT,vW,vI,vA,vP,rfl,h1,h2,h3,h4,h5⟩:=h
 exact ⟨vT,vW,vI,vA,vP,rfl,h1.mono hB,h2.mono hB,h3.mono hB,h4.mono hB,h5.mono hB⟩
def accE (fin:List Bool) (st:Nat) (el:List (List Nat)):List Bool:=el.map fun f=>fin.getD (f.getD st 0) false
def imgE (gs el:List (List Nat)):List Nat:=gs.map fun g=>el.idxOf g
def rP (pr la:List Int) (m:Nat):List (List Nat):=(List.range m).map (rQ pr la)
def jG (m:Nat) (l:List Nat):List Bool:=l.foldl (fun ps x=>ps.set x true) (List.replicate m false)
def SynE (gs:List (List Nat)) (n st:Nat) (fin:List Bool) (S:SynV):Prop:=∃ (el:List (List Nat)) (pr la:List Int) (ri:List (List Nat)) (mm:List Nat),Enm gs n el pr la ri el.length∧el.length≤400∧S.k=gs.length∧S.tab=tabE pr la ri el.length∧S.words=rP pr la el.length∧S.images=imgE gs el∧S.accept=accE fin st el ∧
 GenI (tabI S.tab) S.images mm∧bP (tabI S.tab) mm∧S.plus=jG el.length (kK (metL el.length mm))
def OfOk (gs:List (List Nat)) (n st:Nat) (fin:List Bool) (w:World) (e:Ending) (w':World):Prop :=
 (e=.returned (.tuple #[.agg #[.int .i64 0,.slice none 0 0,.slice none 0 0,.slice none 0 0,.slice none 0 0,.slice none 0 0],.int .i64 3])∧Big n∧w.grownBy w' none) ∨
 ∃ (S:SynV) (v:Value),e=.returned (.tuple #[v,.int .i64 0])∧SynE gs n st fin S∧qAD w'.heap.size w' v S∧w.grownBy w' none
theorem kW (pr la:List Int) (m:Nat):(rP pr la m).length=m:=by simp [rP]
theorem wordsE_take {pr la:List Int} {m q:Nat} (hq:q < m):tX ((rP pr la m).take q) ++ [.string (strOfNums (lets (rQ pr la q)))]=tX ((rP pr la m).take (q+1)):=by
 rw [List.take_succ_eq_append_getElem (by rw [kW];exact hq)]
 simp [tX,rP]
theorem accE_take {fin:List Bool} {st q:Nat} {el:List (List Nat)} (hq:q < el.length):bls ((accE fin st el).take q) ++ [.bool (fin.getD ((el.getD q []).getD st 0) false)]=bls ((accE fin st el).take (q+1)):=by
 rw [List.take_succ_eq_append_getElem (by simpa [accE] using hq),zY hq]
 simp [bls,accE]
theorem imgE_take {gs el:List (List Nat)} {q:Nat} (hq:q < gs.length):nats ((imgE gs el).take q) ++ [.int .i64 ((el.idxOf (gs.getD q []):Nat):Int)]=nats ((imgE gs el).take (q+1)):=by
 rw [List.take_succ_eq_append_getElem (by simpa [imgE] using hq),zY hq]
 simp [nats,imgE]
theorem TX.of_own {w:World} {o P g n:Nat} {v:Value} {ts:List (List Nat)} {e e':TypeId} {c c' c2:Array Value} {m m' m2:Nat × Nat} (h:OwnT 0 w v n ts) (hb:w.heap[o]?=some (.cells c e m)) (hP:w.heap[P]?=some (.cells c' e m')) (hgb:w.heap[g]?=some (.cells c2 e' m2)) (h1:e≠22) (h2:e≠3) (h3:e'≠22) (h4:e'≠3):TX (fun j=>j < w.heap.size∧j≠o∧j≠P∧j≠g) w v ts:=by
 obtain ⟨hsG,hoG,hrG,hlG⟩:=h
 refine ⟨hsG,⟨RowT.of_owns hoG,fun j hj=>⟨(hoG.lt j hj).2,fun e1=>zS hoG hb (Ne.symm h1) (e1 ▸ hj),fun e1=>zS hoG hP (Ne.symm h1) (e1 ▸ hj),fun e1=>zS hoG hgb (Ne.symm h3) (e1 ▸ hj)⟩⟩,hrG.1,fun i h5 h6=>⟨hrG.2 i h5 h6,fun j hj=>?_⟩⟩
 rcases hrG.2 i h5 h6 with ⟨e,_⟩|⟨b,off,cap,cur,m,e,e2,e3,e4,e5,e6⟩
 ·rw [e] at hj;simp [Value.ownBlock] at hj
 ·rw [e] at hj
  have hj:b=j:=by simpa [Value.ownBlock] using hj
  subst hj
  refine ⟨zQ e5,fun e7=>?_,fun e7=>?_,fun e7=>?_⟩
  ·subst e7;rw [hb] at e5;simp at e5;exact h2 e5.2.1
  ·subst e7;rw [hP] at e5;simp at e5;exact h2 e5.2.1
  ·subst e7;rw [hgb] at e5;simp at e5;exact h4 e5.2.1
theorem findT_in {ts:List (List Nat)} {f:List Nat} (h:f∈ts):mW ts f=((ts.idxOf f:Nat):Int):=by unfold mW;rw [if_pos h]
theorem plusE_snoc (m:Nat) (l:List Nat) (x:Nat):jG m (l ++ [x])=(jG m l).set x true:=by simp [jG,List.foldl_append]
theorem plusE_length (m:Nat) (l:List Nat):(jG m l).length=m:=by
 suffices h:∀ (l:List Nat) (ps:List Bool),(l.foldl (fun ps x=>ps.set x true) ps).length=ps.length by
  rw [jG,h,List.length_replicate]
 intro l
 induction l with
 | nil=>intro ps;rfl
 | cons x l ih=>intro ps;rw [List.foldl_cons,ih,List.length_set]
theorem nats_at {l:List Nat} {i:Nat} (h:i < (nats l).length):(nats l)[i]=.int .i64 ((l.getD i 0:Nat):Int):=by
 rw [zY (by simpa [nats] using h)];simp [nats]
theorem bls_at {l:List Bool} {i:Nat} (h:i < (bls l).length):(bls l)[i]=.bool (l.getD i false):=by
 rw [zY (by simpa [bls] using h)];simp [bls]
theorem membL_lt {bs:List Bool} {x:Nat} (h:x∈kK bs):x < bs.length:=by
 have:=List.mem_filter.1 h
 exact List.mem_range.1 this.1
theorem pD (gs el:List (List Nat)):(imgE gs el).length=gs.length:=by simp [imgE]
theorem accE_length (fin:List Bool) (st:Nat) (el:List (List Nat)):(accE fin st el).length=el.length:=by simp [accE]
theorem bls_set (l:List Bool) (i:Nat) (c:Bool):(bls l).set i (.bool c)=bls (l.set i c):=by simp [bls,List.map_set]
set_option maxRecDepth 100000 in
set_option maxHeartbeats 4000000 in
theorem of21_any (B C : Nat) (w : World) (v0 v2 : Value) (gs : List (List Nat)) (n st : Nat) (fin : List Bool) (hB : B ≤ w.heap.size) (hC : C ≤ w.heap.size) (h : TMat B w v0 gs) (hf : Row C w v2 (bls fin)) (hfl : fin.length = n) (hst : st < n) (hgs : ∀ g ∈ gs, IsT n g) (h32 : n ≤ 32) (hk1 : 1 ≤ gs.length) (hk6 : gs.length ≤ 6) :
  Calls Tryd.prog 46 #[v0, .int .i64 (st : Int), v2] w (OfOk gs n st fin w) := by
 obtain ⟨gb, gf, gc, rfl, hgc, hgm, hgB, hgw, hghd⟩ := h.head (by omega)
 obtain ⟨fb, fo, fc, rfl, hfC, hfc1, hfc2, hra⟩ := hf.some_ (by rw [vH]; omega)
 rw [vH, hfl] at hfc1 ⊢
 obtain ⟨w1, hw1⟩ : ∃ w1, w1 = w.alloc (.cells #[.int .i64 0, .slice none 0 0, .slice none 0 0, .slice none 0 0, .slice none 0 0, .slice none 0 0] 33) := ⟨_, rfl⟩
 have hg1 : w.grownBy w1 none := by rw [hw1]; exact Ga w _ none
 have hb1 := heap_alloc_new w (.cells #[.int .i64 0, .slice none 0 0, .slice none 0 0, .slice none 0 0, .slice none 0 0, .slice none 0 0] 33)
 rw [← hw1] at hb1
 have HBL := Kh (build12_any B w1 _ gs n (Nat.le_trans hB hg1.size) (h.kept hg1 (by simp)) hgs (by omega) h32 hk1 hk6)
 obtain ⟨P, hP⟩ : ∃ P, P = w.heap.size := ⟨_, rfl⟩
 have HPE := Kh hP; have HW1 := Kh hw1; have HG1 := Kh hg1; have HGS := Kh hgs; have HHD := Kh hghd; have HRA := Kh hra; have HFL := Kh hfl; have HTM := Kh h
 rw [← hP] at hb1
 have HB1 := Kh hb1
 have hgm' : gc ≤ 9223372036854775807 := by unfold maxLen at hgm; omega
 have hfm' : fc ≤ 9223372036854775807 := by unfold maxLen at hfc2; omega
 clear hw1 hg1 hb1 hgs h hf hghd hra hfl
 go_enter Tryd.func46, Tryd.ntmps46
 go_upto_region 1 with fail
 rw [← HW1.out, ← HPE.out]
 clear hP
 go_wp2_with fail
 refine HBL.out.mono ?_
 rintro e w2 (⟨rfl, hbig, hg2⟩ | ⟨el, pr, la, ri, m, gN, uN, gA, uA, gC, uC, vP, vL, vR, sE, cE, rfl, hen, hl, hm2, hE, hPr, hLa, hR, hg2⟩)
 ·have HBIG := Kh hbig
  clear hbig
  have hb2 := zE HB1.out hg2 (by simp)
  obtain ⟨w3, hw3⟩ : ∃ w3, w3 = w2.alloc (.cells #[.int .i64 0, .bool false, .slice none 0 0, .slice none 0 0, .slice none 0 0, .slice none 0 0, .slice none 0 0, .slice none 0 0, .int .i64 0] 106) := ⟨_, rfl⟩
  have hg3 : w2.grownBy w3 none := by rw [hw3]; exact Ga w2 _ none
  have hb3 := zE hb2 hg3 (by simp)
  have HB3 := Kh hb3; have HG3 := Kh (zG (zG HG1.out hg2 (by simp)) hg3 (by simp)); have HW3 := Kh hw3
  obtain ⟨p0, p1, p2, p3, p4, p5⟩ := yT hb3
  have f0 := zD hb3 0; have f1 := zD hb3 1; have f2 := zD hb3 2; have f3 := zD hb3 3; have f4 := zD hb3 4; have f5 := zD hb3 5
  clear hg2 hb2 hw3 hg3 hb3
  go_upto_region 2 with fail
  rw [← HW3.out]
  go_wp2
  refine bodyPost_ret (v := .tuple #[.agg #[.int .i64 0, .slice none 0 0, .slice none 0 0, .slice none 0 0, .slice none 0 0, .slice none 0 0], .int .i64 3]) (by simp [results, Tryd.results46, go_sem, p0, p1, p2, p3, p4, p5]) rfl ?_
  obtain ⟨hsZ, hgZ⟩ := tP HB3.out (.int .i64 0) (.slice none 0 0) (.slice none 0 0) (.slice none 0 0) (.slice none 0 0) (.slice none 0 0)
  exact .inl ⟨rfl, HBIG.out, zG HG3.out hgZ (fun j e => by have e : P = j := Oj e; have := HPE.out; omega)⟩
 ·obtain ⟨pA, pC, rfl⟩ := hPr.shape
  obtain ⟨lA, lC, rfl⟩ := hLa.shape
  obtain ⟨rA, rC, rfl⟩ := hR.shape
  rw [zM, hen.en.l2, hl] at hPr ⊢
  rw [zM, hen.en.l3, hl] at hLa ⊢
  rw [hen.rl] at hR ⊢
  obtain ⟨eb, eo, ec, ee, hec, hem, heB, hew, hehd⟩ := hE.head (by have := hen.en.pos; omega)
  rw [hl] at ee hec
  simp only [Value.slice.injEq] at ee
  obtain ⟨rfl, _, rfl⟩ := ee
  have hem' : cE ≤ 9223372036854775807 := by unfold maxLen at hem; omega
  have hb2 := zE HB1.out hg2 (by simp)
  obtain ⟨w3, hw3⟩ : ∃ w3, w3 = w2.alloc (.cells #[.int .i64 n, .bool true, .slice gA gN gC, .slice (some ⟨eb, eo, none⟩) m cE, .slice pA m pC, .slice lA m lC, .slice rA m rC, .slice uA uN uC, .int .i64 m] 106) := ⟨_, rfl⟩
  have hg3 : w2.grownBy w3 none := by rw [hw3]; exact Ga w2 _ none
  have hb8 := heap_alloc_new w2 (.cells #[.int .i64 n, .bool true, .slice gA gN gC, .slice (some ⟨eb, eo, none⟩) m cE, .slice pA m pC, .slice lA m lC, .slice rA m rC, .slice uA uN uC, .int .i64 m] 106)
  rw [← hw3] at hb8
  obtain ⟨b8, he8⟩ : ∃ b8, b8 = w2.heap.size := ⟨_, rfl⟩
  rw [← he8] at hb8
  have hb3 := zE hb2 hg3 (by simp)
  have hP8 : P < b8 := by have := zQ hb2; omega
  have HB3 := Kh hb3; have HG3 := Kh (zG (zG HG1.out hg2 (by simp)) hg3 (by simp)); have HW3 := Kh hw3; have HB8 := Kh hb8; have HE8 := Kh he8
  have HG23 := Kh hg3
  have HEN := Kh hen; have HL := Kh hl; have HE := Kh hE; have HEH := Kh hehd; have HPR := Kh hPr; have HLA := Kh hLa; have HR := Kh hR
  have hm1 : 1 ≤ m := by rw [← hl]; exact hen.en.pos
  obtain ⟨p0, p1, p2, p3, p4, p5⟩ := yT hb3
  have f0 := zD hb3 0; have f1 := zD hb3 1; have f2 := zD hb3 2; have f3 := zD hb3 3; have f4 := zD hb3 4; have f5 := zD hb3 5
  obtain ⟨q0, q1, q2, q3, q4, q5, q6, q7, q8⟩ := zX hb8
  clear hg2 hb2 hw3 hg3 hb3 hb8 hen hl hE hPr hLa hR he8 hehd heB hew q0 q1 q2 q4 q5 q6 q7 q8
  go_upto_region 2 with fail
  rw [← HW3.out, ← HE8.out]
  by_cases hm4 : 400 < m
  ·have hm4' : (400 : Int) < m := by omega
   go_wp2
   refine bodyPost_ret (v := .tuple #[.agg #[.int .i64 0, .slice none 0 0, .slice none 0 0, .slice none 0 0, .slice none 0 0, .slice none 0 0], .int .i64 3]) (by simp [results, Tryd.results46, go_sem, p0, p1, p2, p3, p4, p5]) rfl ?_
   obtain ⟨hsZ, hgZ⟩ := tP HB3.out (.int .i64 0) (.slice none 0 0) (.slice none 0 0) (.slice none 0 0) (.slice none 0 0) (.slice none 0 0)
   exact .inl ⟨rfl, ⟨el, HEN.out.en.nodup, by rw [HL.out]; exact hm4, HEN.out.en.it⟩, zG HG3.out hgZ (fun j e => by have e : P = j := Oj e; have := HPE.out; omega)⟩
  ·have hm4' : ¬ (400 : Int) < m := by omega
   obtain ⟨T, hT⟩ : ∃ T, T = tabE pr la ri m := ⟨_, rfl⟩
   obtain ⟨w5, hw5⟩ : ∃ w5, w5 = w3.drew := ⟨_, rfl⟩
   have hg5 : w3.grownBy w5 none := by rw [hw5]; exact zT w3 none
   have HW5 := Kh hw5
   have hb85 := zE HB8.out hg5 (by simp)
   have HB85 := Kh hb85
   have HG25 := Kh (zG HG23.out hg5 (by simp))
   have HB5 := Kh (zE HB3.out hg5 (by simp))
   have HG5 := Kh (zG HG3.out hg5 (by simp))
   have hTl : T.length = m := by rw [hT]; exact wU pr la ri m
   have hwo : rJ pr la m gs.length := by have := HEN.out.en.words; rw [HL.out] at this; exact this
   have hro : qAT ri m gs.length := by
    have := HEN.out
    rw [← HL.out] at this ⊢
    exact this.right
   have hpl : pr.length = m := by rw [HEN.out.en.l2, HL.out]
   have hll : la.length = m := by rw [HEN.out.en.l3, HL.out]
   have HTB : Hid (∀ W : World, w5.grownBy W none → Calls Tryd.prog 84 #[.agg #[.int .i64 n, .bool true, .slice gA gN gC, .slice (some ⟨eb, eo, none⟩) m cE, .slice pA m pC, .slice lA m lC, .slice rA m rC, .slice uA uN uC, .int .i64 m]] W (eZ W T)) := Kh (fun W hg => by
    have hg2 := zG HG25.out hg (by simp)
    rw [hT]
    exact table12_any W.heap.size W.heap.size W.heap.size W _ _ _ _ _ _ cE _ _ _ pr la ri m gs.length (Nat.le_refl _) (Nat.le_refl _) (Nat.le_refl _) ((HPR.out.kept hg2 (by simp)).mono hg2.size) ((HLA.out.kept hg2 (by simp)).mono hg2.size) ((HR.out.kept hg2 (by simp)).mono hg2.size) hpl hll hwo hro hk6 (by omega))
   have HWO := Kh hwo; have HTE := Kh hT; have HTL := Kh hTl; have HPL := Kh hpl; have HLLn := Kh hll
   have hmk := mk_bool m (by omega)
   have hmkz := Kh (made_bool m)
   have hmx : m ≤ maxLen := by unfold maxLen; omega
   have C := Kh (zX hb85)
   clear hg5 hw5 hb85 hwo hro hpl hll hT
   go_upto_region 4 with fail
   refine wp_region_noPanic ?_
   refine yY (G := vV 10 (fun W => W.cell? ⟨b8, 0, none⟩ = some (.int .i64 n) ∧ W.cell? ⟨b8, 1, none⟩ = some (.bool true) ∧ W.cell? ⟨b8, 2, none⟩ = some (.slice gA gN gC) ∧ W.cell? ⟨b8, 3, none⟩ = some (.slice (some ⟨eb, eo, none⟩) m cE) ∧ W.cell? ⟨b8, 4, none⟩ = some (.slice pA m pC) ∧ W.cell? ⟨b8, 5, none⟩ = some (.slice lA m lC) ∧ W.cell? ⟨b8, 6, none⟩ = some (.slice rA m rC) ∧ W.cell? ⟨b8, 7, none⟩ = some (.slice uA uN uC) ∧ W.cell? ⟨b8, 8, none⟩ = some (.int .i64 m)) (fun _ => True)) (by kernel_rfl) ?_
   rw [← HW5.out]
   refine takeC (i := 0) (v := ?_) rfl rfl (Or.inl ⟨by rfl, ?_⟩) ⟨C.out, fun _ => trivial⟩ ?_
   rotate_left
   ·(intro wz hz; (try dsimp only at hz); go_simp; (try with_reducible rfl))
   try simp only [Act.put, sPa, sPb, sPc]
   refine takeC (i := 1) (v := ?_) rfl rfl (Or.inl ⟨by rfl, ?_⟩) ⟨C.out, fun _ => trivial⟩ ?_
   rotate_left
   ·(intro wz hz; (try dsimp only at hz); go_simp; (try with_reducible rfl))
   try simp only [Act.put, sPa, sPb, sPc]
   refine takeC (i := 2) (v := ?_) rfl rfl (Or.inl ⟨by rfl, ?_⟩) ⟨C.out, fun _ => trivial⟩ ?_
   rotate_left
   ·(intro wz hz; (try dsimp only at hz); go_simp; (try with_reducible rfl))
   try simp only [Act.put, sPa, sPb, sPc]
   refine takeC (i := 4) (v := ?_) rfl rfl (Or.inl ⟨by rfl, ?_⟩) ⟨C.out, fun _ => trivial⟩ ?_
   rotate_left
   ·(intro wz hz; (try dsimp only at hz); go_simp; (try with_reducible rfl))
   try simp only [Act.put, sPa, sPb, sPc]
   refine takeC (i := 5) (v := ?_) rfl rfl (Or.inl ⟨by rfl, ?_⟩) ⟨C.out, fun _ => trivial⟩ ?_
   rotate_left
   ·(intro wz hz; (try dsimp only at hz); go_simp; (try with_reducible rfl))
   try simp only [Act.put, sPa, sPb, sPc]
   refine takeC (i := 6) (v := ?_) rfl rfl (Or.inl ⟨by rfl, ?_⟩) ⟨C.out, fun _ => trivial⟩ ?_
   rotate_left
   ·(intro wz hz; (try dsimp only at hz); go_simp; (try with_reducible rfl))
   try simp only [Act.put, sPa, sPb, sPc]
   refine tF (fun Wp hWp a0 ha0 => ?_)
   subst hWp
   simp only [Act.put, List.getElem_toArray, List.getElem_cons_zero, List.getElem_cons_succ, sPa, sPb, sPc] at ha0
   have HA0 := Kh ha0
   refine tE (I := of4I gs.length m b8 T (.slice (some ⟨gb, gf, none⟩) gs.length gc) (.int .i64 n) (.bool true) (.slice gA gN gC) (.slice (some ⟨eb, eo, none⟩) m cE) (.slice pA m pC) (.slice lA m lC) (.slice rA m rC) (.slice uA uN uC) (.int .i64 m) w5 a0) (fun l a w h => of4_G HB85.out h) (of4_steps ha0 HTB.out hTl hmk hmkz hmx) (by kernel_rfl) ?hend (by decide +kernel) ?hinit
   case hinit =>
    clear ha0
    refine ⟨a0.tmps.getD 34 undef, a0.tmps.getD 38 undef, a0.tmps.getD 39 undef, a0.tmps.getD 10 undef, 0, (uI (by simp)).symm, by decide +kernel, Kh (fun h => absurd h (by decide +kernel)), Kh (fun h => absurd h (by decide +kernel)), Kh (fun h => absurd h (by decide +kernel)), Kh (fun h => absurd h (by decide +kernel)), Kh (fun h => absurd h (by decide +kernel)), Kh (fun h => absurd h (by decide +kernel)), zW _ _⟩
   case hend =>
    clear ha0
    intro l a w6 h hall
    obtain ⟨x34, x38, x39, x10, o, ha, HR, H3, H7, H8, H9, B1, B2, HG⟩ := h
    obtain ⟨sT, cT, rfl, hown6⟩ := H3.out (hall 3 (by decide))
    obtain ⟨gp, rfl, hA6⟩ := H7.out (hall 7 (by decide))
    obtain ⟨_, _, rfl⟩ := H8.out (hall 8 (by decide))
    obtain ⟨rfl, ho6⟩ := H9.out (hall 9 (by decide))
    obtain ⟨_, _, _, _, hb6⟩ := B2.out (hall 10 (by decide))
    clear H3 H7 H8 H9 B1 B2 HR
    subst ha
    rw [HA0.out]
    simp only [zL, List.foldl_cons, List.foldl_nil, Act.put, sPa, sPb, sPc]
    refine NoPanic.normal ?_
    obtain ⟨Q, hQ⟩ : ∃ Q, Q = w5.heap.size := ⟨_, rfl⟩
    have hP5 := zQ HB5.out
    have hbP6 := zE HB5.out HG (by simp)
    obtain ⟨kp, hkp1, _, _, hAp⟩ := yK hA6 (by omega)
    have hkp1 : gp = kp := by simpa using hkp1
    subst hkp1
    obtain ⟨cp, _, hgp6, _⟩ := hAp
    have hTX := TX.of_own hown6 hb6 hbP6 hgp6 (by decide) (by decide) (by decide) (by decide)
    obtain ⟨X, hX⟩ : ∃ X : Nat → Prop, X = fun j => j < w6.heap.size ∧ j ≠ o ∧ j ≠ P ∧ j ≠ gp := ⟨_, rfl⟩
    rw [← hX] at hTX
    rw [← hQ] at hA6 hP5 ho6
    have hXP : ¬ X P := fun h => by rw [hX] at h; exact h.2.2.1 rfl
    have hS0 : BoxS Q X o 33 w5 w6 [⟨Q, 4, .slice (some ⟨gp, 0, none⟩) m m, m, bls (List.replicate m false), 1⟩] #[.int .i64 gs.length, .slice sT m cT, .slice none 0 0, .slice none 0 0, .slice none 0 0, .slice (some ⟨gp, 0, none⟩) m m] w6 :=
     ⟨⟨fun r hr => by rw [List.mem_singleton] at hr; subst hr; exact hA6, by simp, fun r hr k hk hx => by
       rw [List.mem_singleton] at hr; subst hr
       have hk : gp = k := by simpa [Value.ownBlock] using hk
       subst hk; rw [hX] at hx; exact hx.2.2.2 rfl, fun k hx => by rw [hX] at hx; exact hx.1⟩, fun r hr => by rw [List.mem_singleton] at hr; subst hr; exact ⟨rfl, by simp⟩, hb6, fun h => by rw [hX] at h; exact h.2.1 rfl, by omega, by omega, by rw [hQ]; exact HG.size, HG, wY.refl _ _, Nat.le_refl _⟩
    have hS1 : BoxS Q X o 33 w5 w6 [⟨Q, 4, .slice (some ⟨gp, 0, none⟩) m m, m, bls (List.replicate m false), 1⟩, ⟨Q, 9, .slice none 0 0, 0, [], 1⟩, ⟨Q, 4, .slice none 0 0, 0, [], 1⟩, ⟨Q, 3, .slice none 0 0, 0, [], 1⟩] #[.int .i64 gs.length, .slice sT m cT, .slice none 0 0, .slice none 0 0, .slice none 0 0, .slice (some ⟨gp, 0, none⟩) m m] w6 := ((hS0.nil (e := 9) (sz := 1) (by decide)).nil (e := 4) (sz := 1) (by decide)).nil (e := 3) (sz := 1) (by decide)
    have HS1 := Kh hS1; have HTX := Kh hTX; have HXP := Kh hXP; have HQ := Kh hQ; have HP5 := Kh hP5; have HO6 := Kh ho6; have HG6 := Kh HG
    have hq36 := yD (zX HB85.out).2.2.2.1 HG
    clear hS0 hS1 hTX hX hXP hA6 hP5 hbP6 hown6 hb6 hgp6 hQ ho6 HG hmk hmkz hTl
    go_wp2
    go_loopg [11, 12, 43] m (fun gh v11 v12 i wr => ∃ (q : Nat) (sW : Option Addr) (cW : Nat) (sA : Option Addr) (cA : Nat), gh + q = m ∧ i = .int .i64 q ∧ BoxS Q X o 33 w5 w6 [⟨Q, 4, .slice (some ⟨gp, 0, none⟩) m m, m, bls (List.replicate m false), 1⟩, ⟨Q, 9, .slice sW q cW, q, tX ((rP pr la m).take q), 1⟩, ⟨Q, 4, .slice sA q cA, q, bls ((accE fin st el).take q), 1⟩, ⟨Q, 3, .slice none 0 0, 0, [], 1⟩] #[.int .i64 gs.length, .slice sT m cT, .slice sW q cW, .slice none 0 0, .slice sA q cA, .slice (some ⟨gp, 0, none⟩) m m] wr)
    case atStart => exact ⟨0, none, 0, none, 0, by omega, rfl, HS1.out⟩
    case round =>
     obtain ⟨q, sW, cW, sA, cA, hgh, rfl, hS⟩ := hrel
     have HGH := Kh hgh; have HS := Kh hS; have HSG := Kh hS.grown
     clear hgh hS HS1
     by_cases hq : q < m
     ·have hq' : (q : Int) < m := by omega
      obtain ⟨xa, xc, hxc, hxr⟩ := HEH.out q (by rw [HL.out]; exact hq)
      have hxT : IsT n (el.getD q []) := HEN.out.en.it _ (tH (by rw [HL.out]; exact hq))
      rw [hxT.1] at hxc hxr
      have hxc2 := yD hxc (zG HG25.out HSG.out (by simp))
      obtain ⟨xb, xo, xc', exa, hxB, hxc3, hxm, hxra⟩ := hxr.row.some_ (by rw [zN, hxT.1]; omega)
      rw [zN, hxT.1] at exa
      simp only [Value.slice.injEq] at exa
      obtain ⟨rfl, _, rfl⟩ := exa
      obtain ⟨y, hy⟩ : ∃ y, y = (el.getD q []).getD st 0 := ⟨_, rfl⟩
      have hyn : y < n := by rw [hy]; exact hxT.get hst
      have hyc : w2.cell? ⟨xb, xo + st, none⟩ = some (.int .i64 (y : Int)) := by
       have := hxra.2 st (by rw [zN, hxT.1]; exact hst)
       rw [this, nats_at, hy]
      obtain ⟨bb, hbb⟩ : ∃ bb, bb = fin.getD y false := ⟨_, rfl⟩
      have hbc : w.cell? ⟨fb, fo + y, none⟩ = some (.bool bb) := by
       have := HRA.out.2 y (by rw [vH, HFL.out]; exact hyn)
       rw [this, bls_at, hbb]
      have hxm' : xc ≤ 9223372036854775807 := by rw [zN] at hxc3; unfold maxLen at hxm; omega
      have hxc4 : n ≤ xc := by rw [zN, hxT.1] at hxc3; exact hxc3
      have HXS2 : Hid (bls ((accE fin st el).take q) ++ [.bool bb] = bls ((accE fin st el).take (q + 1))) := Kh (by
       rw [hbb, hy]; exact accE_take (by rw [HL.out]; exact hq))
      have HYC := Kh hyc; have HBC := Kh hbc
      have HWD : Hid (∀ W : World, w5.grownBy W none → Calls Tryd.prog 85 #[.agg #[.int .i64 n, .bool true, .slice gA gN gC, .slice (some ⟨eb, eo, none⟩) m cE, .slice pA m pC, .slice lA m lC, .slice rA m rC, .slice uA uN uC, .int .i64 m], .int .i64 (q : Int)] W fun e w' => e = .returned (.string (strOfNums (lets (rQ pr la q)))) ∧ W.grownBy w' none) := Kh (fun W hg => by
       have hg2 := zG HG25.out hg (by simp)
       exact lH W.heap.size W.heap.size W _ _ _ _ _ _ _ _ _ pr la m gs.length q (Nat.le_refl _) (Nat.le_refl _) ((HPR.out.kept hg2 (by simp)).mono hg2.size) ((HLA.out.kept hg2 (by simp)).mono hg2.size) HPL.out HLLn.out HWO.out hk6 (by omega) hq)
      have HCC : Hid (∀ (W : World) (rs : List RowS), BoxS Q X o 33 w5 w6 rs #[.int .i64 gs.length, .slice sT m cT, .slice sW q cW, .slice none 0 0, .slice sA q cA, .slice (some ⟨gp, 0, none⟩) m m] W → W.cell? ⟨o, 2, none⟩ = some (.slice sW q cW) ∧ W.cell? ⟨b8, 0, none⟩ = some (.int .i64 n) ∧ W.cell? ⟨b8, 1, none⟩ = some (.bool true) ∧ W.cell? ⟨b8, 2, none⟩ = some (.slice gA gN gC) ∧ W.cell? ⟨b8, 3, none⟩ = some (.slice (some ⟨eb, eo, none⟩) m cE) ∧ W.cell? ⟨b8, 4, none⟩ = some (.slice pA m pC) ∧ W.cell? ⟨b8, 5, none⟩ = some (.slice lA m lC) ∧ W.cell? ⟨b8, 6, none⟩ = some (.slice rA m rC) ∧ W.cell? ⟨b8, 7, none⟩ = some (.slice uA uN uC) ∧ W.cell? ⟨b8, 8, none⟩ = some (.int .i64 m)) := Kh (fun W rs hS => ⟨(yT hS.box).2.2.1, zX (zE HB85.out hS.grown (by simp))⟩)
      clear hxc hxr hxT hy hyc hbb hbc hxra hxc3 hxB hxm
      obtain ⟨w7, hw7⟩ : ∃ w7, w7 = wr.drew := ⟨_, rfl⟩
      have hg7 : wr.grownBy w7 none := by rw [hw7]; exact zT wr none
      have HW7 := Kh hw7; have HG7 := Kh hg7
      clear hw7 hg7
      go_upto_region 8 with fail
      refine wp_region_noPanic ?_
      refine yY (G := vV 8 (fun _ => True) (fun W => W.cell? ⟨o, 2, none⟩ = some (.slice sW q cW) ∧ W.cell? ⟨b8, 0, none⟩ = some (.int .i64 n) ∧ W.cell? ⟨b8, 1, none⟩ = some (.bool true) ∧ W.cell? ⟨b8, 2, none⟩ = some (.slice gA gN gC) ∧ W.cell? ⟨b8, 3, none⟩ = some (.slice (some ⟨eb, eo, none⟩) m cE) ∧ W.cell? ⟨b8, 4, none⟩ = some (.slice pA m pC) ∧ W.cell? ⟨b8, 5, none⟩ = some (.slice lA m lC) ∧ W.cell? ⟨b8, 6, none⟩ = some (.slice rA m rC) ∧ W.cell? ⟨b8, 7, none⟩ = some (.slice uA uN uC) ∧ W.cell? ⟨b8, 8, none⟩ = some (.int .i64 m))) (by kernel_rfl) ?_
      rw [← HW7.out]
      have HS7 := Kh (HS.out.grow HG7.out)
      have C : Hid (w7.cell? ⟨o, 2, none⟩ = some (.slice sW q cW) ∧ w7.cell? ⟨b8, 0, none⟩ = some (.int .i64 n) ∧ w7.cell? ⟨b8, 1, none⟩ = some (.bool true) ∧ w7.cell? ⟨b8, 2, none⟩ = some (.slice gA gN gC) ∧ w7.cell? ⟨b8, 3, none⟩ = some (.slice (some ⟨eb, eo, none⟩) m cE) ∧ w7.cell? ⟨b8, 4, none⟩ = some (.slice pA m pC) ∧ w7.cell? ⟨b8, 5, none⟩ = some (.slice lA m lC) ∧ w7.cell? ⟨b8, 6, none⟩ = some (.slice rA m rC) ∧ w7.cell? ⟨b8, 7, none⟩ = some (.slice uA uN uC) ∧ w7.cell? ⟨b8, 8, none⟩ = some (.int .i64 m)) := Kh (HCC.out w7 _ HS7.out)
      refine takeC (i := 0) (v := ?_) rfl rfl (Or.inl ⟨by rfl, ?_⟩) ⟨trivial, fun _ => C.out⟩ ?_
      rotate_left
      ·(intro wz hz; (try dsimp only at hz); go_simp; (try with_reducible rfl))
      try simp only [Act.put, sPa, sPb, sPc]
      refine takeD (i := 1) (v := ?_) rfl rfl (Or.inl ⟨by rfl, ?_⟩) ⟨trivial, fun _ => C.out⟩ ?_
      rotate_left
      ·(rintro wz ⟨-, hz⟩; (try dsimp only at hz); go_simp; (try with_reducible rfl))
      try simp only [Act.put, sPa, sPb, sPc]
      refine takeD (i := 2) (v := ?_) rfl rfl (Or.inl ⟨by rfl, ?_⟩) ⟨trivial, fun _ => C.out⟩ ?_
      rotate_left
      ·(rintro wz ⟨-, hz⟩; (try dsimp only at hz); go_simp; (try with_reducible rfl))
      try simp only [Act.put, sPa, sPb, sPc]
      refine takeC (i := 3) (v := ?_) rfl rfl (Or.inl ⟨by rfl, ?_⟩) ⟨trivial, fun _ => C.out⟩ ?_
      rotate_left
      ·(intro wz hz; (try dsimp only at hz); go_simp; (try with_reducible rfl))
      try simp only [Act.put, sPa, sPb, sPc]
      refine oneG (i := 4) (by kernel_rfl) rfl (fun K hK => ?_)
      go_simp
      go_at_call 85
      refine (HWD.out w7 (zG HSG.out HG7.out (by simp))).mono ?_
      rintro e w8 ⟨rfl, hg8⟩
      have HS8 := Kh (HS7.out.grow hg8)
      have C8 : Hid (w8.cell? ⟨o, 2, none⟩ = some (.slice sW q cW) ∧ w8.cell? ⟨b8, 0, none⟩ = some (.int .i64 n) ∧ w8.cell? ⟨b8, 1, none⟩ = some (.bool true) ∧ w8.cell? ⟨b8, 2, none⟩ = some (.slice gA gN gC) ∧ w8.cell? ⟨b8, 3, none⟩ = some (.slice (some ⟨eb, eo, none⟩) m cE) ∧ w8.cell? ⟨b8, 4, none⟩ = some (.slice pA m pC) ∧ w8.cell? ⟨b8, 5, none⟩ = some (.slice lA m lC) ∧ w8.cell? ⟨b8, 6, none⟩ = some (.slice rA m rC) ∧ w8.cell? ⟨b8, 7, none⟩ = some (.slice uA uN uC) ∧ w8.cell? ⟨b8, 8, none⟩ = some (.int .i64 m)) := Kh (HCC.out w8 _ HS8.out)
      refine hK.out _ _ ⟨trivial, fun _ => C8.out⟩ ?_
      clear hK K C HS7 hg8
      try simp only [Act.put, sPa, sPb, sPc]
      obtain ⟨sw, hsw⟩ : ∃ sw, sw = strOfNums (lets (rQ pr la q)) := ⟨_, rfl⟩
      have HXS : Hid (tX ((rP pr la m).take q) ++ [.string sw] = tX ((rP pr la m).take (q + 1))) := Kh (by rw [hsw]; exact wordsE_take hq)
      rw [← hsw]
      clear hsw
      refine oneG (i := 5) (by kernel_rfl) rfl (fun K hK => ?_)
      go_simp
      have hgn := heap_alloc_new w8 (.cells #[.string sw] 9)
      have hg9 := Ga w8 (.cells #[.string sw] 9) none
      obtain ⟨gR, hgR⟩ : ∃ gR, gR = w8.heap.size := ⟨_, rfl⟩
      obtain ⟨w9, hw9⟩ : ∃ w9, w9 = w8.alloc (.cells #[.string sw] 9) := ⟨_, rfl⟩
      rw [← hgR] at hgn ⊢
      rw [← hw9] at hgn hg9 ⊢
      have HS9 := Kh (HS8.out.grow hg9)
      have C9 : Hid (w9.cell? ⟨o, 2, none⟩ = some (.slice sW q cW) ∧ w9.cell? ⟨b8, 0, none⟩ = some (.int .i64 n) ∧ w9.cell? ⟨b8, 1, none⟩ = some (.bool true) ∧ w9.cell? ⟨b8, 2, none⟩ = some (.slice gA gN gC) ∧ w9.cell? ⟨b8, 3, none⟩ = some (.slice (some ⟨eb, eo, none⟩) m cE) ∧ w9.cell? ⟨b8, 4, none⟩ = some (.slice pA m pC) ∧ w9.cell? ⟨b8, 5, none⟩ = some (.slice lA m lC) ∧ w9.cell? ⟨b8, 6, none⟩ = some (.slice rA m rC) ∧ w9.cell? ⟨b8, 7, none⟩ = some (.slice uA uN uC) ∧ w9.cell? ⟨b8, 8, none⟩ = some (.int .i64 m)) := Kh (HCC.out w9 _ HS9.out)
      refine hK.out _ _ ⟨trivial, fun _ => C9.out⟩ ?_
      clear hK K C8 HS8 hgR hw9 hg9
      try simp only [Act.put, sPa, sPb, sPc]
      obtain ⟨hM9, hz9, hpush⟩ := HS9.out.push
      have HPU := Kh hpush
      have hsrc := cM hgn
      clear hpush
      refine oneG (i := 6) (by kernel_rfl) rfl (fun K hK => ?_)
      refine oL rfl (.tmp 49) (.tmp 53) 31 rfl pH.toN 1 _ rfl ⟨_, _, _, _, _, hM9, ⟨Q, 9, .slice sW q cW, q, tX ((rP pr la m).take q), 1⟩, 1, q + 1, _, rfl, rfl, rfl, rfl, hsrc, ?z1, rfl, ?z2, ?z3, ?z4, ?_⟩
      case z1 => intro v hv; simp only [List.mem_cons, List.not_mem_nil, or_false] at hv; subst hv; rfl
      case z2 => unfold maxLen; omega
      case z3 => show (q + 1) * 16 ≤ 140737488355328; omega
      case z4 => exact hz9
      intro sU' cU' wM hMM
      have HSM := Kh (HPU.out wM 1 ⟨Q, 9, .slice sW q cW, q, tX ((rP pr la m).take q), 1⟩ (.slice sU' (q + 1) cU') (q + 1) [.string sw] rfl hMM)
      have CM : Hid (wM.cell? ⟨o, 2, none⟩ = some (.slice sW q cW) ∧ wM.cell? ⟨b8, 0, none⟩ = some (.int .i64 n) ∧ wM.cell? ⟨b8, 1, none⟩ = some (.bool true) ∧ wM.cell? ⟨b8, 2, none⟩ = some (.slice gA gN gC) ∧ wM.cell? ⟨b8, 3, none⟩ = some (.slice (some ⟨eb, eo, none⟩) m cE) ∧ wM.cell? ⟨b8, 4, none⟩ = some (.slice pA m pC) ∧ wM.cell? ⟨b8, 5, none⟩ = some (.slice lA m lC) ∧ wM.cell? ⟨b8, 6, none⟩ = some (.slice rA m rC) ∧ wM.cell? ⟨b8, 7, none⟩ = some (.slice uA uN uC) ∧ wM.cell? ⟨b8, 8, none⟩ = some (.int .i64 m)) := Kh (HCC.out wM _ HSM.out)
      refine hK.out _ _ ⟨trivial, fun _ => CM.out⟩ ?_
      clear hK K C9 HS9 hM9 hz9 HPU hsrc hgn hMM
      try simp only [Act.put, sPa, sPb, sPc]
      refine takeC (i := 7) (v := ?_) rfl rfl (Or.inl ⟨by rfl, ?_⟩) ⟨trivial, fun _ => CM.out⟩ ?_
      rotate_left
      ·(intro wz hz; (try dsimp only at hz); go_simp; (try with_reducible rfl))
      try simp only [Act.put, sPa, sPb, sPc]
      refine oneG (i := 8) (by kernel_rfl) rfl (fun K hK => ?_)
      have q7 := zI HSM.out.box 2 (by simp)
      simp only [List.getElem_toArray, List.getElem_cons_zero, List.getElem_cons_succ] at q7
      have f7 := zD HSM.out.box 2
      go_simp
      refine hK.out _ _ ⟨trivial, fun h => by simp at h⟩ ?_
      clear hK K q7 f7 CM
      try simp only [Act.put, sPa, sPb, sPc]
      refine nW (by kernel_rfl) ?_ _
      refine NoPanic.normal ?_
      obtain ⟨wZ, hwZ⟩ : ∃ wZ, wZ = wM.setCell ⟨o, 2, none⟩ (.slice sU' (q + 1) cU') := ⟨_, rfl⟩
      have hSZ := HSM.out.set 2 (.slice sU' (q + 1) cU')
      rw [← hwZ] at hSZ ⊢
      simp only [sPa, sPb, sPc, HXS.out] at hSZ
      have HSZ := Kh hSZ
      clear hSZ hwZ HSM
      obtain ⟨sW2, rfl⟩ : ∃ s : Option Addr, s = sU' := ⟨_, rfl⟩
      obtain ⟨cW2, rfl⟩ : ∃ s : Nat, s = cU' := ⟨_, rfl⟩
      obtain ⟨wr2, rfl⟩ : ∃ s : World, s = wZ := ⟨_, rfl⟩
      have HS2 := HSZ
      have HSG2 := Kh HS2.out.grown
      clear HSZ HCC HSG HS HG7 HW7 HWD HXS
      have HCC : Hid (∀ (W : World) (rs : List RowS), BoxS Q X o 33 w5 w6 rs #[.int .i64 gs.length, .slice sT m cT, .slice sW2 (q + 1) cW2, .slice none 0 0, .slice sA q cA, .slice (some ⟨gp, 0, none⟩) m m] W → W.cell? ⟨o, 4, none⟩ = some (.slice sA q cA) ∧ W.cell? ⟨xb, xo + st, none⟩ = some (.int .i64 (y : Int)) ∧ W.cell? ⟨fb, fo + y, none⟩ = some (.bool bb)) := Kh (fun W rs hS => ⟨(yT hS.box).2.2.2.2.1, yD HYC.out (zG HG25.out hS.grown (by simp)), yD HBC.out (zG HG5.out hS.grown (by simp))⟩)
      obtain ⟨w7, hw7⟩ : ∃ w7, w7 = wr2.drew := ⟨_, rfl⟩
      have hg7 : wr2.grownBy w7 none := by rw [hw7]; exact zT wr2 none
      have HW7 := Kh hw7; have HG7 := Kh hg7
      clear hw7 hg7
      go_upto_region 9 with fail
      refine wp_region_noPanic ?_
      refine yY (G := vV 12 (fun _ => True) (fun W => W.cell? ⟨o, 4, none⟩ = some (.slice sA q cA) ∧ W.cell? ⟨xb, xo + st, none⟩ = some (.int .i64 (y : Int)) ∧ W.cell? ⟨fb, fo + y, none⟩ = some (.bool bb))) (by kernel_rfl) ?_
      rw [← HW7.out]
      have HS7 := Kh (HS2.out.grow HG7.out)
      have C : Hid (w7.cell? ⟨o, 4, none⟩ = some (.slice sA q cA) ∧ w7.cell? ⟨xb, xo + st, none⟩ = some (.int .i64 (y : Int)) ∧ w7.cell? ⟨fb, fo + y, none⟩ = some (.bool bb)) := Kh (HCC.out w7 _ HS7.out)
      refine takeC (i := 0) (v := ?_) rfl rfl (Or.inl ⟨by rfl, ?_⟩) ⟨trivial, fun _ => C.out⟩ ?_
      rotate_left
      ·(intro wz hz; (try dsimp only at hz); go_simp; (try with_reducible rfl))
      try simp only [Act.put, sPa, sPb, sPc]
      refine takeD (i := 1) (v := ?_) rfl rfl (Or.inl ⟨by rfl, ?_⟩) ⟨trivial, fun _ => C.out⟩ ?_
      rotate_left
      ·(rintro wz ⟨-, hz⟩; (try dsimp only at hz); go_simp; (try with_reducible rfl))
      try simp only [Act.put, sPa, sPb, sPc]
      refine takeC (i := 2) (v := ?_) rfl rfl (Or.inl ⟨by rfl, ?_⟩) ⟨trivial, fun _ => C.out⟩ ?_
      rotate_left
      ·(intro wz hz; (try dsimp only at hz); go_simp; (try with_reducible rfl))
      try simp only [Act.put, sPa, sPb, sPc]
      refine takeC (i := 3) (v := ?_) rfl rfl (Or.inl ⟨by rfl, ?_⟩) ⟨trivial, fun _ => C.out⟩ ?_
      rotate_left
      ·(intro wz hz; (try dsimp only at hz); go_simp; (try with_reducible rfl))
      try simp only [Act.put, sPa, sPb, sPc]
      refine takeC (i := 4) (v := ?_) rfl rfl (Or.inl ⟨by rfl, ?_⟩) ⟨trivial, fun _ => C.out⟩ ?_
      rotate_left
      ·(intro wz hz; (try dsimp only at hz); go_simp; (try with_reducible rfl))
      try simp only [Act.put, sPa, sPb, sPc]
      refine takeC (i := 5) (v := ?_) rfl rfl (Or.inl ⟨by rfl, ?_⟩) ⟨trivial, fun _ => C.out⟩ ?_
      rotate_left
      ·(intro wz hz; (try dsimp only at hz); go_simp; (try with_reducible rfl))
      try simp only [Act.put, sPa, sPb, sPc]
      refine takeD (i := 6) (v := ?_) rfl rfl (Or.inl ⟨by rfl, ?_⟩) ⟨trivial, fun _ => C.out⟩ ?_
      rotate_left
      ·(rintro wz ⟨-, hz⟩; (try dsimp only at hz); go_simp; (try with_reducible rfl))
      try simp only [Act.put, sPa, sPb, sPc]
      refine takeC (i := 7) (v := ?_) rfl rfl (Or.inl ⟨by rfl, ?_⟩) ⟨trivial, fun _ => C.out⟩ ?_
      rotate_left
      ·(intro wz hz; (try dsimp only at hz); go_simp; (try with_reducible rfl))
      try simp only [Act.put, sPa, sPb, sPc]
      refine takeD (i := 8) (v := ?_) rfl rfl (Or.inl ⟨by rfl, ?_⟩) ⟨trivial, fun _ => C.out⟩ ?_
      rotate_left
      ·(rintro wz ⟨-, hz⟩; (try dsimp only at hz); go_simp; (try with_reducible rfl))
      try simp only [Act.put, sPa, sPb, sPc]
      refine oneG (i := 9) (by kernel_rfl) rfl (fun K hK => ?_)
      go_simp
      have hgn := heap_alloc_new w7 (.cells #[.bool bb] 4)
      have hg9 := Ga w7 (.cells #[.bool bb] 4) none
      obtain ⟨gR, hgR⟩ : ∃ gR, gR = w7.heap.size := ⟨_, rfl⟩
      obtain ⟨w9, hw9⟩ : ∃ w9, w9 = w7.alloc (.cells #[.bool bb] 4) := ⟨_, rfl⟩
      rw [← hgR] at hgn ⊢
      rw [← hw9] at hgn hg9 ⊢
      have HS9 := Kh (HS7.out.grow hg9)
      have C9 : Hid (w9.cell? ⟨o, 4, none⟩ = some (.slice sA q cA) ∧ w9.cell? ⟨xb, xo + st, none⟩ = some (.int .i64 (y : Int)) ∧ w9.cell? ⟨fb, fo + y, none⟩ = some (.bool bb)) := Kh (HCC.out w9 _ HS9.out)
      refine hK.out _ _ ⟨trivial, fun _ => C9.out⟩ ?_
      clear hK K C HS7 hgR hw9 hg9
      try simp only [Act.put, sPa, sPb, sPc]
      obtain ⟨hM9, hz9, hpush⟩ := HS9.out.push
      have HPU := Kh hpush
      have hsrc := cM hgn
      clear hpush
      refine oneG (i := 10) (by kernel_rfl) rfl (fun K hK => ?_)
      refine oL rfl (.tmp 57) (.tmp 65) 25 rfl wJ.toN 2 _ rfl ⟨_, _, _, _, _, hM9, ⟨Q, 4, .slice sA q cA, q, bls ((accE fin st el).take q), 1⟩, 1, q + 1, _, rfl, rfl, rfl, rfl, hsrc, ?z1, rfl, ?z2, ?z3, ?z4, ?_⟩
      case z1 => intro v hv; simp only [List.mem_cons, List.not_mem_nil, or_false] at hv; subst hv; rfl
      case z2 => unfold maxLen; omega
      case z3 => show (q + 1) * 1 ≤ 140737488355328; omega
      case z4 => exact hz9
      intro sU' cU' wM hMM
      have HSM := Kh (HPU.out wM 2 ⟨Q, 4, .slice sA q cA, q, bls ((accE fin st el).take q), 1⟩ (.slice sU' (q + 1) cU') (q + 1) [.bool bb] rfl hMM)
      have CM : Hid (wM.cell? ⟨o, 4, none⟩ = some (.slice sA q cA) ∧ wM.cell? ⟨xb, xo + st, none⟩ = some (.int .i64 (y : Int)) ∧ wM.cell? ⟨fb, fo + y, none⟩ = some (.bool bb)) := Kh (HCC.out wM _ HSM.out)
      refine hK.out _ _ ⟨trivial, fun _ => CM.out⟩ ?_
      clear hK K C9 HS9 hM9 hz9 HPU hsrc hgn hMM
      try simp only [Act.put, sPa, sPb, sPc]
      refine takeC (i := 11) (v := ?_) rfl rfl (Or.inl ⟨by rfl, ?_⟩) ⟨trivial, fun _ => CM.out⟩ ?_
      rotate_left
      ·(intro wz hz; (try dsimp only at hz); go_simp; (try with_reducible rfl))
      try simp only [Act.put, sPa, sPb, sPc]
      refine oneG (i := 12) (by kernel_rfl) rfl (fun K hK => ?_)
      have q7 := zI HSM.out.box 4 (by simp)
      simp only [List.getElem_toArray, List.getElem_cons_zero, List.getElem_cons_succ] at q7
      have f7 := zD HSM.out.box 4
      go_simp
      refine hK.out _ _ ⟨trivial, fun h => by simp at h⟩ ?_
      clear hK K q7 f7 CM
      try simp only [Act.put, sPa, sPb, sPc]
      refine nW (by kernel_rfl) ?_ _
      refine NoPanic.normal ?_
      obtain ⟨wZ, hwZ⟩ : ∃ wZ, wZ = wM.setCell ⟨o, 4, none⟩ (.slice sU' (q + 1) cU') := ⟨_, rfl⟩
      have hSZ := HSM.out.set 4 (.slice sU' (q + 1) cU')
      rw [← hwZ] at hSZ ⊢
      simp only [sPa, sPb, sPc, HXS2.out] at hSZ
      have HSZ := Kh hSZ
      clear hSZ hwZ HSM
      go_wp2
      go_roundg (m - (q + 1))
      case measure => have := HGH.out; omega
      case rel => exact ⟨q + 1, sW2, cW2, sU', cU', by omega, by go_num, HSZ.out⟩
     ·have hqm : m = q := by have := HGH.out; omega
      subst hqm
      obtain ⟨wo, rfl⟩ : ∃ wo : World, wo = wr := ⟨_, rfl⟩
      clear hq HSG
      go_wp2
      go_loopg [14, 71] gs.length (fun gh v14 i wr => ∃ (q : Nat) (sI : Option Addr) (cI : Nat), gh + q = gs.length ∧ i = .int .i64 q ∧ BoxS Q X o 33 w5 w6 [⟨Q, 4, .slice (some ⟨gp, 0, none⟩) m m, m, bls (List.replicate m false), 1⟩, ⟨Q, 9, .slice sW m cW, m, tX ((rP pr la m).take m), 1⟩, ⟨Q, 4, .slice sA m cA, m, bls ((accE fin st el).take m), 1⟩, ⟨Q, 3, .slice sI q cI, q, nats ((imgE gs el).take q), 1⟩] #[.int .i64 gs.length, .slice sT m cT, .slice sW m cW, .slice sI q cI, .slice sA m cA, .slice (some ⟨gp, 0, none⟩) m m] wr)
      case atStart => exact ⟨0, none, 0, by omega, rfl, HS.out⟩
      case round =>
       obtain ⟨q, sI, cI, hgh, rfl, hS⟩ := hrel
       have HGH := Kh hgh; have HS := Kh hS; have HSG := Kh hS.grown
       clear hgh hS
       by_cases hq : q < gs.length
       ·have hq' : (q : Int) < gs.length := by omega
        obtain ⟨ga, gac, hgcell, hgrow⟩ := HHD.out q hq
        have hgT : IsT n (gs.getD q []) := HGS.out _ (tH hq)
        obtain ⟨g0, hg0⟩ : ∃ g0, g0 = gs.getD q [] := ⟨_, rfl⟩
        rw [← hg0] at hgcell hgrow hgT
        rw [hgT.1] at hgcell hgrow
        have hgc2 := yD hgcell (zG HG5.out HSG.out (by simp))
        have hin : g0 ∈ el := by
         have := HEN.out
         rw [← HL.out] at this
         rw [hg0]; exact this.image HGS.out hq
        obtain ⟨ig, hig⟩ : ∃ ig, ig = el.idxOf g0 := ⟨_, rfl⟩
        have HXS : Hid (nats ((imgE gs el).take q) ++ [.int .i64 ((ig : Nat) : Int)] = nats ((imgE gs el).take (q + 1))) := Kh (by rw [hig, hg0]; exact imgE_take hq)
        have HFD : Hid (∀ W : World, w5.grownBy W none → Calls Tryd.prog 86 #[.slice (some ⟨eb, eo, none⟩) m cE, .slice ga n gac] W fun e w' => e = .returned (.int .i64 ((ig : Nat) : Int)) ∧ W.grownBy w' none) := Kh (fun W hg => by
         have hg2 := zG HG25.out hg (by simp)
         have hg3 := zG HG5.out hg (by simp)
         have hfr := hgrow.row.kept hg3 (by simp)
         refine (eI W.heap.size B W _ _ el g0 ((HE.out.kept hg2 (by simp)).mono hg2.size) hfr).mono ?_
         rintro e w' ⟨h1, md, h2⟩
         rw [findT_in hin, ← hig] at h1
         exact ⟨h1, by rw [h2]; exact zJ W md none⟩)
        have HCC : Hid (∀ (W : World) (rs : List RowS), BoxS Q X o 33 w5 w6 rs #[.int .i64 gs.length, .slice sT m cT, .slice sW m cW, .slice sI q cI, .slice sA m cA, .slice (some ⟨gp, 0, none⟩) m m] W → W.cell? ⟨o, 3, none⟩ = some (.slice sI q cI) ∧ W.cell? ⟨b8, 3, none⟩ = some (.slice (some ⟨eb, eo, none⟩) m cE)) := Kh (fun W rs hS => ⟨(yT hS.box).2.2.2.1, (zX (zE HB85.out hS.grown (by simp))).2.2.2.1⟩)
        clear hgcell hgrow hgT hg0 hin hig
        obtain ⟨w7, hw7⟩ : ∃ w7, w7 = wr.drew := ⟨_, rfl⟩
        have hg7 : wr.grownBy w7 none := by rw [hw7]; exact zT wr none
        have HW7 := Kh hw7; have HG7 := Kh hg7
        clear hw7 hg7
        go_upto_region 14 with fail
        refine wp_region_noPanic ?_
        refine yY (G := vV 9 (fun _ => True) (fun W => W.cell? ⟨o, 3, none⟩ = some (.slice sI q cI) ∧ W.cell? ⟨b8, 3, none⟩ = some (.slice (some ⟨eb, eo, none⟩) m cE))) (by kernel_rfl) ?_
        rw [← HW7.out]
        have HS7 := Kh (HS.out.grow HG7.out)
        have C : Hid (w7.cell? ⟨o, 3, none⟩ = some (.slice sI q cI) ∧ w7.cell? ⟨b8, 3, none⟩ = some (.slice (some ⟨eb, eo, none⟩) m cE)) := Kh (HCC.out w7 _ HS7.out)
        refine takeC (i := 0) (v := ?_) rfl rfl (Or.inl ⟨by rfl, ?_⟩) ⟨trivial, fun _ => C.out⟩ ?_
        rotate_left
        ·(intro wz hz; (try dsimp only at hz); go_simp; (try with_reducible rfl))
        try simp only [Act.put, sPa, sPb, sPc]
        refine takeD (i := 1) (v := ?_) rfl rfl (Or.inl ⟨by rfl, ?_⟩) ⟨trivial, fun _ => C.out⟩ ?_
        rotate_left
        ·(rintro wz ⟨-, hz⟩; (try dsimp only at hz); go_simp; (try with_reducible rfl))
        try simp only [Act.put, sPa, sPb, sPc]
        refine takeC (i := 2) (v := ?_) rfl rfl (Or.inl ⟨by rfl, ?_⟩) ⟨trivial, fun _ => C.out⟩ ?_
        rotate_left
        ·(intro wz hz; (try dsimp only at hz); go_simp; (try with_reducible rfl))
        try simp only [Act.put, sPa, sPb, sPc]
        refine takeD (i := 3) (v := ?_) rfl rfl (Or.inl ⟨by rfl, ?_⟩) ⟨trivial, fun _ => C.out⟩ ?_
        rotate_left
        ·(rintro wz ⟨-, hz⟩; (try dsimp only at hz); go_simp; (try with_reducible rfl))
        try simp only [Act.put, sPa, sPb, sPc]
        refine takeC (i := 4) (v := ?_) rfl rfl (Or.inl ⟨by rfl, ?_⟩) ⟨trivial, fun _ => C.out⟩ ?_
        rotate_left
        ·(intro wz hz; (try dsimp only at hz); go_simp; (try with_reducible rfl))
        try simp only [Act.put, sPa, sPb, sPc]
        refine oneG (i := 5) (by kernel_rfl) rfl (fun K hK => ?_)
        go_simp
        go_at_call 86
        refine (HFD.out w7 (zG HSG.out HG7.out (by simp))).mono ?_
        rintro e w8 ⟨rfl, hg8⟩
        have HS8 := Kh (HS7.out.grow hg8)
        have C8 : Hid (w8.cell? ⟨o, 3, none⟩ = some (.slice sI q cI) ∧ w8.cell? ⟨b8, 3, none⟩ = some (.slice (some ⟨eb, eo, none⟩) m cE)) := Kh (HCC.out w8 _ HS8.out)
        refine hK.out _ _ ⟨trivial, fun _ => C8.out⟩ ?_
        clear hK K C HS7 hg8
        try simp only [Act.put, sPa, sPb, sPc]
        refine oneG (i := 6) (by kernel_rfl) rfl (fun K hK => ?_)
        go_simp
        have hgn := heap_alloc_new w8 (.cells #[.int .i64 ((ig : Nat) : Int)] 3)
        have hg9 := Ga w8 (.cells #[.int .i64 ((ig : Nat) : Int)] 3) none
        obtain ⟨gR, hgR⟩ : ∃ gR, gR = w8.heap.size := ⟨_, rfl⟩
        obtain ⟨w9, hw9⟩ : ∃ w9, w9 = w8.alloc (.cells #[.int .i64 ((ig : Nat) : Int)] 3) := ⟨_, rfl⟩
        rw [← hgR] at hgn ⊢
        rw [← hw9] at hgn hg9 ⊢
        have HS9 := Kh (HS8.out.grow hg9)
        have C9 : Hid (w9.cell? ⟨o, 3, none⟩ = some (.slice sI q cI) ∧ w9.cell? ⟨b8, 3, none⟩ = some (.slice (some ⟨eb, eo, none⟩) m cE)) := Kh (HCC.out w9 _ HS9.out)
        refine hK.out _ _ ⟨trivial, fun _ => C9.out⟩ ?_
        clear hK K C8 HS8 hgR hw9 hg9
        try simp only [Act.put, sPa, sPb, sPc]
        obtain ⟨hM9, hz9, hpush⟩ := HS9.out.push
        have HPU := Kh hpush
        have hsrc := cM hgn
        clear hpush
        refine oneG (i := 7) (by kernel_rfl) rfl (fun K hK => ?_)
        refine oL rfl (.tmp 76) (.tmp 81) 22 rfl yC.toN 3 _ rfl ⟨_, _, _, _, _, hM9, ⟨Q, 3, .slice sI q cI, q, nats ((imgE gs el).take q), 1⟩, 1, q + 1, _, rfl, rfl, rfl, rfl, hsrc, ?z1, rfl, ?z2, ?z3, ?z4, ?_⟩
        case z1 => intro v hv; simp only [List.mem_cons, List.not_mem_nil, or_false] at hv; subst hv; rfl
        case z2 => unfold maxLen; omega
        case z3 => show (q + 1) * 8 ≤ 140737488355328; omega
        case z4 => exact hz9
        intro sU' cU' wM hMM
        have HSM := Kh (HPU.out wM 3 ⟨Q, 3, .slice sI q cI, q, nats ((imgE gs el).take q), 1⟩ (.slice sU' (q + 1) cU') (q + 1) [.int .i64 ((ig : Nat) : Int)] rfl hMM)
        have CM : Hid (wM.cell? ⟨o, 3, none⟩ = some (.slice sI q cI) ∧ wM.cell? ⟨b8, 3, none⟩ = some (.slice (some ⟨eb, eo, none⟩) m cE)) := Kh (HCC.out wM _ HSM.out)
        refine hK.out _ _ ⟨trivial, fun _ => CM.out⟩ ?_
        clear hK K C9 HS9 hM9 hz9 HPU hsrc hgn hMM
        try simp only [Act.put, sPa, sPb, sPc]
        refine takeC (i := 8) (v := ?_) rfl rfl (Or.inl ⟨by rfl, ?_⟩) ⟨trivial, fun _ => CM.out⟩ ?_
        rotate_left
        ·(intro wz hz; (try dsimp only at hz); go_simp; (try with_reducible rfl))
        try simp only [Act.put, sPa, sPb, sPc]
        refine oneG (i := 9) (by kernel_rfl) rfl (fun K hK => ?_)
        have q7 := zI HSM.out.box 3 (by simp)
        simp only [List.getElem_toArray, List.getElem_cons_zero, List.getElem_cons_succ] at q7
        have f7 := zD HSM.out.box 3
        go_simp
        refine hK.out _ _ ⟨trivial, fun h => by simp at h⟩ ?_
        clear hK K q7 f7 CM
        try simp only [Act.put, sPa, sPb, sPc]
        refine nW (by kernel_rfl) ?_ _
        refine NoPanic.normal ?_
        obtain ⟨wZ, hwZ⟩ : ∃ wZ, wZ = wM.setCell ⟨o, 3, none⟩ (.slice sU' (q + 1) cU') := ⟨_, rfl⟩
        have hSZ := HSM.out.set 3 (.slice sU' (q + 1) cU')
        rw [← hwZ] at hSZ ⊢
        simp only [sPa, sPb, sPc, HXS.out] at hSZ
        have HSZ := Kh hSZ
        clear hSZ hwZ HSM
        go_wp2
        go_roundg (gs.length - (q + 1))
        case measure => have := HGH.out; omega
        case rel => exact ⟨q + 1, sU', cU', by omega, by go_num, HSZ.out⟩
       ·have hqk : q = gs.length := by have := HGH.out; omega
        subst hqk
        obtain ⟨w9, rfl⟩ : ∃ w9 : World, w9 = wr := ⟨_, rfl⟩
        have hSF : BoxS Q X o 33 w5 w6 [⟨Q, 4, .slice (some ⟨gp, 0, none⟩) m m, m, bls (List.replicate m false), 1⟩, ⟨Q, 9, .slice sW m cW, m, tX (rP pr la m), 1⟩, ⟨Q, 4, .slice sA m cA, m, bls (accE fin st el), 1⟩, ⟨Q, 3, .slice sI gs.length cI, gs.length, nats (imgE gs el), 1⟩] #[.int .i64 gs.length, .slice sT m cT, .slice sW m cW, .slice sI gs.length cI, .slice sA m cA, .slice (some ⟨gp, 0, none⟩) m m] w9 := by
         have := HS.out
         rw [List.take_of_length_le (by rw [kW]; exact Nat.le_refl _), List.take_of_length_le (by rw [accE_length, HL.out]; exact Nat.le_refl _), List.take_of_length_le (by rw [pD]; exact Nat.le_refl _)] at this
         exact this
        have hTw : TMat w9.heap.size w9 (.slice sT m cT) T := (HTX.out.kept hSF.kept hSF.wk).tmat
        have hIo : w9.ownsRow Q 3 1 (.slice sI gs.length cI) gs.length (nats (imgE gs el)) := hSF.own (r := ⟨Q, 3, .slice sI gs.length cI, gs.length, nats (imgE gs el), 1⟩) (by simp)
        have hen2 : Enm gs n el pr la ri el.length := by rw [HL.out]; exact HEN.out
        have htab : ∀ x y, x < m → y < m → (T.getD x []).getD y 0 < m := fun x y hx hy => by
         have := (hen2.tab HGS.out (x := x) (y := y) (by rw [HL.out]; exact hx) (by rw [HL.out]; exact hy)).1
         rw [HL.out, ← HTE.out] at this; exact this
        have hSh : Shape (tabI T) := by
         refine ⟨by rw [xC, HTL.out]; omega, by rw [xC, HTL.out]; omega, fun x hx => ?_, fun x y hx hy => ?_, fun x y hx hy => ?_⟩
         ·rw [xC, HTL.out] at hx ⊢
          rw [jB, List.length_map, HTE.out, tabE, zY (by simpa using hx)]
          simp [rowE]
         ·rw [gK]; omega
         ·rw [xC, HTL.out] at hx hy ⊢
          rw [gK]; have := htab x y hx hy; omega
        have hil : ∀ g ∈ imgE gs el, g < (tabI T).length := fun g hg => by
         obtain ⟨f, hf, rfl⟩ := List.mem_map.1 hg
         obtain ⟨i, hi, rfl⟩ := List.getElem_of_mem hf
         have := hen2.image HGS.out hi
         rw [zY hi] at this
         rw [xC, HTL.out, ← HL.out]
         exact List.idxOf_lt_length_of_mem this
        have HGE := Kh (generated_any w9.heap.size w9.heap.size w9 (.slice sT m cT) (.slice sI gs.length cI) (tabI T) (imgE gs el) (Nat.le_refl _) (Nat.le_refl _) hTw.mat hSh (Row.of_owns hIo) hil)
        have HSF := Kh hSF
        obtain ⟨c0, c1, c2, c3, c4, c5⟩ := yT hSF.box
        clear hSF hTw hIo hen2 htab hSh hil HS HSG hq c0 c2 c4 c5
        go_wp2_with fail
        refine HGE.out.mono ?_
        rintro e w7 ⟨mm, hgi, hcl, ⟨sG, sGc, rfl, howG⟩, hg7⟩
        obtain ⟨L, hL⟩ : ∃ L, L = kK (metL (tabI T).length mm) := ⟨_, rfl⟩
        rw [← hL] at howG ⊢
        have hLlt : ∀ x ∈ L, x < m := fun x hx => by
         rw [hL] at hx
         have := membL_lt hx
         rw [xT, xC, HTL.out] at this; exact this
        have hLl : L.length ≤ m := by
         rw [hL, kK, xT, xC, HTL.out]
         exact Nat.le_trans (List.length_filter_le _ _) (by simp)
        have HS5 := Kh (HSF.out.add hg7 howG (by decide))
        have HGI := Kh hgi; have HCL := Kh hcl; have HLE := Kh hL; have HLT := Kh hLlt
        clear hgi hcl hL hLlt howG hg7 c1 c3
        go_wp2
        go_loopg [16, 91] L.length (fun gh v16 i wr => ∃ (q : Nat), gh + q = L.length ∧ i = .int .i64 q ∧ BoxS Q X o 33 w5 w6 [⟨Q, 4, .slice (some ⟨gp, 0, none⟩) m m, m, bls (jG m (L.take q)), 1⟩, ⟨Q, 9, .slice sW m cW, m, tX (rP pr la m), 1⟩, ⟨Q, 4, .slice sA m cA, m, bls (accE fin st el), 1⟩, ⟨Q, 3, .slice sI gs.length cI, gs.length, nats (imgE gs el), 1⟩, ⟨Q, 3, .slice sG L.length sGc, L.length, nats L, 1⟩] #[.int .i64 gs.length, .slice sT m cT, .slice sW m cW, .slice sI gs.length cI, .slice sA m cA, .slice (some ⟨gp, 0, none⟩) m m] wr)
        case atStart => exact ⟨0, by omega, rfl, HS5.out⟩
        case round =>
         obtain ⟨q, hgh, rfl, hS⟩ := hrel
         have HGH := Kh hgh; have HS := Kh hS
         clear hgh HS5
         by_cases hq : q < L.length
         ·have hq' : (q : Int) < L.length := by omega
          have hoL : wr.ownsRow Q 3 1 (.slice sG L.length sGc) L.length (nats L) := hS.own (r := ⟨Q, 3, .slice sG L.length sGc, L.length, nats L, 1⟩) (by simp)
          obtain ⟨lb, rfl, hl1, hl2, hLA⟩ := yK hoL (by omega)
          have hlc := hLA.nat q hq
          obtain ⟨x, hx⟩ : ∃ x, x = L.getD q 0 := ⟨_, rfl⟩
          have hxm : x < m := by rw [hx]; exact HLT.out _ (tH hq)
          rw [← hx] at hlc
          have hoG : wr.ownsRow Q 4 1 (.slice (some ⟨gp, 0, none⟩) m m) m (bls (jG m (L.take q))) := hS.own (r := ⟨Q, 4, .slice (some ⟨gp, 0, none⟩) m m, m, bls (jG m (L.take q)), 1⟩) (by simp)
          obtain ⟨gp', he, _, _, hGA⟩ := yK hoG (by omega)
          have he : gp = gp' := by simpa using he
          subst he
          have hgc3 := hGA.bool x (by rw [plusE_length]; exact hxm)
          have hgf := hGA.frozen x
          have hxm' : (x : Int) < m := by omega
          have hl2' : sGc ≤ 9223372036854775807 := by unfold maxLen at hl2; omega
          obtain ⟨c0, c1, c2, c3, c4, c5⟩ := yT hS.box
          have HPT : Hid (jG m (L.take (q + 1)) = (jG m (L.take q)).set x true) := Kh (by
           rw [yG (d := 0) hq, plusE_snoc, hx])
          have hSN := hS.put (j := 0) rfl hxm (.bool true)
          rw [bls_set, ← HPT.out] at hSN
          have HSN := Kh hSN
          clear hS hoL hLA hx hoG hGA hSN c0 c1 c2 c3 c4
          go_wp2
          go_roundg (L.length - (q + 1))
          case measure => have := HGH.out; omega
          case rel => exact ⟨q + 1, by omega, by go_num, HSN.out⟩
         ·have hql : q = L.length := by have := HGH.out; omega
          subst hql
          have hb3 := zE HB5.out hS.grown (by have := HP5.out; have := HO6.out; simp)
          obtain ⟨c0, c1, c2, c3, c4, c5⟩ := yT hS.box
          obtain ⟨p0, p1, p2, p3, p4, p5⟩ := yT hb3
          have f0 := zD hb3 0; have f1 := zD hb3 1; have f2 := zD hb3 2; have f3 := zD hb3 3; have f4 := zD hb3 4; have f5 := zD hb3 5
          have HB9 := Kh hb3
          have hPo : P ≠ o := by have := HP5.out; have := HO6.out; have := HQ.out; omega
          clear hS hb3
          go_wp2
          refine bodyPost_ret (v := .tuple #[.agg #[.int .i64 gs.length, .slice sT m cT, .slice sW m cW, .slice sI gs.length cI, .slice sA m cA, .slice (some ⟨gp, 0, none⟩) m m], .int .i64 0]) (by simp [results, Tryd.results46, go_sem, p0, p1, p2, p3, p4, p5]) rfl ?_
          obtain ⟨hsZ, hgZ⟩ := tP HB9.out (.int .i64 gs.length) (.slice sT m cT) (.slice sW m cW) (.slice sI gs.length cI) (.slice sA m cA) (.slice (some ⟨gp, 0, none⟩) m m)
          have hSZ := HS.out
          have hkZ : wY X wr _ := wY.of_grown hSZ.mem.lt hgZ (fun j e hx => by have e : P = j := Oj e; subst e; exact HXP.out hx)
          have oW : wr.ownsRow Q 9 1 (.slice sW m cW) m (tX (rP pr la m)) := hSZ.own (r := ⟨Q, 9, .slice sW m cW, m, tX (rP pr la m), 1⟩) (by simp)
          have oA : wr.ownsRow Q 4 1 (.slice sA m cA) m (bls (accE fin st el)) := hSZ.own (r := ⟨Q, 4, .slice sA m cA, m, bls (accE fin st el), 1⟩) (by simp)
          have oI : wr.ownsRow Q 3 1 (.slice sI gs.length cI) gs.length (nats (imgE gs el)) := hSZ.own (r := ⟨Q, 3, .slice sI gs.length cI, gs.length, nats (imgE gs el), 1⟩) (by simp)
          have oG : wr.ownsRow Q 4 1 (.slice (some ⟨gp, 0, none⟩) m m) m (bls (jG m (L.take L.length))) := hSZ.own (r := ⟨Q, 4, .slice (some ⟨gp, 0, none⟩) m m, m, bls (jG m (L.take L.length)), 1⟩) (by simp)
          rw [List.take_length] at oG
          refine .inr ⟨⟨gs.length, T, rP pr la m, imgE gs el, accE fin st el, jG m L⟩, _, rfl, ⟨el, pr, la, ri, mm, by rw [HL.out]; exact HEN.out, by rw [HL.out]; omega, rfl, by rw [HL.out]; exact HTE.out, by rw [HL.out], rfl, rfl, HGI.out, HCL.out, ?_⟩, ⟨_, _, _, _, _, rfl, ?_, ?_, ?_, ?_, ?_⟩, ?_⟩
          ·rw [HL.out, HLE.out, xC, HTL.out]
          ·exact (HTX.out.kept (hSZ.kept.trans hkZ) (Nat.le_trans hSZ.wk hgZ.size)).tmatT
          ·exact RowT.of_owns (oW.kept hgZ (.inr (zS oW HB9.out (by decide))))
          ·exact RowT.of_owns (oI.kept hgZ (.inr (zS oI HB9.out (by decide))))
          ·exact RowT.of_owns (oA.kept hgZ (.inr (zS oA HB9.out (by decide))))
          ·exact RowT.of_owns (oG.kept hgZ (.inr (zS oG HB9.out (by decide))))
          ·exact zG (zG HG5.out hSZ.grown (by simp)) hgZ (fun j e => by have e : P = j := Oj e; have := HPE.out; omega)
end Go.Proofs.YtdjhoadoiknaoaaDoor
