/- Part 12 of the proof: NumOf, Expl0, ExplP. -/
import Derived.Test.YtjfdomfendbhfaaQb11
set_option linter.unusedVariables false
set_option linter.unusedSimpArgs false
namespace Go.Proofs.Ytjfdomfendbhfaa
open Go.RowKit Go.Maps
def zl (l : List Nat) : List Int := l.map fun (x : Nat) => (x : Int)
theorem zl_mem {l : List Nat} {x : Nat} : ((x : Nat) : Int) ∈ zl l ↔ x ∈ l := by
  simp only [zl, List.mem_map]
  exact ⟨fun ⟨y, hy, e⟩ => by have : y = x := by omega
                              exact this ▸ hy, fun h => ⟨x, h, rfl⟩⟩
theorem zl_idx {l : List Nat} {x : Nat} (h : x ∈ l) : (zl l).idxOf ((x : Nat) : Int) = l.idxOf x := idxOf_map_inj (fun (x : Nat) => (x : Int)) l x h (fun y _ e => by omega)
theorem zl_len (l : List Nat) : (zl l).length = l.length := by simp [zl]
theorem zl_snoc (l : List Nat) (x : Nat) : zl (l ++ [x]) = zl l ++ [(x : Int)] := by simp [zl]
def NF (o : Nat) (sa : Option Addr) (mv : Option Nat) (k : Nat) : Prop := k = o ∨ (Value.slice sa 0 0).ownBlock = some k ∨ mv = some k
structure NumSt (base : Nat) (W : World) (o : Nat) (sa : Option Addr) (sc : Nat) (mv : Option Nat) (l : List Nat) : Prop where
 box : W.heap[o]? = some (.cells #[.slice sa l.length sc, .map mv] 181 (0, 0))
 own : W.ownsRow base 3 1 (.slice sa l.length sc) l.length (nats l)
 map : (mv = none ∧ l = []) ∨ ∃ mb, mv = some mb ∧ base ≤ mb ∧ mb ≠ o ∧ (Value.slice sa 0 0).ownBlock ≠ some mb ∧ mb < W.heap.size ∧ rW W mb l.length (zl l)
 lo : base ≤ o
theorem NumSt.ge {base : Nat} {W : World} {o : Nat} {sa : Option Addr} {sc : Nat} {mv : Option Nat} {l : List Nat} (h : NumSt base W o sa sc mv l) : ∀ k, NF o sa mv k → base ≤ k ∧ k < W.heap.size := by
 rintro k (rfl | hk | hk)
 ·exact ⟨h.lo, zN h.box⟩
 ·rw [← zR sa l.length sc] at hk; exact h.own.lt k hk
 ·rcases h.map with ⟨e, _⟩ | ⟨mb, e, h1, _, _, h2, _⟩
  ·rw [e] at hk; cases hk
  ·rw [e] at hk; have := Option.some.inj hk; subst this; exact ⟨h1, h2⟩
theorem NumSt.kept {base : Nat} {W W' : World} {o : Nat} {sa : Option Addr} {sc : Nat} {mv : Option Nat} {l : List Nat} {row : Option Nat} (h : NumSt base W o sa sc mv l) (hg : W.grownBy W' row) (hr : ∀ k, row = some k → ¬ NF o sa mv k) : NumSt base W' o sa sc mv l where
 box := zB h.box hg (fun e => hr o e (.inl rfl))
 own := h.own.kept hg (by
  rcases hv : (Value.slice sa l.length sc).ownBlock with _ | k
  ·exact .inl rfl
  ·exact .inr fun e => hr k e.symm (.inr (.inl (by rw [zR] at hv; exact hv))))
 map := by
  rcases h.map with h | ⟨mb, e, h1, h2, h3, h4, h5⟩
  ·exact .inl h
  ·exact .inr ⟨mb, e, h1, h2, h3, Nat.lt_of_lt_of_le h4 hg.size, h5.kept hg (fun e2 => hr mb e2 (.inr (.inr e)))⟩
 lo := h.lo
def NumOfOk (base : Nat) (W : World) (o : Nat) (sa : Option Addr) (mv : Option Nat) (l : List Nat) (x : Nat) (e : Ending) (W' : World) : Prop :=
 ∃ sa' sc' mv', e = .returned (.int .i64 (((xK l x).idxOf x : Nat) : Int)) ∧ NumSt base W' o sa' sc' mv' (xK l x) ∧ GrownBut W W' (NF o sa mv) ∧ ∀ k, NF o sa' mv' k → NF o sa mv k ∨ W.heap.size ≤ k
theorem addNew_idx_new {l : List Nat} {x : Nat} (h : x ∉ l) : (xK l x).idxOf x = l.length := by
 rw [vQ h, List.idxOf_append, if_neg h]; simp
theorem vO {w : World} {p e : Nat} {x0 x1 : Value} (h : w.heap[p]? = some (.cells #[x0, x1] e (0, 0))) : w.cell? ⟨p, 0, none⟩ = some x0 ∧ w.cell? ⟨p, 1, none⟩ = some x1 := by
 have c0 := zO h 0 (by simp)
 have c1 := zO h 1 (by simp)
 exact ⟨by simpa using c0, by simpa using c1⟩
theorem numOf_end {base : Nat} {W w2 w3 : World} {o mb : Nat} {sa sa' : Option Addr} {sc sc' : Nat} {mv : Option Nat} {l : List Nat} {x : Nat} (h0 : base ≤ o) (hx : x ∉ l)
  (hb2 : w2.heap[o]? = some (.cells #[.slice sa l.length sc, .map (some mb)] 181 (0, 0))) (hmb : mb ≠ o) (hmb0 : base ≤ mb) (hsm : (Value.slice sa 0 0).ownBlock ≠ some mb) (hmp : rW w2 mb (l.length + 1) (zl l ++ [(x : Int)]))
  (hso : (Value.slice sa 0 0).ownBlock ≠ some o) (hown : w3.ownsRow base 3 1 (.slice sa' (l.length + 1) sc') (l.length + 1) (nats l ++ [.int .i64 (x : Int)])) (hg : w2.grownBy w3 (Value.slice sa l.length sc).ownBlock) (hmv : nM w2 w3 (.slice sa l.length sc) (.slice sa' (l.length + 1) sc'))
  (hW : GrownBut W w2 (NF o sa mv)) (hnew : mv = some mb ∨ W.heap.size ≤ mb) :
  NumOfOk base W o sa mv l x (.returned (.int .i64 ((l.length : Nat) : Int))) (w3.setCell ⟨o, 0, none⟩ (.slice sa' (l.length + 1) sc')) := by
 have hb3 := zB hb2 hg (fun e => hso (by rw [zR] at e; exact e))
 have hs := heap_setCell_same w3 o 0 _ _ (.slice sa' (l.length + 1) sc') hb3
 have hgs := zD w3 ⟨o, 0, none⟩ (.slice sa' (l.length + 1) sc')
 have hlt2 := hmp.lt
 have hz := hg.size
 have hzs := hgs.size
 have hlen : (xK l x).length = l.length + 1 := by rw [vQ hx]; simp
 have hsm' : (Value.slice sa' 0 0).ownBlock ≠ some mb := by
  intro e
  rw [← zR sa' (l.length + 1) sc'] at e
  rcases hmv with h | ⟨_, h⟩
  ·rw [h, zR] at e; exact hsm e
  ·have := h mb e; omega
 refine ⟨sa', sc', some mb, by rw [addNew_idx_new hx], ⟨?_, ?_, ?_, h0⟩, ?_, fun k hk => ?_⟩
 ·rw [hlen, hs]; simp
 ·rw [hlen, vQ hx, pK]
  exact hown.kept hgs (.inr (zS hown hb3 (by decide)))
 ·refine .inr ⟨mb, rfl, hmb0, hmb, hsm', by omega, ?_⟩
  rw [hlen, vQ hx, zl_snoc]
  refine (hmp.kept hg (fun e => hsm (by rw [zR] at e; exact e))).kept hgs (fun e => hmb (Option.some.inj e).symm)
 ·refine (hW.step hg fun k hk => ?_).step hgs fun k hk => ?_
  ·rw [zR] at hk; exact .inl (.inr (.inl hk))
  ·exact .inl (.inl (Option.some.inj hk).symm)
 ·rcases hk with rfl | hk | hk
  ·exact .inl (.inl rfl)
  ·rw [← zR sa' (l.length + 1) sc'] at hk
   rcases hmv with h | ⟨_, h⟩
   ·rw [h, zR] at hk; exact .inl (.inr (.inl hk))
   ·exact .inr (Nat.le_trans hW.size (h k hk))
  ·have := Option.some.inj hk; subst this
   rcases hnew with h | h
   ·exact .inl (.inr (.inr h))
   ·exact .inr h
set_option maxRecDepth 100000 in
set_option maxHeartbeats 800000 in
theorem numOf_any (base : Nat) (W : World) (o : Nat) (sa : Option Addr) (sc : Nat) (mv : Option Nat) (l : List Nat) (x : Nat) (h : NumSt base W o sa sc mv l) (hb : base ≤ W.heap.size) (hl : l.length ≤ 1073741824) (hx : x < 4611686018427387904) :
  Calls Try.prog 130 #[.pointer (some ⟨o, 0, none⟩), .int .i64 (x : Int)] W (NumOfOk base W o sa mv l x) := by
 have hmm := @run_makeMap Try.prog
 have hmid : Mid (x : Int) := ⟨by omega, by omega⟩
 have hn0 : ∀ W, (binOp .eql 171 (.map none) (.map none)).run Try.prog W = .ok (.bool true) W := fun W => run_eql_map_nil W _ _ _ none uY
 have hn1 : ∀ W mb, (binOp .eql 171 (.map (some mb)) (.map none)).run Try.prog W = .ok (.bool false) W := fun W mb => run_eql_map_nil W _ _ _ (some mb) uY
 obtain ⟨c0, c1⟩ := vO h.box
 have f0 := zE h.box 0
 have f1 := zE h.box 1
 have hso : (Value.slice sa 0 0).ownBlock ≠ some o := by
  intro e
  rw [← zR sa l.length sc] at e
  exact zS h.own h.box (by decide) e
 have H := Kh h; have HSO := Kh hso; have HMID := Kh hmid
 clear hso hmid
 rcases h.map with ⟨rfl, rfl⟩ | ⟨mb, rfl, hmb0, hmb, hsm, hml, hmp⟩
 ·have hlk : (Instr.lookup 171 (.map none) (.int .i64 (x : Int)) true).run Try.prog W = .ok (.tuple #[.int .i64 0, .bool false]) W := Maps.look_nil true key_int uY (zero_int W) (mid_key HMID.out)
  obtain ⟨w1, hw1⟩ : ∃ w1, w1 = W.setCell ⟨o, 1, none⟩ (.map (some W.heap.size)) := ⟨_, rfl⟩
  have hg1 := zD W ⟨o, 1, none⟩ (.map (some W.heap.size))
  have hb1 : w1.heap[o]? = some (.cells #[.slice sa ([] : List Nat).length sc, .map (some W.heap.size)] 181 (0, 0)) := by
   rw [hw1, heap_setCell_same W o 1 _ _ _ h.box]; simp
  have hz1 : w1.heap.size = W.heap.size := by rw [hw1]; simp [World.setCell]
  rw [← hw1] at hg1
  obtain ⟨ws, hws⟩ : ∃ ws, ws = w1.alloc (.map #[] 0) := ⟨_, rfl⟩
  have hgs := World.grownBy_alloc w1 (.map #[] 0) none
  have HMS := Kh (rW.made w1)
  rw [← hws] at hgs HMS
  rw [hz1] at HMS
  have hlo := zN h.box
  have HBS := Kh (zB hb1 hgs (by simp)); have HWS := Kh hws; have HW1 := Kh hw1
  have HOS : Hid (ws.ownsRow base 3 1 (.slice sa ([] : List Nat).length sc) ([] : List Nat).length (nats [])) := Kh (zV (h.own.kept hg1 (.inr (by rw [zR]; exact HSO.out))) hgs)
  have HNS : Hid (GrownBut W ws (NF o sa none)) := Kh (((GrownBut.refl W _).step hg1 (fun k hk => .inl (.inl (Option.some.inj hk).symm))).step hgs (by simp))
  clear h hb1 hw1 hg1 hws hgs hz1
  have HSM : Hid ((Value.slice sa 0 0).ownBlock ≠ some W.heap.size) := Kh (fun e => by
   rw [← zR sa ([] : List Nat).length sc] at e
   have := (H.out.own.lt _ e).2; omega)
  have hms : W.heap.size ≠ o := by omega
  obtain ⟨M, hM⟩ : ∃ M, M = W.heap.size := ⟨_, rfl⟩
  have HME := Kh hM
  rw [← hM] at HMS HSM HBS
  have hMo : M ≠ o := by omega
  have hMb : base ≤ M := by omega
  have hMW : W.heap.size ≤ M := by omega
  clear hM
  go_enter Try.func130, Try.ntmps130
  go_upto_region 5 with fail
  rw [← HW1.out, ← HWS.out, ← HME.out]
  clear c0 c1 f0 f1 hlk
  obtain ⟨c0, c1⟩ := vO HBS.out
  have hmz := HMS.out.lt
  go_wp2_with (first | (at_mapUpdate; refine step_putNo rfl _ _ _ rfl M 0 [] x rfl rfl rfl HMS.out (by unfold maxLen; omega) HMID.out (by simp) (by simp) ?_; intro w2 hmap2 hg2; (have HM2 := Kh hmap2); (have HG2 := Kh hg2); (have hbx := zB HBS.out hg2 (by simp; exact hMo)); (have HBX := Kh hbx); (obtain ⟨d0, d1⟩ := vO hbx); (have e0 := zE hbx 0); (have HO2 := Kh (HOS.out.kept hg2 (.inr (by rw [zR]; exact HSM.out)))); (have hz2 := hg2.size); clear hmap2 hbx hg2) | (at_builtin; refine app1s rfl _ _ _ rfl xP base (.slice sa ([] : List Nat).length sc) ([] : List Nat).length (nats []) rfl HO2.out (.int .i64 (x : Int)) rfl rfl ?a1 ?a2 ?a3 ?_; (case a1 => (unfold maxLen; simp)); (case a2 => simp); (case a3 => omega); intro sa3 sc3 w3 hown3 hg3 hz3 hmv3; (have hb3 := zB HBX.out hg3 (by rw [zR]; exact HSO.out)); (obtain ⟨b0, b1⟩ := vO hb3); (have e3 := zE hb3 0)) | fail)
  go_ret
  exact numOf_end (l := []) H.out.lo (by simp) HBX.out hMo hMb HSM.out HM2.out HSO.out hown3 hg3 hmv3 (HNS.out.step HG2.out (fun k hk => .inr (by have := Option.some.inj hk; omega))) (.inr hMW)
 ·clear h
  by_cases hin : x ∈ l
  ·have hlk := hmp.lookup HMID.out
   rw [if_pos (zl_mem.2 hin), decide_eq_true (zl_mem.2 hin), zl_idx hin] at hlk
   have HIN := Kh hin
   clear hin hmp
   go_enter Try.func130, Try.ntmps130
   go_wp2
   go_ret
   have e := sH HIN.out
   exact ⟨sa, sc, some mb, yE (by rw [e]), by rw [e]; exact H.out, GrownBut.refl _ _, fun k hk => .inl hk⟩
  ·have hlk := hmp.lookup HMID.out
   rw [if_neg (fun hh => hin (zl_mem.1 hh)), decide_eq_false (fun hh => hin (zl_mem.1 hh))] at hlk
   have HIN := Kh hin; have HMP := Kh hmp; have HNI : Hid ((x : Int) ∉ zl l) := Kh (fun hh => hin (zl_mem.1 hh))
   have hzl := zl_len l
   have HSM := Kh hsm
   clear hin hmp hsm
   have HOW := Kh H.out.own
   go_enter Try.func130, Try.ntmps130
   go_wp2_with (first | (at_mapUpdate; refine step_putNo rfl _ _ _ rfl mb l.length (zl l) x rfl rfl ?q1 HMP.out (by unfold maxLen; omega) HMID.out HNI.out (by omega) ?_; (case q1 => (rw [hzl]; rfl)); intro w2 hmap2 hg2; (have HM2 := Kh hmap2); (have HG2 := Kh hg2); (have hbx := zB H.out.box hg2 (by simp; exact hmb)); (have HBX := Kh hbx); (obtain ⟨d0, d1⟩ := vO hbx); (have e0 := zE hbx 0); (have HO2 := Kh (HOW.out.kept hg2 (.inr (by rw [zR]; exact HSM.out)))); (have hz2 := hg2.size); clear hmap2 hbx hg2) | (at_builtin; refine app1s rfl _ _ _ rfl xP base (.slice sa l.length sc) l.length (nats l) rfl HO2.out (.int .i64 (x : Int)) rfl rfl ?a1 ?a2 ?a3 ?_; (case a1 => (unfold maxLen; omega)); (case a2 => omega); (case a3 => omega); intro sa3 sc3 w3 hown3 hg3 hz3 hmv3; (have hb3 := zB HBX.out hg3 (by rw [zR]; exact HSO.out)); (obtain ⟨b0, b1⟩ := vO hb3); (have e3 := zE hb3 0)) | fail)
   go_ret
   exact numOf_end H.out.lo HIN.out HBX.out hmb hmb0 HSM.out HM2.out HSO.out hown3 hg3 hmv3 ((GrownBut.refl W _).step HG2.out (fun k hk => .inl (.inr (.inr hk)))) (.inl rfl)
end Go.Proofs.Ytjfdomfendbhfaa
namespace Go.Proofs.Ytjfdomfendbhfaa
open Go.RowKit Go.Maps
theorem rW.obj {w : World} {b n : Nat} {l : List Int} (h : rW w b n l) : ∃ es clock, w.heap[b]? = some (.map es clock) := by
 obtain ⟨D, ⟨es, clock, hb, _⟩, _⟩ := h
 exact ⟨es, clock, hb⟩
theorem NumSt.off {base : Nat} {W : World} {o : Nat} {sa : Option Addr} {sc : Nat} {mv : Option Nat} {l : List Nat} (h : NumSt base W o sa sc mv l) {k e : Nat} {c : Array Value} {m : Nat × Nat} (hk : W.heap[k]? = some (.cells c e m)) (h1 : e ≠ 3) (h2 : e ≠ 181) : ¬ NF o sa mv k := by
 rintro (rfl | hn | hn)
 ·rw [h.box] at hk
  simp only [Option.some.injEq, Obj.cells.injEq] at hk
  exact h2 hk.2.1.symm
 ·rw [← zR sa l.length sc] at hn
  exact zS h.own hk (fun e => h1 e.symm) hn
 ·rcases h.map with ⟨e, _⟩ | ⟨mb, e, _, _, _, _, hm⟩
  ·rw [e] at hn; cases hn
  ·rw [e] at hn
   have := Option.some.inj hn
   subst this
   obtain ⟨es, cl, hm⟩ := hm.obj
   rw [hm] at hk; simp at hk
theorem NumSt.offOwn {base : Nat} {W : World} {o : Nat} {sa : Option Addr} {sc : Nat} {mv : Option Nat} {l : List Nat} (h : NumSt base W o sa sc mv l) {b e n sz : Nat} {v : Value} {xs : List Value} (hown : W.ownsRow b e sz v n xs) (h1 : e ≠ 3) (h2 : e ≠ 181) : ∀ k, v.ownBlock = some k → ¬ NF o sa mv k := fun k hk => by
 rcases hown.2 with ⟨rfl, _⟩ | ⟨g, cap, cur, rfl, _, hg, _⟩
 ·simp [Value.ownBlock] at hk
 ·have : g = k := by simpa [Value.ownBlock] using hk
  subst this
  exact h.off hg h1 h2
theorem vX.keptT {α : Type} {X : Nat → Prop} {e : TypeId} {f : α → List Value} {w w' : World} {hs : List Value} {ts : List α} {row : Option Nat} (h : vX X e f w hs ts) (hg : w.grownBy w' row) (hr : ∀ k, row = some k → zY w e k) : vX X e f w' hs ts :=
 ⟨h.1, fun i h1 h2 => ⟨((h.2 i h1 h2).1.kept hg (fun k hk => .inr (hr k hk))).mono hg.size, (h.2 i h1 h2).2⟩⟩
theorem vA.but {X F : Nat → Prop} {w w' : World} (hlt : ∀ k, X k → k < w.heap.size) (hg : GrownBut w w' F) (hF : ∀ k, F k → ¬ X k) : vA X w w' := fun k hk => hg.block k (hlt k hk) (fun hf => hF k hf hk)
theorem jJ {w w' : World} {base e n sz : Nat} {v : Value} {xs : List Value} {F : Nat → Prop} (h : w.ownsRow base e sz v n xs) (hg : GrownBut w w' F) (hF : ∀ k, v.ownBlock = some k → ¬ F k) : w'.ownsRow base e sz v n xs := by
 refine ⟨h.1, ?_⟩
 rcases id h.2 with h2 | ⟨g, cap, cur, hv, hb, hgc, h3⟩
 ·exact .inl h2
 ·exact .inr ⟨g, cap, cur, hv, hb, hg.heap hgc (hF g (by rw [hv]; rfl)), h3⟩
structure ExSt (B : Nat) (W0 W : World) (oN o2 : Nat) (X Y : Nat → Prop) (k : Nat) (l : List Nat) (fs : List Bool) (t : List (List Int)) (hs : List Value) (sa : Option Addr) (sc : Nat) (mv : Option Nat) (sf : Option Addr) (cf : Nat) (sn : Option Addr) (cn : Nat) : Prop where
 num : NumSt B W oN sa sc mv l
 sep : ∀ j, NF oN sa mv j → ¬ Y j
 XY : ∀ j, X j → Y j
 lt : ∀ j, Y j → j < W.heap.size
 box : W.heap[o2]? = some (.cells #[.int .i64 (k : Int), .int .i64 0, .slice sf fs.length cf, .slice sn t.length cn] 42 (0, 0))
 ownF : W.ownsRow o2 4 1 (.slice sf fs.length cf) fs.length (bls fs)
 ownN : W.ownsRow o2 34 1 (.slice sn t.length cn) t.length hs
 rows : vX X 3 ints W hs t
 lo : W0.heap.size ≤ o2
 loB : W0.heap.size ≤ B ∧ B ≤ W.heap.size
 grown : W0.grownBy W none
section
variable {B : Nat} {W0 W W' : World} {oN o2 k : Nat} {X Y : Nat → Prop} {l : List Nat} {fs : List Bool} {t : List (List Int)} {hs : List Value} {sa : Option Addr} {sc : Nat} {mv : Option Nat} {sf : Option Addr} {cf : Nat} {sn : Option Addr} {cn : Nat}
theorem ExSt.grow (h : ExSt B W0 W oN o2 X Y k l fs t hs sa sc mv sf cf sn cn) (hg : W.grownBy W' none) : ExSt B W0 W' oN o2 X Y k l fs t hs sa sc mv sf cf sn cn where
 num := h.num.kept hg (by simp)
 sep := h.sep
 XY := h.XY
 lt := fun j hj => Nat.lt_of_lt_of_le (h.lt j hj) hg.size
 box := zB h.box hg (by simp)
 ownF := zV h.ownF hg
 ownN := zV h.ownN hg
 rows := h.rows.keptT hg (by simp)
 lo := h.lo
 loB := ⟨h.loB.1, Nat.le_trans h.loB.2 hg.size⟩
 grown := zA h.grown hg (by simp)
theorem ExSt.fresh (h : ExSt B W0 W oN o2 X Y k l fs t hs sa sc mv sf cf sn cn) (hg : W.grownBy W' none) {g : Nat} (h1 : W.heap.size ≤ g) (h2 : g < W'.heap.size) : ExSt B W0 W' oN o2 X (fun j => Y j ∨ j = g) k l fs t hs sa sc mv sf cf sn cn where
 num := h.num.kept hg (by simp)
 sep := fun j hj hy => by
  rcases hy with hy | hy
  ·exact h.sep j hj hy
  ·have := (h.num.ge j hj).2; omega
 XY := fun j hj => .inl (h.XY j hj)
 lt := fun j hj => by
  rcases hj with hj | hj
  ·exact Nat.lt_of_lt_of_le (h.lt j hj) hg.size
  ·omega
 box := zB h.box hg (by simp)
 ownF := zV h.ownF hg
 ownN := zV h.ownN hg
 rows := h.rows.keptT hg (by simp)
 lo := h.lo
 loB := ⟨h.loB.1, Nat.le_trans h.loB.2 hg.size⟩
 grown := zA h.grown hg (by simp)
theorem ExSt.num_step (h : ExSt B W0 W oN o2 X Y k l fs t hs sa sc mv sf cf sn cn) {l' : List Nat} {sa' : Option Addr} {sc' : Nat} {mv' : Option Nat} (hn : NumSt B W' oN sa' sc' mv' l') (hg : GrownBut W W' (NF oN sa mv)) (hm : ∀ k, NF oN sa' mv' k → NF oN sa mv k ∨ W.heap.size ≤ k) : ExSt B W0 W' oN o2 X Y k l' fs t hs sa' sc' mv' sf cf sn cn where
 num := hn
 sep := fun j hj hy => by
  rcases hm j hj with h1 | h1
  ·exact h.sep j h1 hy
  ·have := h.lt j hy; omega
 XY := h.XY
 lt := fun j hj => Nat.lt_of_lt_of_le (h.lt j hj) hg.size
 box := hg.heap h.box (h.num.off h.box (by decide) (by decide))
 ownF := jJ h.ownF hg (h.num.offOwn h.ownF (by decide) (by decide))
 ownN := jJ h.ownN hg (h.num.offOwn h.ownN (by decide) (by decide))
 rows := h.rows.kept (vA.but (fun k hk => h.lt k (h.XY k hk)) hg (fun k hf hx => h.sep k hf (h.XY k hx))) hg.size
 lo := h.lo
 loB := ⟨h.loB.1, Nat.le_trans h.loB.2 hg.size⟩
 grown := hg.grown h.grown (fun k hk => .inr (Nat.le_trans h.loB.1 (h.num.ge k hk).1))
theorem ExSt.put (h : ExSt B W0 W oN o2 X Y k l fs t hs sa sc mv sf cf sn cn) {g : Nat} {c : Array Value} {m : Nat × Nat} (hg : W.grownBy W' (some g)) (hc : W.heap[g]? = some (.cells c 3 m)) (hY : Y g) (hX : ¬ X g) (h0 : W0.heap.size ≤ g) : ExSt B W0 W' oN o2 X Y k l fs t hs sa sc mv sf cf sn cn where
 num := h.num.kept hg (fun j e hf => by have := Option.some.inj e; subst this; exact h.sep _ hf hY)
 sep := h.sep
 XY := h.XY
 lt := fun j hj => Nat.lt_of_lt_of_le (h.lt j hj) hg.size
 box := zB h.box hg (fun e => by
  have := Option.some.inj e
  subst this
  rw [h.box] at hc
  simp only [Option.some.injEq, Obj.cells.injEq] at hc
  exact absurd hc.2.1 (by decide))
 ownF := h.ownF.kept hg (.inr (zS h.ownF hc (by decide)))
 ownN := h.ownN.kept hg (.inr (zS h.ownN hc (by decide)))
 rows := h.rows.kept (fun j hj => hg.block j (h.lt j (h.XY j hj)) (fun e => by have := Option.some.inj e; subst this; exact hX hj)) hg.size
 lo := h.lo
 loB := ⟨h.loB.1, Nat.le_trans h.loB.2 hg.size⟩
 grown := zA h.grown hg (fun j e => by have := Option.some.inj e; omega)
theorem ExSt.pushN (h : ExSt B W0 W oN o2 X Y k l fs t hs sa sc mv sf cf sn cn) {m : Nat} (hm : t.length = m) {rv : Value} {row : List Int} {sn' : Option Addr} {cn' : Nat} (ho : W'.ownsRow o2 34 1 (.slice sn' (m + 1) cn') (m + 1) (hs ++ [rv])) (hg : W.grownBy W' (Value.slice sn m cn).ownBlock) (hrow : RowX (fun j => X j ∨ Y j) 3 W rv (ints row)) {W2 : World} (hW2 : W2 = W'.setCell ⟨o2, 3, none⟩ (.slice sn' (m + 1) cn')) :
  ExSt B W0 W2 oN o2 Y Y k l fs (t ++ [row]) (hs ++ [rv]) sa sc mv sf cf sn' cn' := by
 subst hm
 have hb := zB h.box hg (zS h.ownN h.box (by decide))
 have hs2 := heap_setCell_same W' o2 3 _ _ (.slice sn' (t.length + 1) cn') hb
 have g2 := zD W' ⟨o2, 3, none⟩ (.slice sn' (t.length + 1) cn')
 rw [← hW2] at hs2 g2
 have hoff := h.num.offOwn h.ownN (by decide) (by decide)
 have hn1 := h.num.kept hg (fun j e => hoff j e)
 have hF1 := h.ownF.kept hg (by
  rcases hv : (Value.slice sf fs.length cf).ownBlock with _ | j
  ·exact .inl rfl
  ·refine .inr fun e => ?_
   obtain ⟨cu, e', mm, hh, hne⟩ := yB (e' := 34) h.ownF (by decide) j hv
   exact zS h.ownN hh (fun e2 => hne e2.symm) e.symm)
 have hr1 : vX Y 3 ints W (hs ++ [rv]) (t ++ [row]) := (h.rows.mono h.XY).snoc (hrow.mono (fun j hj => hj.elim (h.XY j) id))
 have hr2 := hr1.keptT hg (fun j e => yB h.ownN (by decide) j e)
 have hob : zY W' 3 o2 := ⟨_, _, _, hb, by decide⟩
 have hz := hg.size
 have hz2 := g2.size
 exact ⟨hn1.kept g2 (fun j e hf => by have := Option.some.inj e; subst this; exact hn1.off hb (by decide) (by decide) hf), h.sep, fun _ hj => hj, fun j hj => by have := h.lt j hj; omega, by rw [hs2]; simp, hF1.kept g2 (.inr (zS hF1 hb (by decide))), by
  rw [List.length_append]
  exact ho.kept g2 (.inr (zS ho hb (by decide))), hr2.keptT g2 (fun j e => by have := Option.some.inj e; subst this; exact hob), h.lo, ⟨h.loB.1, by have := h.loB.2; omega⟩, zA (zA h.grown hg (fun j e => Nat.le_trans h.lo (h.ownN.lt j e).1)) g2 (fun j e => by have e : o2 = j := Option.some.inj e; have := h.lo; omega)⟩
theorem ExSt.pushF (h : ExSt B W0 W oN o2 X Y k l fs t hs sa sc mv sf cf sn cn) {m : Nat} (hm : fs.length = m) {b : Bool} {sf' : Option Addr} {cf' : Nat} (ho : W'.ownsRow o2 4 1 (.slice sf' (m + 1) cf') (m + 1) (bls fs ++ [.bool b])) (hg : W.grownBy W' (Value.slice sf m cf).ownBlock) {W2 : World} (hW2 : W2 = W'.setCell ⟨o2, 2, none⟩ (.slice sf' (m + 1) cf')) :
  ExSt B W0 W2 oN o2 X Y k l (fs ++ [b]) t hs sa sc mv sf' cf' sn cn := by
 subst hm
 have hb := zB h.box hg (zS h.ownF h.box (by decide))
 have hs2 := heap_setCell_same W' o2 2 _ _ (.slice sf' (fs.length + 1) cf') hb
 have g2 := zD W' ⟨o2, 2, none⟩ (.slice sf' (fs.length + 1) cf')
 rw [← hW2] at hs2 g2
 have hoff := h.num.offOwn h.ownF (by decide) (by decide)
 have hn1 := h.num.kept hg (fun j e => hoff j e)
 have hN1 := h.ownN.kept hg (by
  rcases hv : (Value.slice sn t.length cn).ownBlock with _ | j
  ·exact .inl rfl
  ·refine .inr fun e => ?_
   obtain ⟨cu, e', mm, hh, hne⟩ := yB (e' := 4) h.ownN (by decide) j hv
   exact zS h.ownF hh (fun e2 => hne e2.symm) e.symm)
 have hr2 := h.rows.keptT hg (fun j e => yB h.ownF (by decide) j e)
 have hob : zY W' 3 o2 := ⟨_, _, _, hb, by decide⟩
 have hz := hg.size
 have hz2 := g2.size
 have hbl : bls (fs ++ [b]) = bls fs ++ [.bool b] := by simp [bls]
 exact ⟨hn1.kept g2 (fun j e hf => by have := Option.some.inj e; subst this; exact hn1.off hb (by decide) (by decide) hf), h.sep, h.XY, fun j hj => by have := h.lt j hj; omega, by rw [hs2]; simp, by
  rw [List.length_append, hbl]
  exact ho.kept g2 (.inr (zS ho hb (by decide))), hN1.kept g2 (.inr (zS hN1 hb (by decide))), hr2.keptT g2 (fun j e => by have := Option.some.inj e; subst this; exact hob), h.lo, ⟨h.loB.1, by have := h.loB.2; omega⟩, zA (zA h.grown hg (fun j e => Nat.le_trans h.lo (h.ownF.lt j e).1)) g2 (fun j e => by have e : o2 = j := Option.some.inj e; have := h.lo; omega)⟩
end
end Go.Proofs.Ytjfdomfendbhfaa
namespace Go.Proofs.Ytjfdomfendbhfaa
def pQ (d : DfaV) (k q x : Nat) : List Nat := (List.range x).map (fun a => (zX d k).idxOf (nx d q a)) ++ List.replicate (k - x) 0
theorem pP {d : DfaV} {k q x : Nat} (h : x ≤ k) : (pQ d k q x).length = k := by simp [pQ]; omega
theorem exRow_set {d : DfaV} {k q x : Nat} (h : x < k) : (pQ d k q x).set x ((zX d k).idxOf (nx d q x)) = pQ d k q (x + 1) := by
 unfold pQ
 rw [List.set_append_right _ _ (by simp), List.range_succ, List.map_append, show k - x = (k - (x + 1)) + 1 by omega, List.replicate_succ]
 simp
theorem exRow_zero (d : DfaV) (k q : Nat) : pQ d k q 0 = List.replicate k 0 := by simp [pQ]
theorem exRow_full {d : DfaV} {n k q : Nat} (hd : VD d n k) (hA : ∀ a, a < k → nx d q a ∈ zX d k) (hq : q < n) : zl (pQ d k q k) = sI (zX d k) (d.next.getD q []) := by
 have hr := hd.row q hq
 refine List.ext_getElem (by rw [zl_len, pP (Nat.le_refl k), sI, List.length_map, hr]) fun a h1 h2 => ?_
 have ha : a < k := by simpa [zl, pQ] using h1
 have e2 : (sI (zX d k) (d.next.getD q []))[a] = qL (zX d k) ((d.next.getD q [])[a]'(by rw [hr]; exact ha)).toNat := by simp [sI]
 rw [e2]
 have e3 : ((d.next.getD q [])[a]'(by rw [hr]; exact ha)).toNat = nx d q a := by
  show _ = (ent d.next q a).toNat
  unfold ent
  rw [zI (show a < (d.next.getD q []).length by rw [hr]; exact ha)]
 rw [e3, qL, if_pos (hA a ha)]
 simp [zl, pQ]
structure ExL (d : DfaV) (n k i : Nat) (l : List Nat) : Prop where
 acc : AccI d n k i l
 go : rV d k (n - i) i l = zX d k
theorem ExL.start {d : DfaV} {n k : Nat} (hd : VD d n k) : ExL d n k 0 [st0 d] := ⟨AccI.start hd, by rw [zX, hd.hn]; rfl⟩
theorem ExL.le {d : DfaV} {n k i : Nat} {l : List Nat} (h : ExL d n k i l) : l.length ≤ n := kL h.acc.nd h.acc.lt
theorem ExL.next {d : DfaV} {n k i : Nat} {l : List Nat} (hd : VD d n k) (h : ExL d n k i l) (hi : i < l.length) : ExL d n k (i + 1) (vI d l i k) := by
 refine ⟨h.acc.row hd hi, ?_⟩
 have := h.le
 have e : n - i = (n - (i + 1)) + 1 := by omega
 have g := h.go
 rw [e, rV, if_pos hi] at g
 exact g
theorem ExL.done {d : DfaV} {n k i : Nat} {l : List Nat} (h : ExL d n k i l) (hi : ¬ i < l.length) : l = zX d k := by
 have g := h.go
 rw [accGo_end hi] at g
 exact g
theorem kA (d : DfaV) (k : Nat) : ∀ f i l, l <+: rV d k f i l
 | 0, _, l => List.prefix_refl l
 | f + 1, i, l => by
  rw [rV]
  split
  ·exact (uR d l i k).trans (kA d k f (i + 1) _)
  ·exact List.prefix_refl l
theorem nL (d : DfaV) (l : List Nat) (i : Nat) : ∀ {a b}, a ≤ b → vI d l i a <+: vI d l i b
 | a, 0, h => by rw [show a = 0 by omega]; exact List.prefix_refl _
 | a, b + 1, h => by
  by_cases e : a = b + 1
  ·rw [e]; exact List.prefix_refl _
  ·exact (nL d l i (by omega)).trans (pA _ _)
theorem ExL.pre {d : DfaV} {n k i : Nat} {l : List Nat} (hd : VD d n k) (h : ExL d n k i l) (hi : i < l.length) {x : Nat} (hx : x ≤ k) : vI d l i x <+: zX d k := by
 have h2 := (h.next hd hi).go
 exact (nL d l i hx).trans (h2 ▸ kA d k _ _ _)
theorem ExL.idx {d : DfaV} {n k i : Nat} {l : List Nat} (hd : VD d n k) (h : ExL d n k i l) (hi : i < l.length) {x : Nat} (hx : x < k) : (vI d l i (x + 1)).idxOf (nx d (l.getD i 0) x) = (zX d k).idxOf (nx d (l.getD i 0) x) :=
 (lT (h.pre hd hi (show x + 1 ≤ k by omega)) (uX.2 (.inr ⟨x, by omega, rfl⟩))).symm
theorem ExL.done_mem {d : DfaV} {n k i : Nat} {l : List Nat} (hd : VD d n k) (h : ExL d n k i l) (hi : i < l.length) {a : Nat} (ha : a < k) : nx d (l.getD i 0) a ∈ zX d k :=
 (h.pre hd hi (show a + 1 ≤ k by omega)).subset (uX.2 (.inr ⟨a, by omega, rfl⟩))
theorem ExL.rowLen {d : DfaV} {n k i : Nat} {l : List Nat} (hd : VD d n k) (h : ExL d n k i l) (hi : i < l.length) {x : Nat} (hx : x ≤ k) : (vI d l i x).length ≤ n := by
 have h1 := (nL d l i hx).length_le
 have h2 := (h.next hd hi).le
 omega
theorem pD {l m : List Nat} (h : l <+: m) {i : Nat} (hi : i ≤ l.length) : m.take i = l.take i := by
 obtain ⟨r, rfl⟩ := h
 rw [List.take_append_of_le_length hi]
end Go.Proofs.Ytjfdomfendbhfaa
