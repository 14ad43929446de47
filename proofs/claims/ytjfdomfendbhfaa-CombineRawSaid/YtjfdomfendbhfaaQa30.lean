/- Part 30 of the proof: KnP, Zb, MapStr, CKey, BoxN. -/
import Derived.Test.YtjfdomfendbhfaaQa29
import Derived.StringKeys
set_option linter.unusedVariables false
set_option linter.unusedSimpArgs false
namespace Go.Proofs.Ytjfdomfendbhfaa
open Go.RowKit
def famB (l : List (List (List Int))) : List (List ByteArray) := l.map fun p => p.map strOfNums
theorem lR (l : List (List (List Int))) : (famB l).length = l.length := by simp [famB]
theorem strs_txtV (p : List (List Int)) : strs p = txtV (p.map strOfNums) := by simp [strs, txtV]
def bfsChk (ds : List DfaV) (k : Nat) (lw : List (List Nat × List Nat)) : Bool :=
 decide ((lw.map (·.2)).Nodup) && (decide ((lw.map (·.2))[0]? = some (st0T ds)) && (lw.all (fun p => (List.range k).all fun a => decide (nxtT ds p.2 a ∈ lw.map (·.2))) && lw.all (fun p => decide (∀ a ∈ p.1, a < k) && decide (tZ (nxtT ds) (st0T ds) p.1 = p.2))))
theorem bfsD_of {ds : List DfaV} {k : Nat} {lw : List (List Nat × List Nat)} (h : bfsChk ds k lw = true) : BfsD (nxtT ds) k (st0T ds) (lw.map (·.2)) := by
 simp only [bfsChk, Bool.and_eq_true, decide_eq_true_eq, List.all_eq_true] at h
 obtain ⟨h1, h2, h3, h4⟩ := h
 refine ⟨h1, h2, fun x hx b hb => ?_, fun x hx => ?_⟩
 ·obtain ⟨p, hp, rfl⟩ := List.mem_map.1 hx
  exact h3 p hp b (List.mem_range.2 hb)
 ·obtain ⟨p, hp, rfl⟩ := List.mem_map.1 hx
  exact ⟨p.1, (h4 p hp).1, (h4 p hp).2⟩
def dK : DfaV := ⟨2, 0, [false, false, true], [[1, 0], [1, 2], [1, 2]]⟩
def psFL : List (List (List Int)) := [[[]], [[], [97]], [[], [98]], [[97], []], [[98], []], [[], [97], []], [[], [98], []]]
def psPL : List (List (List Int)) := [[[], [97], []], [[], [98], []]]
def psF : List (List ByteArray) := famB psFL
def psP : List (List ByteArray) := famB psPL
theorem famF : famL 5 2 1 0 = psFL := by decide +kernel
theorem famFE : famE 5 2 1 0 = 0 := by decide +kernel
theorem famPP : famL 6 2 1 0 = psPL := by decide +kernel
theorem famPE : famE 6 2 1 0 = 0 := by decide +kernel
theorem ofEF : ofE dK psF = 0 := by decide +kernel
theorem ofEP : ofE dK psP = 0 := by decide +kernel
def tupD (d : DfaV) : Int × Int × List Bool × List (List Int) := (d.letters, d.start, d.final, d.next)
def mkD (t : Int × Int × List Bool × List (List Int)) : DfaV := ⟨t.1, t.2.1, t.2.2.1, t.2.2.2⟩
theorem mk_tup {l : List DfaV} {t : List (Int × Int × List Bool × List (List Int))} (h : l.map tupD = t) : l = t.map mkD := by
 subst h
 rw [List.map_map]
 exact (List.map_id' l).symm
def tF : List DfaV := ([(2, 0, [true, false], [[1, 1], [1, 1]]), (2, 0, [false, true], [[1, 0], [1, 0]]),
 (2, 0, [false, true], [[0, 1], [0, 1]]), (2, 0, [false, true, false], [[1, 2], [1, 1], [2, 2]]),
 (2, 0, [false, false, true], [[1, 2], [1, 1], [2, 2]]), (2, 0, [false, true], [[1, 0], [1, 1]]),
 (2, 0, [false, true], [[0, 1], [1, 1]]), (2, 0, [false, false, true], [[1, 0], [1, 2], [1, 2]])] : List (Int × Int × List Bool × List (List Int))).map mkD
def tP : List DfaV := ([(2, 0, [false, true], [[1, 0], [1, 1]]), (2, 0, [false, true], [[0, 1], [1, 1]]), (2, 0, [false, false, true], [[1, 0], [1, 2], [1, 2]])] : List (Int × Int × List Bool × List (List Int))).map mkD
theorem ofTF : ofT dK psF = tF := mk_tup (by decide +kernel)
theorem ofTP : ofT dK psP = tP := mk_tup (by decide +kernel)
def lF : List (List Nat × List Nat) := [([], [0, 0, 0, 0, 0, 0, 0, 0]), ([0], [1, 1, 0, 1, 1, 1, 0, 1]), ([1], [1, 0, 1, 2, 2, 0, 1, 0]),
 ([0, 1], [1, 0, 1, 1, 1, 1, 1, 2]), ([1, 0], [1, 1, 0, 2, 2, 1, 1, 1]), ([0, 1, 0], [1, 1, 0, 1, 1, 1, 1, 1]),
 ([1, 0, 1], [1, 0, 1, 2, 2, 1, 1, 2])]
def lP : List (List Nat × List Nat) := [([], [0, 0, 0]), ([0], [1, 0, 1]), ([1], [0, 1, 0]), ([0, 1], [1, 1, 2]), ([1, 0], [1, 1, 1])]
theorem bfsF : BfsD (nxtT (ofT dK psF)) 2 (st0T (ofT dK psF)) (lF.map (·.2)) := by rw [ofTF]; exact bfsD_of (by decide +kernel)
theorem bfsP : BfsD (nxtT (ofT dK psP)) 2 (st0T (ofT dK psP)) (lP.map (·.2)) := by rw [ofTP]; exact bfsD_of (by decide +kernel)
theorem underF : Under (ofT dK psF) 2 := ⟨_, bfsF, by decide⟩
theorem underP : Under (ofT dK psP) 2 := ⟨_, bfsP, by decide⟩
theorem noConfF : ¬ Conf (ofT dK psF) 7 2 := by
 rw [mA (by rw [wE]; decide) bfsF, ofTF]
 have : (lF.map (·.2)).all (fun x => (lF.map (·.2)).all fun y => !(decide (mtsT tF 7 x = mtsT tF 7 y) && (accT tF x 7 && !accT tF y 7))) = true := by decide +kernel
 rw [List.all_eq_true] at this
 rintro ⟨x, y, hx, hy, h1, h2, h3⟩
 have h4 := this x hx
 rw [List.all_eq_true] at h4
 have h5 := h4 y hy
 simp [h1, h2, h3] at h5
theorem confP : Conf (ofT dK psP) 2 2 := by
 rw [mA (by rw [wE]; decide) bfsP, ofTP]
 exact ⟨[1, 1, 2], [1, 1, 1], by decide, by decide, by decide +kernel, by decide +kernel, by decide +kernel⟩
theorem dK_vd : VD dK 3 2 := vd_of (d := dK) (by decide +kernel)
theorem runK_lt {u : List Nat} (hu : yA 2 u) : run dK 0 u < 3 := run_lt dK_vd u (by decide) hu
theorem patW_mono {bs : List ByteArray} {k : Int} (h : patW bs k = 0) (hk : k ≤ 6) : patW bs 6 = 0 := xV.2 (sZ (xV.1 h) hk (Int.le_refl 6))
theorem of_dia {d : DfaV} {ps : List (List ByteArray)} {g : DiaV} (hE : ofE d ps = 0) (h1 : g.pats = ps) (h2 : xH ps.length g.chos g.chos.length) (h3 : 0 ≤ g.root) (h4 : g.root ≤ 1 + (g.chos.length : Int)) (hl : g.chos.length ≤ 20000) : diaE g 6 = 0 ∧ diaE g d.letters = 0 := by
 obtain ⟨e1, e2, e3⟩ := rZ hE
 have hv := vd_of e1
 have hk := hv.hk; have k1 := hv.k1; have k6 := hv.k6
 have hp := wQ.1 e3
 exact ⟨diaE_of (by omega) (by omega) (by rw [h1]; exact e2) hl (fun p hp2 => patW_mono (hp p (by rw [← h1]; exact hp2)) (by omega)) (by rw [h1]; exact h2) h3 h4, diaE_of (by omega) (by omega) (by rw [h1]; exact e2) hl (fun p hp2 => hp p (by rw [← h1]; exact hp2)) (by rw [h1]; exact h2) h3 h4⟩
theorem of_holds {d : DfaV} {ps : List (List ByteArray)} {g : DiaV} (hE : ofE d ps = 0) (h1 : g.pats = ps) (h2 : xH ps.length g.chos g.chos.length) (h3 : 0 ≤ g.root) (h4 : g.root ≤ 1 + (g.chos.length : Int)) (hl : g.chos.length ≤ 20000)
  (h5 : ∀ u, yA d.letters.toNat u → decG g.chos (fun i => acc (xK (ps.getD i []) d.letters) (st0 (xK (ps.getD i []) d.letters)) u) g.root = acc d (st0 d) u) {s : ByteArray} (hs : zP s d.letters = true) : diaH g s = acc d (st0 d) (zH s) := by
 obtain ⟨e1, e2, e3⟩ := rZ hE
 have hv := vd_of e1
 have hk := hv.hk; have k1 := hv.k1; have k6 := hv.k6
 have hp := wQ.1 e3
 obtain ⟨k, hkk⟩ : ∃ k, k = d.letters.toNat := ⟨_, rfl⟩
 have hkd : d.letters = (k : Int) := by rw [hkk]; exact hk
 rw [hkd] at hs
 have hwo := (tG hs).1
 have h6 := h5 (zH s) (by rw [← hkk]; exact hwo)
 rw [← h6, diaH, (of_dia hE h1 h2 h3 h4 hl).1, tR hs (by omega) (Int.le_refl 6)]
 simp only [decide_true, Bool.true_and]
 refine decG_np h2 (fun i hi => ?_) h4
 have hpi : patW (ps.getD i []) (k : Int) = 0 := by rw [← hkd, zF hi]; exact hp _ (List.getElem_mem hi)
 rw [h1, hkd]
 exact (patDfa_acc (xV.1 hpi) hs).symm
def zb (l : List Nat) : List Int := l.map fun (x : Nat) => (x : Int)
def txtT (f : List Nat) : ByteArray := strOfNums (zb f)
theorem zb_length (l : List Nat) : (zb l).length = l.length := by simp [zb]
def u8s (l : List Nat) : List Value := (zb l).map (Value.int .u8)
theorem kQ (l : List Nat) : (u8s l).length = l.length := by simp [u8s, zb]
theorem mG (l : List Nat) (i x : Nat) : (u8s l).set i (.int .u8 (x : Int)) = u8s (l.set i x) := by simp [u8s, zb, List.map_set]
theorem u8s_replicate (n : Nat) : u8s (List.replicate n 0) = List.replicate n (.int .u8 0) := by simp [u8s, zb]
theorem u8s_cell {w : World} {g : Nat} {l : List Nat} (h : Arr w g 5 (u8s l)) (i : Nat) (hi : i < l.length) : w.cell? ⟨g, i, none⟩ = some (.int .u8 ((l.getD i 0 : Nat) : Int)) := by
 rw [h.cell i (by rw [kQ]; exact hi), zF hi]; simp [u8s, zb]
theorem zb_inj {f g : List Nat} (hf : ∀ x ∈ f, x < 256) (hg : ∀ x ∈ g, x < 256) (h : txtT f = txtT g) : f = g := by
 have h1 : (zb f).map (fun n => UInt8.ofNat n.toNat) = (zb g).map (fun n => UInt8.ofNat n.toNat) := by
  have := congrArg (fun s : ByteArray => s.data.toList) h
  simpa [txtT, strOfNums] using this
 simp only [zb, List.map_map] at h1
 refine List.ext_getElem (by have := congrArg List.length h1; simpa using this) fun i h2 h3 => ?_
 have h4 := congrArg (fun l => l[i]?) h1
 simp only [List.getElem?_map, List.getElem?_eq_getElem h2, List.getElem?_eq_getElem h3, Option.map_some, Option.some.injEq, Function.comp, Int.toNat_natCast] at h4
 have h5 := congrArg UInt8.toNat h4
 have h6 := hf _ (List.getElem_mem h2)
 have h7 := hg _ (List.getElem_mem h3)
 simp only [UInt8.toNat_ofNat'] at h5
 omega
end Go.Proofs.Ytjfdomfendbhfaa
namespace Go.Proofs.Ytjfdomfendbhfaa
open Go.RowKit Go.Maps
theorem nE : Try.prog.underlying 129 = some (.map 9 3) := by kernel_rfl
theorem mM : Try.prog.underlying 9 = some .string := by kernel_rfl
theorem jL : Keyed Try.prog 9 := string_keyed mM
end Go.Proofs.Ytjfdomfendbhfaa
namespace Go.Proofs.Ytjfdomfendbhfaa
open Go.RowKit Go.Maps
def kb (l : List Nat) : List Nat := l.flatMap fun q => [q / 256, q % 256]
theorem kb_length (l : List Nat) : (kb l).length = 2 * l.length := by
 induction l with
 | nil => rfl
 | cons x l ih => simp only [kb, List.flatMap_cons, List.length_append, List.length_cons, List.length_nil] at ih ⊢; omega
theorem kb_snoc (l : List Nat) (x : Nat) : kb (l ++ [x]) = kb l ++ [x / 256, x % 256] := by simp [kb]
theorem kb_inj : ∀ {l m : List Nat}, kb l = kb m → l = m
 | [], [], _ => rfl
 | [], y :: m, h => by simp [kb] at h
 | x :: l, [], h => by simp [kb] at h
 | x :: l, y :: m, h => by
  simp only [kb, List.flatMap_cons, List.cons_append, List.nil_append, List.cons.injEq] at h
  obtain ⟨h1, h2, h3⟩ := h
  rw [kb_inj (l := l) (m := m) h3, show x = y by omega]
def kK (n : Nat) (l : List Nat) : Prop := l.length = n ∧ ∀ x ∈ l, x < 512
theorem kb_small {n : Nat} {l : List Nat} (h : kK n l) : ∀ x ∈ kb l, x < 256 := by
 intro x hx
 simp only [kb, List.mem_flatMap, List.mem_cons, List.not_mem_nil, or_false] at hx
 obtain ⟨q, hq, hx⟩ := hx
 have := h.2 q hq
 omega
theorem txtT_size (l : List Nat) : (txtT l).size = l.length := by
 have : (txtT l).size = (txtT l).data.toList.length := by rw [Array.length_toList]; rfl
 rw [this]
 unfold txtT
 rw [strOfNums_data]
 simp [zb]
theorem key_kb {n : Nat} (h : n ≤ 400) : KeyK 129 9 (kK n) (fun l => .string (txtT (kb l))) where
 key := jL
 und := nE
 of := fun a ha => by rw [Go.WideMaps.keyOf_string_mk mM (by rw [txtT_size, kb_length, ha.1]; unfold maxLen; omega)]; rfl
 inj := fun a b ha hb e => kb_inj (zb_inj (kb_small ha) (kb_small hb) (by simpa using e))
theorem u8s_append (l m : List Nat) : u8s (l ++ m) = u8s l ++ u8s m := by simp [u8s, zb]
theorem rowLit {w : World} {b e n : Nat} {cs : Array Value} {m : Nat × Nat} (h : w.heap[b]? = some (.cells cs e m)) (hn : cs.size = n) (hm : n ≤ maxLen) : Row (b + 1) w (.slice (some ⟨b, 0, none⟩) n n) cs.toList :=
 .inr ⟨b, 0, n, by simp [hn], by omega, by simp [hn], hm, zJ h, fun i hi => by
  rw [Nat.zero_add, cell_of_row w b i _ _ _ h]
  have : i < cs.size := by simpa using hi
  simp [this]⟩
set_option maxHeartbeats 800000 in
theorem ckey_any (B : Nat) (w : World) (v : Value) (l : List Nat) (n : Nat) (hB : B ≤ w.heap.size) (h : Row B w v (nats l)) (hs : kK n l) (hn : n ≤ 400) :
  Calls Try.prog 84 #[v] w fun e w' => e = .returned (.string (txtT (kb l))) ∧ w.grownBy w' none := by
 obtain ⟨a, c, rfl⟩ := h.shape
 have hcm := h.len_le
 rw [zZ, hs.1] at hcm ⊢
 have H := Kh h; have HS := Kh hs
 clear h hs
 go_enter Try.func84, Try.ntmps84
 go_wp2_with (first | (at_make; refine make0 rfl _ _ _ rfl elem_u8 .i64 .i64 _ (2 * n) rfl rfl ?m1 ?m2 ?m3 ?_) | fail)
 case m1 => omega
 case m2 => omega
 case m3 => unfold maxLen; omega
 intro w1 hown1 hg1
 have HO1 := Kh hown1; have HG1 := Kh hg1
 clear hown1 hg1
 go_wp2
 go_loopg [3, 5, 12] n (fun gh v3 a5 i wr => ∃ (k : Nat) (sa : Option Addr) (sc : Nat), gh + k = n ∧ i = .int .i64 k ∧ v3 = .slice sa (2 * k) sc ∧ wr.ownsRow w.heap.size 5 1 (.slice sa (2 * k) sc) (2 * k) (u8s (kb (l.take k))) ∧ w.grownBy wr none)
 case atStart => exact ⟨0, _, _, rfl, rfl, rfl, HO1.out, HG1.out⟩
 case round =>
  clear HO1 HG1
  obtain ⟨k, sa, sc, hg, rfl, rfl, hown, hgr⟩ := hrel
  have HG := Kh hg; have HO := Kh hown; have HGR := Kh hgr
  clear hg hown
  by_cases hk : k < n
  ·have hk' : (k : Int) < n := by omega
   obtain ⟨kb_, ko, kc, e, _, hk1, hk2, hkr⟩ := (H.out.kept hgr (by simp)).some_ (by rw [zZ, HS.out.1]; omega)
   rw [zZ, HS.out.1] at e hk1
   simp only [Value.slice.injEq] at e
   obtain ⟨rfl, _, rfl⟩ := e
   have hmx : c ≤ 9223372036854775807 := by unfold maxLen at hk2; omega
   have c1 := hkr.nat k (by rw [HS.out.1]; exact hk)
   have HST : Hid (u8s (kb (l.take (k + 1))) = u8s (kb (l.take k)) ++ [.int .u8 ((l.getD k 0 / 256 : Nat) : Int), .int .u8 ((l.getD k 0 % 256 : Nat) : Int)]) := Kh (by
    rw [yD (d := 0) (by rw [HS.out.1]; exact hk), kb_snoc, u8s_append]; rfl)
   have hx5 : l.getD k 0 < 512 := HS.out.2 _ (by rw [zF (by rw [HS.out.1]; exact hk)]; exact List.getElem_mem _)
   obtain ⟨x, hx⟩ : ∃ x, x = l.getD k 0 := ⟨_, rfl⟩
   rw [← hx] at c1 HST hx5
   obtain ⟨y, hy⟩ : ∃ y, y = x / 256 := ⟨_, rfl⟩
   obtain ⟨z, hz⟩ : ∃ z, z = x % 256 := ⟨_, rfl⟩
   rw [← hy, ← hz] at HST
   have e1 : (x : Int) / 2 ^ 8 = (y : Int) := by rw [hy]; omega
   have e2 : (x : Int) / 256 = (y : Int) := by rw [hy]; omega
   have e3 : IntKind.u8.wrap (y : Int) = y := IntWalk.u8_in _ (by omega)
   have e4 : IntKind.u8.wrap (x : Int) = z := by
    have : IntKind.u8.wrap (x : Int) = (x : Int) % 256 := by simp [IntKind.wrap, IntKind.bits, IntKind.signed]
    rw [this, hz]; omega
   have hz0 := hgr.size
   have HOL : Hid (∀ W : World, wr.grownBy W none → W.ownsRow w.heap.size 5 1 (.slice sa (2 * k) sc) (2 * k) (u8s (kb (l.take k)))) := Kh (fun W hW => zQ HO.out hW)
   clear hkr hk1 hk2 hgr hx hy hz
   go_wp2_with (first | (at_builtin; refine appR rfl _ _ _ rfl elem_u8 w.heap.size (.slice sa (2 * k) sc) (2 * k) _ rfl (HOL.out _ (World.grownBy_alloc wr _ none)) (.slice (some ⟨wr.heap.size, 0, none⟩) 2 2) [.int .u8 (y : Int), .int .u8 (z : Int)] rfl ⟨wr.heap.size + 1, ?r0⟩ ?r1 (2 * (k + 1)) ?a1 ?a2 ?a3 ?a4 ?_) | fail)
   case r0 => exact rowLit (heap_alloc_new wr _) rfl (by unfold maxLen; omega)
   case r1 => intro u hu; simp at hu; rcases hu with rfl | rfl <;> rfl
   case a1 => simp; omega
   case a2 => unfold maxLen; omega
   case a3 => omega
   case a4 => rw [zN]; omega
   intro sa' sc' w8 hown8 hg8
   have HO8 : Hid (w8.ownsRow w.heap.size 5 1 (.slice sa' (2 * (k + 1)) sc') (2 * (k + 1)) (u8s (kb (l.take (k + 1))))) := Kh (by rw [HST.out]; exact hown8)
   have HG8 : Hid (w.grownBy w8 none) := Kh (zA (zA HGR.out (World.grownBy_alloc wr _ none) (by simp)) hg8 (fun x e => (HO.out.lt x e).1))
   clear hown8 hg8
   go_wp2
   go_roundg (n - (k + 1))
   case measure => have := HG.out; omega
   case rel => exact ⟨k + 1, sa', sc', by have := HG.out; omega, by go_num, rfl, HO8.out, HG8.out⟩
  ·have hkn : k = n := by have := HG.out; omega
   have hk' : ¬ (k : Int) < n := by omega
   have HE : Hid (l.take k = l) := Kh (by rw [hkn, ← HS.out.1]; exact List.take_length)
   rw [HE.out] at HO
   have hcv := sL 106 5 Try.underlying106 Try.underlying5 9 Try.underlying9 HO.out
   obtain ⟨X, hX⟩ : ∃ X, X = txtT (kb l) := ⟨_, rfl⟩
   rw [show strOfNums (zb (kb l)) = X from hX.symm] at hcv
   have HX := Kh hX
   clear hkn hgr hX
   go_wp2
   go_ret
   exact ⟨by rw [HX.out]; rfl, HGR.out⟩
end Go.Proofs.Ytjfdomfendbhfaa
namespace Go.Proofs.Ytjfdomfendbhfaa
open Go.RowKit
theorem oT {w : World} {p e : Nat} {x0 x1 x2 x3 x4 x5 : Value} (h : w.heap[p]? = some (.cells #[x0, x1, x2, x3, x4, x5] e (0, 0))) :
  w.cell? ⟨p, 0, none⟩ = some x0 ∧ w.cell? ⟨p, 1, none⟩ = some x1 ∧ w.cell? ⟨p, 2, none⟩ = some x2 ∧ w.cell? ⟨p, 3, none⟩ = some x3 ∧ w.cell? ⟨p, 4, none⟩ = some x4 ∧ w.cell? ⟨p, 5, none⟩ = some x5 := by
 have c0 := zI h 0 (by simp)
 have c1 := zI h 1 (by simp)
 have c2 := zI h 2 (by simp)
 have c3 := zI h 3 (by simp)
 have c4 := zI h 4 (by simp)
 have c5 := zI h 5 (by simp)
 exact ⟨by simpa using c0, by simpa using c1, by simpa using c2, by simpa using c3, by simpa using c4, by simpa using c5⟩
structure BoxS (B : Nat) (X : Nat → Prop) (o ty : Nat) (w0 wk : World) (rs : List RowS) (c : Array Value) (w : World) : Prop where
 mem : EMem X w rs
 typ : ∀ r ∈ rs, r.base = B ∧ r.e ≠ ty
 box : w.heap[o]? = some (.cells c ty (0, 0))
 off : ¬ X o
 size : w0.heap.size ≤ B
 old : w0.heap.size ≤ o
 base : B ≤ wk.heap.size
 grown : w0.grownBy w none
 kept : xX X wk w
 wk : wk.heap.size ≤ w.heap.size
section
variable {B : Nat} {X : Nat → Prop} {o ty : Nat} {w0 wk w : World} {rs : List RowS} {c : Array Value}
theorem BoxS.grow (h : BoxS B X o ty w0 wk rs c w) {w' : World} (hg : w.grownBy w' none) : BoxS B X o ty w0 wk rs c w' :=
 ⟨h.mem.grow hg, h.typ, zB h.box hg (by simp), h.off, h.size, h.old, h.base, zA h.grown hg (by simp), h.kept.trans (h.mem.keep hg), Nat.le_trans h.wk hg.size⟩
theorem BoxS.set (h : BoxS B X o ty w0 wk rs c w) (f : Nat) (u : Value) : BoxS B X o ty w0 wk rs (c.setIfInBounds f u) (w.setCell ⟨o, f, none⟩ u) := by
 have hs := heap_setCell_same w o f _ _ u h.box
 have hg := zC w ⟨o, f, none⟩ u
 exact ⟨h.mem.far hg (fun r hr => zR (h.mem.own r hr) h.box (h.typ r hr).2), h.typ, hs, h.off, h.size, h.old, h.base, zA h.grown hg (fun j e => by have e : o = j := Option.some.inj e; have := h.old; omega), h.kept.trans (xX.of_grown h.mem.lt hg (fun j e hx => by have e : o = j := Option.some.inj e; subst e; exact h.off hx)), Nat.le_trans h.wk hg.size⟩
theorem BoxS.own (h : BoxS B X o ty w0 wk rs c w) {r : RowS} (hr : r ∈ rs) : w.ownsRow r.base r.e r.sz r.v r.n r.xs := h.mem.own r hr
theorem BoxS.nil (h : BoxS B X o ty w0 wk rs c w) {e sz : Nat} (he : e ≠ ty) : BoxS B X o ty w0 wk (rs ++ [⟨B, e, .slice none 0 0, 0, [], sz⟩]) c w :=
 ⟨h.mem.add (zK _ none) (World.ownsRow_nil _ _ _ _) (fun j e => by simp [Value.ownBlock] at e), fun r hr => by
  rcases List.mem_append.1 hr with hr | hr
  ·exact h.typ r hr
  ·rw [List.mem_singleton] at hr; subst hr; exact ⟨rfl, he⟩, h.box, h.off, h.size, h.old, h.base, h.grown, h.kept, h.wk⟩
theorem BoxS.add (h : BoxS B X o ty w0 wk rs c w) {w' : World} (hg : w.grownBy w' none) {e sz n : Nat} {v : Value} {xs : List Value} (ho : w'.ownsRow w.heap.size e sz v n xs) (he : e ≠ ty) : BoxS B X o ty w0 wk (rs ++ [⟨B, e, v, n, xs, sz⟩]) c w' :=
 ⟨h.mem.add hg (xY ho (Nat.le_trans h.base h.wk)) (fun k hk => (ho.lt k hk).1), fun r hr => by
  rcases List.mem_append.1 hr with hr | hr
  ·exact h.typ r hr
  ·rw [List.mem_singleton] at hr; subst hr; exact ⟨rfl, he⟩, zB h.box hg (by simp), h.off, h.size, h.old, h.base, zA h.grown hg (by simp), h.kept.trans (h.mem.keep hg), Nat.le_trans h.wk hg.size⟩
theorem BoxS.push (h : BoxS B X o ty w0 wk rs c w) : Many w (ownSet rs) w rs [] [] ∧ B ≤ w.heap.size ∧ ∀ (wM : World) (j : Nat) (r : RowS) (v' : Value) (n' : Nat) (us : List Value), rs[j]? = some r → Many w (ownSet rs) wM (rs.set j ⟨r.base, r.e, v', n', r.xs ++ us, r.sz⟩) [] [] → BoxS B X o ty w0 wk (rs.set j ⟨r.base, r.e, v', n', r.xs ++ us, r.sz⟩) c wM := by
 refine ⟨h.mem.many _ (fun _ h => h), Nat.le_trans h.base h.wk, fun wM j r v' n' us hr hMM => ?_⟩
 have hf : ∀ k, ownSet rs k → B ≤ k ∧ k ≠ o ∧ ¬ X k := fun k hk => by
  obtain ⟨r, hr, hk⟩ := hk
  have hown := h.mem.own r hr
  refine ⟨by have := (hown.lt k hk).1; rw [(h.typ r hr).1] at this; exact this, fun e => ?_, h.mem.offX r hr k hk⟩
  subst e; exact zR hown h.box (h.typ r hr).2 hk
 refine ⟨h.mem.after hMM (fun k hk => (hf k hk).2.2), fun s hs => ?_, hMM.but.heap h.box (fun hj => (hf o hj).2.1 rfl), h.off, h.size, h.old, h.base, hMM.but.grown h.grown (fun k hk => .inr (Nat.le_trans h.size (hf k hk).1)), h.kept.trans (h.mem.keepMany hMM (fun k hk => (hf k hk).2.2)), Nat.le_trans h.wk hMM.but.size⟩
 rcases List.mem_or_eq_of_mem_set hs with hs | rfl
 ·exact h.typ s hs
 ·exact h.typ r (List.mem_of_getElem? hr)
theorem owns_setB {w : World} {b e n g cap i : Nat} {xs : List Value} (h : w.ownsRow b e 1 (.slice (some ⟨g, 0, none⟩) n cap) n xs) (hi : i < n) (u : Value) : (w.setCell ⟨g, i, none⟩ u).ownsRow b e 1 (.slice (some ⟨g, 0, none⟩) n cap) n (xs.set i u) := by
 refine ⟨by rw [List.length_set]; exact h.1, ?_⟩
 rcases h.2 with ⟨hv, _⟩ | ⟨g', cap', cur, hv, hb, hg, hnc, hcm, hcs, htake⟩
 ·simp at hv
 ·simp only [Value.slice.injEq, Option.some.injEq, Addr.mk.injEq] at hv
  obtain ⟨⟨rfl, _⟩, _, rfl⟩ := hv
  have hs := heap_setCell_same w g i _ _ u hg
  refine .inr ⟨g, cap, _, rfl, hb, hs, hnc, hcm, by simpa using hcs, ?_⟩
  rw [← htake]
  simp [List.take_set]
theorem BoxS.put (h : BoxS B X o ty w0 wk rs c w) {j g n cap b e i : Nat} {xs : List Value} (hr : rs[j]? = some ⟨b, e, .slice (some ⟨g, 0, none⟩) n cap, n, xs, 1⟩) (hi : i < n) (u : Value) : BoxS B X o ty w0 wk (rs.set j ⟨b, e, .slice (some ⟨g, 0, none⟩) n cap, n, xs.set i u, 1⟩) c (w.setCell ⟨g, i, none⟩ u) := by
 have hmem := List.mem_of_getElem? hr
 have ho := h.mem.own _ hmem
 have ht := h.typ _ hmem
 simp only at ho ht
 have hg := zC w ⟨g, i, none⟩ u
 have hgo : g ≠ o := fun e1 => by subst e1; exact zR ho h.box ht.2 rfl
 obtain ⟨hjl, hje⟩ := List.getElem?_eq_some_iff.1 hr
 have hap := List.pairwise_iff_getElem.1 h.mem.apart
 refine ⟨⟨fun r hr' => ?_, ?_, fun r hr' k hk => ?_, fun k hk => Nat.lt_of_lt_of_le (h.mem.lt k hk) hg.size⟩, fun r hr' => ?_, zB h.box hg (fun e1 => hgo (Option.some.inj e1)), h.off, h.size, h.old, h.base, zA h.grown hg (fun k e1 => ?_), h.kept.trans (xX.of_grown h.mem.lt hg (fun k e1 hx => ?_)), Nat.le_trans h.wk hg.size⟩
 ·obtain ⟨q, hq, rfl⟩ := List.getElem_of_mem hr'
  rw [List.getElem_set]
  have hq2 : q < rs.length := by simpa using hq
  split
  ·exact owns_setB ho hi u
  ·rename_i hne
   refine (h.mem.own _ (List.getElem_mem hq2)).kept hg (.inr (fun e1 => ?_))
   rcases Nat.lt_or_gt_of_ne hne with hlt | hlt
   ·exact hap j q hjl hq2 hlt g (by rw [hje]; rfl) e1
   ·exact hap q j hq2 hjl hlt g e1 (by rw [hje]; rfl)
 ·rw [List.pairwise_iff_getElem]
  intro p q hp hq hpq
  have hp2 : p < rs.length := by simpa using hp
  have hq2 : q < rs.length := by simpa using hq
  have := hap p q hp2 hq2 hpq
  rw [List.getElem_set, List.getElem_set]
  split <;> split
  ·omega
  ·rename_i e1 e2; subst e1; rw [hje] at this; exact this
  ·rename_i e1 e2; subst e2; rw [hje] at this; exact this
  ·exact this
 ·rcases List.mem_or_eq_of_mem_set hr' with hr' | rfl
  ·exact h.mem.offX r hr' k hk
  ·exact h.mem.offX _ hmem k hk
 ·rcases List.mem_or_eq_of_mem_set hr' with hr' | rfl
  ·exact h.typ r hr'
  ·exact ht
 ·have e1 : g = k := Option.some.inj e1
  have := (ho.lt g rfl).1
  have := h.size
  omega
 ·have e1 : g = k := Option.some.inj e1
  subst e1
  exact h.mem.offX _ hmem g rfl hx
end
end Go.Proofs.Ytjfdomfendbhfaa
