/- Part 10 of the proof: ClosePlain, Gen, MaxRef, Sets4, Round, Shelf. -/
import Derived.Test.YtdjhoadoiknaoaaDoorZp9
import Derived.Deep.CutBlock
import Derived.Shelf.Slices.Equal
import Derived.Ground.Names2Prog
import Derived.Shelf.Slices.Clone
import Derived.Shelf.Slices.Empties2
import Derived.Test.YtdjhoadoiknaoaaDoorProg
set_option linter.unusedVariables false
set_option linter.unusedSimpArgs false
namespace Go.Proofs.YtdjhoadoiknaoaaDoor
theorem filter_le {α : Type} {p q : α → Bool} : ∀ (l : List α), (∀ a ∈ l, p a = true → q a = true) → (l.filter p).length ≤ (l.filter q).length
 | [], _ => Nat.le_refl _
 | a :: l, h => by
  have ih := filter_le l (fun b hb => h b (List.mem_cons_of_mem _ hb))
  have ha := h a (by simp)
  simp only [List.filter_cons]
  split <;> split <;> simp_all <;> omega
theorem filter_lt {α : Type} {p q : α → Bool} : ∀ (l : List α), (∀ a ∈ l, p a = true → q a = true) → (∃ a ∈ l, p a = false ∧ q a = true) → (l.filter p).length < (l.filter q).length
 | [], _, ⟨a, ha, _⟩ => by simp at ha
 | a :: l, h, ⟨b, hb, hp, hq⟩ => by
  have hl := filter_le l (fun b hb => h b (List.mem_cons_of_mem _ hb))
  have ha := h a (by simp)
  rcases List.mem_cons.1 hb with rfl | hb
  ·simp only [List.filter_cons, hp, hq]
   simp; omega
  ·have ih := filter_lt l (fun b hb => h b (List.mem_cons_of_mem _ hb)) ⟨b, hb, hp, hq⟩
   simp only [List.filter_cons]
   split <;> split <;> simp_all <;> omega
def gap (n : Nat) (l : List Nat) : Nat := ((List.range (2 ^ n)).filter fun s => !under l s).length
theorem gap_le (n : Nat) (l : List Nat) : gap n l ≤ 2 ^ n := by
 have := List.length_filter_le (fun s => !under l s) (List.range (2 ^ n))
 rw [List.length_range] at this
 exact this
section
variable {n : Nat} {tb : Nat → Nat → Nat} {l : List Nat}
theorem under_round (ht : Tb n tb) (hl : ∀ b ∈ l, b < 2 ^ n) {s : Nat} (h : under l s = true) : under (zZ n tb l) s = true := by
 rw [zZ, under_maxOf (uZ ht hl)]
 obtain ⟨b, hb, hs⟩ := xI.1 h
 exact xI.2 ⟨b, uM.2 (.inl hb), hs⟩
theorem round_lt {s : Nat} (h : s ∈ zZ n tb l) : s < 2 ^ n := maxOf_lt h
theorem round_max (ht : Tb n tb) (hl : ∀ b ∈ l, b < 2 ^ n) : maxOf n (zZ n tb l) = zZ n tb l := maxOf_max (uZ ht hl)
theorem gap_round (ht : Tb n tb) (hl : ∀ b ∈ l, b < 2 ^ n) (hm : maxOf n l = l) (hne : zZ n tb l ≠ l) : gap n (zZ n tb l) < gap n l := by
 unfold gap
 apply filter_lt
 ·intro s _ h
  cases hu : under l s with
  | false => rfl
  | true => rw [under_round ht hl hu] at h; exact h
 ·apply Classical.byContradiction
  intro hno
  apply hne
  have he : ∀ s, under (tR n tb l) s = under l s := by
   intro s
   rw [← under_maxOf (uZ ht hl)]
   show under (zZ n tb l) s = _
   cases hu : under l s with
   | true => exact under_round ht hl hu
   | false =>
    cases hr : under (zZ n tb l) s with
    | false => rfl
    | true => exact absurd ⟨s, List.mem_range.2 (under_lt (fun b hb => round_lt hb) hr), by rw [hr]; rfl, by rw [hu]; rfl⟩ hno
  have : maxOf n (tR n tb l) = maxOf n l := by
   unfold maxOf topB
   congr 1
   funext s
   rw [he]
   congr 1
   congr 1
   funext x
   rw [he]
  exact this.trans hm
def yN (n : Nat) (tb : Nat → Nat → Nat) : Nat → List Nat × Bool → List Nat × Bool
 | 0, f => f
 | k + 1, f => if f.2 then f else yN n tb k (zZ n tb f.1, decide (zZ n tb f.1 = f.1))
def sB (n : Nat) (tb : Nat → Nat → Nat) (l : List Nat) : List Nat := (yN n tb (2 ^ n + 1) (l, false)).1
theorem wH (k : Nat) (l : List Nat) : yN n tb k (l, true) = (l, true) := by
 cases k <;> simp [yN]
theorem vJ (k : Nat) (l : List Nat) : yN n tb (k + 1) (l, false) = yN n tb k (zZ n tb l, decide (zZ n tb l = l)) := by simp [yN]
theorem uY (i j : Nat) (f : List Nat × Bool) : yN n tb (i + j) f = yN n tb j (yN n tb i f) := by
 induction i generalizing f with
 | zero => simp [yN]
 | succ i ih =>
  rw [Nat.succ_add]
  obtain ⟨l, d⟩ := f
  cases d with
  | true => rw [wH, wH, wH]
  | false => rw [vJ, vJ, ih]
def FamOk (n : Nat) (f : List Nat × Bool) : Prop := (∀ b ∈ f.1, b < 2 ^ n) ∧ maxOf n f.1 = f.1
theorem famOk_round (ht : Tb n tb) {l : List Nat} {d e : Bool} (h : FamOk n (l, d)) : FamOk n (zZ n tb l, e) := ⟨fun _ hb => round_lt hb, round_max ht h.1⟩
theorem roundsGo_end (ht : Tb n tb) : ∀ (k : Nat) (l : List Nat), FamOk n (l, false) → gap n l < k → (yN n tb k (l, false)).2 = true
 | 0, l, _, h => by omega
 | k + 1, l, hf, h => by
  rw [vJ]
  by_cases e : zZ n tb l = l
  ·rw [e, decide_eq_true rfl, wH]
  ·rw [decide_eq_false e]
   exact roundsGo_end ht k _ (famOk_round ht hf) (by have : gap n (zZ n tb l) < gap n l := gap_round ht hf.1 hf.2 e; omega)
theorem roundsGo_true {k : Nat} {f : List Nat × Bool} (h : (yN n tb k f).2 = true) (j : Nat) : yN n tb (k + j) f = yN n tb k f := by
 rw [uY]
 generalize yN n tb k f = g at h
 obtain ⟨l, d⟩ := g
 simp only at h
 subst h
 exact wH _ _
theorem roundsGo_stop (ht : Tb n tb) {l : List Nat} (hf : FamOk n (l, false)) {k : Nat} (h : (yN n tb k (l, false)).2 = true) : (yN n tb k (l, false)).1 = sB n tb l := by
 have h1 := roundsGo_end ht (2 ^ n + 1) l hf (by have := gap_le n l; omega)
 unfold sB
 rcases Nat.le_total k (2 ^ n + 1) with hk | hk
 ·obtain ⟨j, e⟩ : ∃ j, 2 ^ n + 1 = k + j := ⟨2 ^ n + 1 - k, by omega⟩
  rw [e, roundsGo_true h]
 ·obtain ⟨j, rfl⟩ : ∃ j, k = 2 ^ n + 1 + j := ⟨k - (2 ^ n + 1), by omega⟩
  rw [roundsGo_true h1]
end
end Go.Proofs.YtdjhoadoiknaoaaDoor
namespace Go.Proofs.YtdjhoadoiknaoaaDoor
open Go.RowKit
def genL (t : List (List Int)) (im : List Int) : List Nat := 2 ^ (wR t).toNat :: im.map fun x => 2 ^ x.toNat
theorem genL_length (t : List (List Int)) (im : List Int) : (genL t im).length = im.length + 1 := by simp [genL]
theorem genL_lt {t : List (List Int)} {im : List Int} (h : Good t im) : ∀ b ∈ genL t im, b < 2 ^ t.length := by
 intro b hb
 obtain ⟨e, he, hel, _⟩ := h.ident
 rcases List.mem_cons.1 hb with rfl | hb
 ·rw [he]; exact Nat.pow_lt_pow_right (by omega) hel
 ·obtain ⟨x, hx, rfl⟩ := List.mem_map.1 hb
  obtain ⟨i, hi, rfl⟩ := List.getElem_of_mem hx
  have := inB_iff.1 h.inb i hi
  simp only [List.getD, List.getElem?_eq_getElem hi, Option.getD_some] at this
  exact Nat.pow_lt_pow_right (by omega) (by omega)
def genTo (t : List (List Int)) (im : List Int) (k : Nat) : List Nat := 2 ^ (wR t).toNat :: (im.take k).map fun x => 2 ^ x.toNat
theorem genTo_succ {t : List (List Int)} {im : List Int} {k : Nat} (hk : k < im.length) : genTo t im (k + 1) = genTo t im k ++ [2 ^ (im.getD k 0).toNat] := by
 simp only [genTo, yA (d := 0) hk, List.map_append, List.map_cons, List.map_nil, List.cons_append]
theorem genTo_full {t : List (List Int)} {im : List Int} : genTo t im im.length = genL t im := by simp [genTo, genL]
def Gens (w : World) (t : List (List Int)) (im : List Int) (e : Ending) (w' : World) : Prop :=
 ∃ (sa : Option Addr) (sc : Nat), e = .returned (.slice sa (genL t im).length sc) ∧ w'.ownsRow w.heap.size 3 1 (.slice sa (genL t im).length sc) (genL t im).length (nats (genL t im)) ∧ w.grownBy w' none
set_option maxHeartbeats 800000 in
theorem generators_any (B : Nat) (w : World) (v iv : Value) (t : List (List Int)) (im : List Int) (hB : B ≤ w.heap.size) (h : Mat B w v t) (hi : Row B w iv (ints im)) (hg : Good t im) :
  Calls Tryd.prog 60 #[v, iv] w (Gens w t im) := by
 have HI := Kh hi; have HGD := Kh hg
 obtain ⟨e0, he, hel, _⟩ := hg.ident
 have hle := hg.le
 have h0 := hg.im0
 have h6 := hg.im6
 have hid := identity_any B w v t hB h
 rw [identE_valid hg.valid] at hid
 rw [he] at hid
 have HID := Kh hid
 have hsh := shl_eq (m := e0) (by omega)
 have hsh' := shl_eq' (m := e0) (by omega)
 obtain ⟨M, hM⟩ : ∃ M, M = 2 ^ e0 := ⟨_, rfl⟩
 rw [← hM] at hsh hsh'
 have hg0 : Hid (genTo t im 0 = [M]) := Kh (by simp [genTo, he, hM])
 have hM4 : M ≤ 4096 := by rw [hM]; have := tJ (show e0 ≤ 12 by omega); omega
 obtain ⟨ib, io, ic, rfl, _, _, _, _⟩ := hi.some_ (by rw [zP]; exact h0)
 rw [zP]
 clear h hi hg he hid hM
 go_enter Tryd.func60, Tryd.ntmps60
 go_wp2_with fail
 refine HID.out.mono ?_
 rintro e w1 ⟨rfl, hg1⟩
 have hown0 : (w1.alloc (.cells #[.int .i64 (M : Int)] 3)).ownsRow w.heap.size 3 1 (.slice (some ⟨w1.heap.size, 0, none⟩) 1 1) 1 (nats [M]) :=
  yI (World.ownsRow_lit w1 #[.int .i64 (M : Int)] 1 (Nat.le_refl _) (by unfold maxLen; omega) (by simp)) hg1.size
 have HOWN0 := Kh hown0
 have hgA := Kh (wI hg1 (.cells #[.int .i64 (M : Int)] 3))
 clear hown0
 go_wp2
 go_loopg [5, 14] im.length (fun g ov i wr => ∃ (k : Nat) (sa : Option Addr) (sc : Nat), g + k = im.length ∧ i = .int .i64 k ∧ ov = .slice sa (k + 1) sc ∧ wr.ownsRow w.heap.size 3 1 (.slice sa (k + 1) sc) (k + 1) (nats (genTo t im k)) ∧ w.grownBy wr none)
 case atStart => exact ⟨0, some ⟨w1.heap.size, 0, none⟩, 1, rfl, rfl, rfl, by rw [hg0.out]; exact HOWN0.out, hgA.out⟩
 case round =>
  clear HOWN0 hgA
  obtain ⟨k, sa, sc, hg, rfl, rfl, hown, hgr⟩ := hrel
  have HG := Kh hg; have HOWN := Kh hown; clear hg hown
  by_cases hk : k < im.length
  ·have hk' : (k : Int) < im.length := by omega
   obtain ⟨ib', io', ic', e, _, _, _, hra⟩ := (HI.out.kept hgr (by simp)).some_ (by rw [zP]; exact h0)
   simp only [Value.slice.injEq, Option.some.injEq, Addr.mk.injEq, and_true] at e
   obtain ⟨⟨rfl, rfl⟩, -, -⟩ := e
   have ck := hra.int k hk
   have hin := inB_iff.1 HGD.out.inb k hk
   obtain ⟨x, hx⟩ : ∃ x : Nat, (x : Int) = im.getD k 0 := ⟨(im.getD k 0).toNat, by omega⟩
   rw [← hx] at ck hin
   have hxl : x < t.length := by omega
   have hsx := shl_eq (m := x) (by omega)
   have hsx' := shl_eq' (m := x) (by omega)
   obtain ⟨X, hX⟩ : ∃ X, X = 2 ^ x := ⟨_, rfl⟩
   rw [← hX] at hsx hsx'
   have hgt : Hid (genTo t im (k + 1) = genTo t im k ++ [X]) := Kh (by rw [genTo_succ hk, ← hx, hX]; rfl)
   clear hra hx hX hin
   go_wp2_with (at_builtin; refine app1 rfl _ _ _ rfl yD w.heap.size _ (k + 1) (nats (genTo t im k)) rfl HOWN.out _ rfl rfl ?c1 ?c2 ?c3 ?_)
   case c1 => unfold maxLen; omega
   case c2 => omega
   case c3 => exact hgr.size
   intro sa' sc' w3 hown3 hg3 hlt3
   have HO3 := Kh hown3; have HG3 := Kh hg3
   clear hown3 hg3
   go_wp2
   go_roundg (im.length - (k + 1))
   case measure => have := HG.out; omega
   case rel =>
    refine ⟨k + 1, sa', sc', by omega, by go_num, rfl, ?_, zG hgr HG3.out (fun q e => (HOWN.out.lt q e).1)⟩
    rw [hgt.out, vO]
    first | exact HO3.out | (have h1 := HO3.out; rw [hsx] at h1; exact h1) | (have h1 := HO3.out; rw [hsx'] at h1; exact h1)
  ·have hkn : k = im.length := by have := HG.out; omega
   have hgf : Hid (genTo t im k = genL t im ∧ (genL t im).length = k + 1) := Kh ⟨by rw [hkn, genTo_full], by rw [genL_length, hkn]⟩
   clear hkn
   go_wp2
   go_ret
   refine ⟨sa, sc, by rw [hgf.out.2]; rfl, ?_, hgr⟩
   rw [hgf.out.2, ← hgf.out.1]
   exact HOWN.out
attribute [local go_sem ↓] Go.wp_at_zero Go.wp_at_succ
theorem sorted_lt {o : List Nat} (h : o.Pairwise (· < ·)) {i j : Nat} (hij : i < j) (hj : j < o.length) : o.getD i 0 < o.getD j 0 := by
 have := List.pairwise_iff_getElem.1 h i j (by omega) hj hij
 simpa [List.getD, List.getElem?_eq_getElem (show i < o.length by omega), List.getElem?_eq_getElem hj] using this
theorem getD_memN {l : List Nat} {i : Nat} (hi : i < l.length) : l.getD i 0 ∈ l := by
 simp only [List.getD, List.getElem?_eq_getElem hi]; exact List.getElem_mem hi
def maxTo (n : Nat) (l : List Nat) (k : Nat) : List Nat := (List.range k).filter fun s => under l s && topB n l s
theorem maxTo_full (n : Nat) (l : List Nat) : maxTo n l (2 ^ n) = maxOf n l := rfl
theorem maxTo_succ (n : Nat) (l : List Nat) (k : Nat) : maxTo n l (k + 1) = maxTo n l k ++ (if under l k && topB n l k then [k] else []) := by
 rw [maxTo, List.range_succ, List.filter_append]
 congr 1
 simp only [List.filter_cons, List.filter_nil]
theorem maxTo_le (n : Nat) (l : List Nat) (k : Nat) : (maxTo n l k).length ≤ k := by
 have := List.length_filter_le (fun s => under l s && topB n l s) (List.range k)
 rw [List.length_range] at this
 exact this
def topTo (l : List Nat) (s x : Nat) : Bool := (List.range x).all fun x => s.testBit x || !under l (s ||| 1 <<< x)
theorem topTo_succ (l : List Nat) (s x : Nat) : topTo l s (x + 1) = (topTo l s x && (s.testBit x || !under l (s ||| 1 <<< x))) := by
 simp only [topTo, List.range_succ, List.all_append, List.all_cons, List.all_nil, Bool.and_true]
def Maxed (w : World) (n : Nat) (l : List Nat) (e : Ending) (w' : World) : Prop := ∃ (sa : Option Addr) (sc : Nat), e = .returned (.slice sa (maxOf n l).length sc) ∧ w'.ownsRow w.heap.size 3 1 (.slice sa (maxOf n l).length sc) (maxOf n l).length (nats (maxOf n l)) ∧ w.grownBy w' none
set_option maxRecDepth 100000 in
set_option maxHeartbeats 1000000 in
theorem maximal_any (F C : Nat) (w : World) (p go n : Nat) (tb : Nat → Nat → Nat) (lv : Value) (B : Nat) (l : List Nat) (h : wD F C w p go n tb) (hn : n ≤ 12) (hl : Row B w lv (nats l)) (hlt : ∀ b ∈ l, b < 2 ^ n) (hB : B ≤ w.heap.size) :
  Calls Tryd.prog 59 #[.pointer (some ⟨p, 0, none⟩), lv] w (Maxed w n l) := by
 obtain ⟨N, hN⟩ : ∃ N, N = 2 ^ n := ⟨_, rfl⟩
 have hN4 : N ≤ 4096 := by have := tJ hn; omega
 have HN := Kh hN; have H := Kh h
 have HI := Kh (inside_any F C w p go n tb lv B l h hn hl hlt hB)
 have HLT := Kh hlt
 clear h hl hlt hN
 go_enter Tryd.func59, Tryd.ntmps59
 go_wp2_with fail
 refine HI.out.mono ?_
 rintro e w1 ⟨rfl, ha1, hg1⟩
 rw [← HN.out] at ha1 ⊢
 have HA1 := Kh ha1
 clear ha1 HI
 have hz1 := HA1.out.lt
 go_wp2
 go_loopg [6, 15] N (fun g kv i wr => ∃ (k : Nat) (sa : Option Addr) (sc : Nat), g + k = N ∧ i = .int .i64 k ∧ kv = .slice sa (maxTo n l k).length sc ∧ wr.ownsRow w1.heap.size 3 1 (.slice sa (maxTo n l k).length sc) (maxTo n l k).length (nats (maxTo n l k)) ∧ Arr wr w.heap.size 4 (bls (uV N l)) ∧ w.grownBy wr none ∧ w1.heap.size ≤ wr.heap.size)
 case atStart => exact ⟨0, none, 0, rfl, rfl, rfl, World.ownsRow_nil _ _ _ _, HA1.out, hg1, Nat.le_refl _⟩
 case round =>
  clear HA1 hg1
  obtain ⟨s, sa, sc, hg, rfl, rfl, hown, harr, hgr, hsz⟩ := hrel
  have HG := Kh hg; have HARR := Kh harr; have HOWN := Kh hown
  have hml := maxTo_le n l s
  obtain ⟨L, hL⟩ : ∃ L, L = (maxTo n l s).length := ⟨_, rfl⟩
  rw [← hL] at HOWN hml ⊢
  have HL := Kh hL
  clear hg harr hown hL
  by_cases hs : s < N
  ·have hsN : (s : Int) < N := by omega
   have hs63 : s < 9223372036854775808 := by omega
   have cs := HARR.out.bool s (by rw [underAll_length]; exact hs)
   rw [underAll_get hs] at cs
   have c0 := (H.out.kept hgr (by simp)).c0
   cases hu : under l s
   ·rw [hu] at cs
    have HU := Kh hu
    clear hu
    go_wp2
    go_roundg (N - (s + 1))
    case measure => have := HG.out; omega
    case rel =>
     have hmt : maxTo n l (s + 1) = maxTo n l s := by rw [maxTo_succ, HU.out]; simp
     refine ⟨s + 1, sa, sc, by omega, by go_num, by rw [hmt, HL.out], ?_, HARR.out, hgr, hsz⟩
     rw [hmt, ← HL.out]; exact HOWN.out
   ·rw [hu] at cs
    have HU := Kh hu
    clear hu
    go_wp2
    go_loopg [8, 27] n (fun g gv i wr' => ∃ (x : Nat) (c : Bool), g + x = n ∧ i = .int .i64 x ∧ gv = .bool c ∧ Hid (c = topTo l s x) ∧ wr = wr')
    case atStart => exact ⟨0, true, rfl, rfl, rfl, Kh rfl, rfl⟩
    case round =>
     obtain ⟨x, c, hgx, rfl, rfl, hc, rfl⟩ := hrel
     have HGX := Kh hgx
     clear hgx
     by_cases hx : x < n
     ·cases hbit : s.testBit x
      ·have hb := bit_zero hs63 hbit
       have hsx := shl_eq (m := x) (by omega)
       have hlt := or_one_lt (show s < 2 ^ n by rw [← HN.out]; omega) hx
       rw [Nat.one_shiftLeft, ← HN.out] at hlt
       obtain ⟨M, hM⟩ : ∃ M, M = 2 ^ x := ⟨_, rfl⟩
       rw [← hM] at hsx hlt
       have hM4 : M ≤ 4096 := by rw [hM]; have := tJ (show x ≤ 12 by omega); omega
       have e4 : bits .or .i64 (s : Int) (M : Int) = ((s ||| M : Nat) : Int) := i64_or_nat s M (by omega) (by omega)
       obtain ⟨S2, hS⟩ : ∃ S2, S2 = s ||| M := ⟨_, rfl⟩
       rw [← hS] at e4 hlt
       have hlt' : (S2 : Int) < N := by omega
       have c2 := HARR.out.bool S2 (by rw [underAll_length]; exact hlt)
       rw [underAll_get hlt] at c2
       obtain ⟨v, hv⟩ : ∃ v, v = under l S2 := ⟨_, rfl⟩
       rw [← hv] at c2
       have hcv : Hid ((c && !v) = topTo l s (x + 1)) := by
        have e : under l (s ||| 1 <<< x) = v := by rw [Nat.one_shiftLeft, ← hM, ← hS, hv]
        exact Kh (by rw [topTo_succ, hbit, e, hc.out]; simp)
       have HBIT := Kh hbit
       clear hbit hS hM hv
       cases v
       ·go_wp2
        go_roundg (n - (x + 1))
        case measure => have := HGX.out; omega
        case rel => exact ⟨x + 1, c, by omega, by go_num, rfl, Kh (by rw [← hcv.out]; simp), rfl⟩
       ·go_wp2
        go_roundg (n - (x + 1))
        case measure => have := HGX.out; omega
        case rel => exact ⟨x + 1, false, by omega, by go_num, rfl, Kh (by rw [← hcv.out]; simp), rfl⟩
      ·have hb := bit_one hs63 hbit
       have hcv : Hid (c = topTo l s (x + 1)) := Kh (by rw [topTo_succ, hbit, hc.out]; simp)
       have HBIT := Kh hbit
       clear hbit
       go_wp2
       go_roundg (n - (x + 1))
       case measure => have := HGX.out; omega
       case rel => exact ⟨x + 1, c, by omega, by go_num, rfl, hcv, rfl⟩
     ·have hct : Hid (c = topB n l s) := by
       have hxn : x = n := by have := HGX.out; omega
       have := hc.out
       rw [hxn] at this
       exact Kh this
      cases c
      ·go_wp2
       go_roundg (N - (s + 1))
       case measure => have := HG.out; omega
       case rel =>
        have hmt : maxTo n l (s + 1) = maxTo n l s := by rw [maxTo_succ, ← hct.out]; simp
        refine ⟨s + 1, sa, sc, by omega, by go_num, by rw [hmt, HL.out], ?_, HARR.out, hgr, hsz⟩
        rw [hmt, ← HL.out]; exact HOWN.out
      ·go_wp2_with (at_builtin; refine app1 rfl _ _ _ rfl yD w1.heap.size _ L (nats (maxTo n l s)) rfl HOWN.out _ rfl rfl ?c1 ?c2 ?c3 ?_)
       case c1 => unfold maxLen; omega
       case c2 => omega
       case c3 => exact hsz
       intro sa' sc' w3 hown3 hg3 hlt3
       have HO3 := Kh hown3; have HG3 := Kh hg3
       clear hown3 hg3
       go_wp2
       go_roundg (N - (s + 1))
       case measure => have := HG.out; omega
       case rel =>
        have hmt : maxTo n l (s + 1) = maxTo n l s ++ [s] := by rw [maxTo_succ, ← hct.out, HU.out]; simp
        have hlen : (maxTo n l (s + 1)).length = L + 1 := by rw [hmt, List.length_append, HL.out]; rfl
        refine ⟨s + 1, sa', sc', by omega, by go_num, by rw [hlen], ?_, HARR.out.kept HG3.out (fun e => ?_), zG hgr HG3.out (fun q e => ?_), by omega⟩
        ·rw [hlen, hmt, vO]; exact HO3.out
        ·have := (HOWN.out.lt _ e).1; omega
        ·have := (HOWN.out.lt q e).1; have := hgr.size; omega
  ·have hsN : s = N := by have := HG.out; omega
   have hmt : Hid (maxTo n l s = maxOf n l) := by rw [hsN, HN.out]; exact Kh rfl
   clear hsN
   go_wp2
   go_ret
   refine ⟨sa, sc, by rw [← hmt.out, ← HL.out]; rfl, ?_, hgr⟩
   rw [← hmt.out, ← HL.out]
   exact yI HOWN.out (by omega)
structure Rs (w0 w : World) (bi bm g n M N : Nat) (mv : Value) (bs : List Bool) (lst : List Nat) (row : Option Nat) : Prop where
 box1 : w.heap[bi]? = some (.cells #[.slice (some ⟨g, 0, none⟩) N N] 25 (0, 0))
 box2 : w.heap[bm]? = some (.cells #[mv] 22 (0, 0))
 own : w.ownsRow w0.heap.size 3 1 mv lst.length (nats lst)
 shape : ∃ sa sc, mv = .slice sa lst.length sc
 arr : Arr w g 4 (bls bs)
 len : bs.length = N
 cnt : lst.length ≤ M + bs.count true
 mem : ∀ x, x < N → bs.getD x false = true → x ∈ lst
 lt : ∀ x ∈ lst, x < N
 lo : w0.heap.size ≤ bi ∧ w0.heap.size ≤ bm ∧ w0.heap.size ≤ g
 fr : w0.grownBy w row
theorem Rs.len_le {w0 w : World} {bi bm g n M N : Nat} {mv : Value} {bs : List Bool} {lst : List Nat} {row : Option Nat} (h : Rs w0 w bi bm g n M N mv bs lst row) : lst.length ≤ M + N := by
 have h1 := h.cnt
 have h2 : bs.count true ≤ bs.length := List.count_le_length
 have := h.len
 omega
def RAdded (w0 w : World) (bi bm g n M N : Nat) (lst : List Nat) (row : Option Nat) (x : Nat) (e : Ending) (w' : World) : Prop :=
 e = .returned (.tuple #[]) ∧ ∃ bs' mv' lst', Rs w0 w' bi bm g n M N mv' bs' lst' row ∧ (∀ y, y ∈ lst' ↔ y ∈ lst ∨ y = x) ∧ Below w0.heap.size w w'
theorem count_set_true' {bs : List Bool} {x : Nat} (hx : x < bs.length) (h : bs.getD x false = false) : (bs.set x true).count true = bs.count true + 1 := by
 rw [List.count_set hx]
 have : bs[x] = false := by simpa [List.getD, List.getElem?_eq_getElem hx] using h
 simp [this]
set_option maxHeartbeats 400000 in
theorem radd_any (w0 w : World) (bi bm g n M N x : Nat) (mv : Value) (bs : List Bool) (lst : List Nat) (row : Option Nat) (hx : x < N) (hn : N ≤ 4096) (hM : M ≤ 1000000) (h : Rs w0 w bi bm g n M N mv bs lst row) :
  Calls Tryd.prog 89 #[.int .i64 (x : Int), .pointer (some ⟨bi, 0, none⟩), .pointer (some ⟨bm, 0, none⟩)] w (RAdded w0 w bi bm g n M N lst row x) := by
 have H := Kh h
 have hml := h.len_le
 obtain ⟨sa, sc, rfl⟩ := h.shape
 have ci := zI h.box1 0 (by simp)
 have cx := h.arr.bool x (by rw [h.len]; exact hx)
 have fx := h.arr.frozen x
 simp only [List.getElem_toArray, List.getElem_cons_zero] at ci
 have hx' : (x : Int) < N := by omega
 clear h
 cases hb : bs.getD x false
 ·rw [hb] at cx
  have HB := Kh hb; clear hb
  have hset := H.out.arr.bool_set x (by rw [H.out.len]; exact hx) true
  have hgs1 := zH w ⟨g, x, none⟩ (.bool true)
  go_enter Tryd.func89, Tryd.ntmps89
  go_upto_region 2 with fail
  generalize hW : w.setCell ⟨g, x, none⟩ (.bool true) = w1 at hset hgs1
  have HW := Kh hW
  have hlo := H.out.lo
  have hg1 := zG H.out.fr hgs1 (by simp; omega)
  have hb2 := H.out.box2
  have hown := H.out.own
  have hb2' := zE hb2 hgs1 (fun e => by
   have := Option.some.inj e
   exact (H.out.arr.type_ne hb2 (by decide)) this)
  have hb1' := zE H.out.box1 hgs1 (fun e => (H.out.arr.type_ne H.out.box1 (by decide)) (Option.some.inj e))
  have hown' := hown.kept hgs1 (.inr (fun e => by
   obtain ⟨cur, rest, hh, _⟩ := H.out.arr
   exact zR hown hh (by decide) e))
  have cm := zI hb2' 0 (by simp)
  simp only [List.getElem_toArray, List.getElem_cons_zero] at cm
  have HB1 := Kh hb1'; have HB2 := Kh hb2'; have HSET := Kh hset; have HGS := Kh hgs1
  clear hW ci cx fx hset hgs1 hb2 hown hb1' hb2'
  go_wp2_with (at_builtin; refine app1 rfl _ _ _ rfl yD w0.heap.size _ lst.length (nats lst) rfl hown' _ rfl rfl ?c1 ?c2 ?c3 ?_)
  case c1 => unfold maxLen; omega
  case c2 => omega
  case c3 => exact hg1.size
  intro sa' sc' w3 hown3 hg3 hlt3
  have hne2 := zR hown' HB2.out (by decide)
  have hb23 := zE HB2.out hg3 hne2
  have hf3 := zD hb23 0
  have hc3 := zI hb23 0 (by simp)
  simp only [List.getElem_toArray, List.getElem_cons_zero] at hc3
  have hb13 := zE HB1.out hg3 (zR hown' HB1.out (by decide))
  have hset3 := HSET.out.kept hg3 (by
   obtain ⟨cur, rest, hh, _⟩ := HSET.out
   exact zR hown' hh (by decide))
  have hg03 := zG hg1 hg3 (fun k e => (hown'.lt k e).1)
  have hlow := fun k e => (hown'.lt k e).1
  have H13 := Kh hb13; have H23 := Kh hb23; have HS3 := Kh hset3; have HO3 := Kh hown3; have HG3 := Kh hg3; have HLOW := Kh hlow
  clear hb13 hb23 hset3 hown3 hg3 hown' cm hlow
  go_wp2
  go_end0
  have hgs := zH w3 ⟨bm, 0, none⟩ (.slice sa' (lst.length + 1) sc')
  have hz1 := HGS.out.size
  refine ⟨rfl, bs.set x true, .slice sa' (lst.length + 1) sc', lst ++ [x], ⟨?_, heap_setCell_same w3 bm 0 _ _ _ H23.out, ?_, ⟨sa', sc', by simp⟩, ?_, by rw [List.length_set]; exact H.out.len, ?_, fun y hy hyb => ?_, fun y hy => ?_, hlo, zG hg03 hgs (by simp; omega)⟩, fun y => by simp, ⟨?_, ?_, ?_, Nat.le_trans hz1 (Nat.le_trans HG3.out.size hgs.size), fun k hk => ?_⟩⟩
  ·refine zE H13.out hgs (fun e => ?_)
   have e' := Option.some.inj e
   have h1 := H13.out
   rw [← e', H23.out] at h1
   simp at h1
  ·rw [List.length_append, vO]
   exact HO3.out.kept hgs (.inr (zR HO3.out H23.out (by decide)))
  ·exact HS3.out.kept hgs (fun e => (HS3.out.type_ne H23.out (by decide)) (Option.some.inj e).symm)
  ·rw [List.length_append, count_set_true' (by rw [H.out.len]; exact hx) HB.out]
   have := H.out.cnt
   simp; omega
  ·rw [List.mem_append]
   by_cases e : x = y
   ·subst e; exact .inr (by simp)
   ·rw [getD_set_ne _ _ _ _ _ e] at hyb
    exact .inl (H.out.mem y hy hyb)
  ·rcases List.mem_append.1 hy with hy | hy
   ·exact H.out.lt y hy
   ·simp at hy; omega
  ·exact hgs.os.trans (HG3.out.os.trans HGS.out.os)
  ·exact hgs.tape.trans (HG3.out.tape.trans HGS.out.tape)
  ·exact hgs.output.trans (HG3.out.output.trans HGS.out.output)
  ·have hs0 := H.out.fr.size
   exact (hgs.block k (by have := HG3.out.size; omega) (fun e => by have : k = bm := Option.some.inj e; omega)).trans ((HG3.out.block k (by omega) (fun e => by have := HLOW.out k e.symm; omega)).trans (HGS.out.block k (by omega) (fun e => by have : k = g := Option.some.inj e; omega)))
 ·rw [hb] at cx
  have HB := Kh hb; clear hb
  go_enter Tryd.func89, Tryd.ntmps89
  go_wp2
  go_end0
  refine ⟨rfl, bs, _, lst, H.out, fun y => ⟨.inl, fun h => h.elim id (fun e => by rw [e]; exact H.out.mem x hx HB.out)⟩, Below.refl _ _⟩
end Go.Proofs.YtdjhoadoiknaoaaDoor
namespace Go.Proofs
open Go.Shelf
def Tryd.lays111_ren : Go.Shelf.Ren := ⟨fun | 111 => 90 | n => n, fun | 28 => 22 | 3 => 3 | 4 => 4 | 0 => 0 | n => n, fun | n => n⟩
theorem Tryd.lays111 : Go.Proofs.Lays.n111 Tryd.prog Tryd.lays111_ren := {
 mixed := by kernel_rfl
 f111 := Tryd.func90.trans (congrArg some (by kernel_rfl))
 t0 := Tryd.underlying0
 a0 := Tryd.isAgg0
 z0 := Tryd.sizeOf0
 v0 := Tryd.zeroValue0
 t3 := Tryd.underlying3
 a3 := Tryd.isAgg3
 z3 := Tryd.sizeOf3
 v3 := Tryd.zeroValue3
 t4 := Tryd.underlying4
 a4 := Tryd.isAgg4
 z4 := Tryd.sizeOf4
 v4 := Tryd.zeroValue4
 t28 := Tryd.underlying22
 a28 := Tryd.isAgg22
 z28 := Tryd.sizeOf22
 v28 := Tryd.zeroValue22 }
open Go.RowKit Go.Lib in
theorem Tryd.slices_Equal_int (b1 o1 n c b2 o2 m d : Nat) (xs ys : List Int) (w : World) (hx : n ≤ xs.length) (hy : m ≤ ys.length) (hbig : n ≤ 9223372036854775807) (hbig2 : m ≤ 9223372036854775807) (hc1 : ∀ j, j < xs.length → w.cell? ⟨b1, o1 + j, none⟩ = some (.int .i64 (xs.getD j 0))) (hc2 : ∀ j, j < ys.length → w.cell? ⟨b2, o2 + j, none⟩ = some (.int .i64 (ys.getD j 0))) :
  Calls Tryd.prog 90 #[.slice (some ⟨b1, o1, none⟩) n c, .slice (some ⟨b2, o2, none⟩) m d] w fun e w' => e = .returned (.bool (xs.take n == ys.take m)) ∧ ∃ q, w' = w.drewN q := Any.slices_Equal_int Tryd.lays111 b1 o1 n c b2 o2 m d xs ys w hx hy hbig hbig2 hc1 hc2
def Tryd.laysNm215_ren : Go.Shelf.Ren := ⟨fun | 15 => 65 | n => n, fun | 22 => 22 | 3 => 3 | 4 => 4 | n => n, fun | n => n⟩
theorem Tryd.laysNm215 : Go.Proofs.Lays2.n15 Tryd.prog Tryd.laysNm215_ren := {
 mixed := by kernel_rfl
 f15 := Tryd.func65.trans (congrArg some (by kernel_rfl))
 t3 := Tryd.underlying3
 a3 := Tryd.isAgg3
 z3 := Tryd.sizeOf3
 v3 := Tryd.zeroValue3
 t4 := Tryd.underlying4
 a4 := Tryd.isAgg4
 z4 := Tryd.sizeOf4
 v4 := Tryd.zeroValue4
 t22 := Tryd.underlying22
 a22 := Tryd.isAgg22
 z22 := Tryd.sizeOf22
 v22 := Tryd.zeroValue22
 i3 := by kernel_rfl }
open Go.RowKit Go.Lib in
theorem Tryd.slices_Clone_int (b off n c : Nat) (zs : List Int) (w : World) (hz : n ≤ zs.length) (hbig : n * 8 ≤ 140737488355328) (hc : ∀ j, j < zs.length → w.cell? ⟨b, off + j, none⟩ = some (.int .i64 (zs.getD j 0))) :
  Calls Tryd.prog 65 #[.slice (some ⟨b, off, none⟩) n c] w fun e w' => ∃ v', e = .returned v' ∧ w'.ownsRow w.heap.size 3 1 v' n ((zs.take n).map (Value.int .i64)) ∧ v' ≠ .slice none 0 0 ∧ Below w.heap.size w w' := Any.slices_Clone_int Tryd.laysNm215 b off n c zs w hz hbig hc
end Go.Proofs
