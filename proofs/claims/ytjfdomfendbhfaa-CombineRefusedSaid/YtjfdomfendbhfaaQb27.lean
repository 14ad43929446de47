/- Part 27 of the proof: Chains0, Size, FamCnt, FamilyP, CRef. -/
import Derived.Test.YtjfdomfendbhfaaQb26
set_option linter.unusedVariables false
set_option linter.unusedSimpArgs false
namespace Go.Proofs.Ytjfdomfendbhfaa
open Go.RowKit
def exts (bs : List (List (List Int))) (ws : List (List Int)) : List (List (List Int)) := bs.flatMap fun b => ws.map fun u => b ++ [u]
def chB (ws : List (List Int)) : Nat → List (List (List Int))
 | 0 => ws.map oneB
 | i + 1 => exts (chB ws i) (ws.drop 1)
def chL (ws : List (List Int)) : Nat → List (List (List Int))
 | 0 => ws.map oneB
 | i + 1 => chL ws i ++ exts (chB ws i) ws
theorem chL_pre (ws : List (List Int)) (i : Nat) : ∀ d, chL ws i <+: chL ws (i + d)
 | 0 => List.prefix_refl _
 | d + 1 => (chL_pre ws i d).trans (List.prefix_append _ _)
theorem iB {bs : List (List (List Int))} {ws : List (List Int)} {p : Nat} (hp : p < bs.length) : exts (bs.take (p + 1)) ws = exts (bs.take p) ws ++ ws.map fun u => bs[p] ++ [u] := by
 rw [exts, List.take_succ_eq_append_getElem hp, List.flatMap_append]; simp [exts]
theorem exts_pre (bs : List (List (List Int))) (ws : List (List Int)) (p : Nat) : exts (bs.take p) ws <+: exts bs ws := by
 conv => rhs; rw [← List.take_append_drop p bs]
 rw [exts, exts, List.flatMap_append]; exact List.prefix_append _ _
theorem exts_part {bs : List (List (List Int))} {ws : List (List Int)} {p : Nat} (hp : p < bs.length) (q : Nat) : exts (bs.take p) ws ++ (ws.take q).map (fun u => bs[p] ++ [u]) <+: exts bs ws := by
 refine List.IsPrefix.trans ?_ (exts_pre bs ws (p + 1))
 rw [iB hp]
 exact List.prefix_append_right_inj _ |>.2 ((List.take_prefix q ws).map _)
theorem lC {ws : List (List Int)} : ∀ (i : Nat) {b : List (List Int)}, b ∈ chB ws i → b.length = i + 1
 | 0, b, h => by
  obtain ⟨u, _, rfl⟩ := List.mem_map.1 h; rfl
 | i + 1, b, h => by
  obtain ⟨c, hc, hb⟩ := List.mem_flatMap.1 h
  obtain ⟨u, _, rfl⟩ := List.mem_map.1 hb
  rw [List.length_append, lC i hc]; rfl
theorem vW (bs : List (List (List Int))) (ws : List (List Int)) : (exts bs ws).length = bs.length * ws.length := by
 induction bs with
 | nil => simp [exts]
 | cons b bs ih =>
  have : exts (b :: bs) ws = (ws.map fun u => b ++ [u]) ++ exts bs ws := rfl
  rw [this, List.length_append, ih, List.length_map, List.length_cons, Nat.succ_mul]; omega
theorem chB_pos {ws : List (List Int)} (h : 2 ≤ ws.length) : ∀ i, 1 ≤ (chB ws i).length
 | 0 => by simp [chB]; omega
 | i + 1 => by
  rw [chB, vW, List.length_drop]
  exact Nat.mul_pos (chB_pos h i) (by omega)
theorem rowT_some {B e : Nat} {w : World} {sa : Option Addr} {n sc : Nat} {xs : List Value} (h : RowT B e w (.slice sa n sc) xs) (hp : 1 ≤ n) : ∃ b off, sa = some ⟨b, off, none⟩ ∧ n ≤ sc ∧ sc ≤ maxLen := by
 rcases h with ⟨hn, hn2⟩ | ⟨b, off, cap, cur, m, hv, hb, hc1, hc2, hblk, hcell⟩
 ·simp only [Value.slice.injEq] at hn; omega
 ·simp only [Value.slice.injEq] at hv
  obtain ⟨rfl, rfl, rfl⟩ := hv
  exact ⟨b, off, rfl, hc1, hc2⟩
structure LUp (e base : Nat) (w : World) (v : Value) (n : Nat) (svs : List Value) (ps : List (List (List Int))) : Prop where
 own : w.ownsRow base e 1 v n svs
 rows : wL w.heap.size 9 strs w svs ps
 ne : e ≠ 9
theorem LUp.len {e base n : Nat} {w : World} {v : Value} {svs : List Value} {ps : List (List (List Int))} (h : LUp e base w v n svs ps) : n = ps.length := by
 have := h.own.1; have := h.rows.1; omega
theorem LUp.nil {e : Nat} (he : e ≠ 9) (base : Nat) (w : World) : LUp e base w (.slice none 0 0) 0 [] [] := ⟨World.ownsRow_nil _ _ _ _, wL.nil, he⟩
theorem LUp.kept {e base n : Nat} {w w' : World} {v : Value} {svs : List Value} {ps : List (List (List Int))} {row : Option Nat} (h : LUp e base w v n svs ps) (hg : w.grownBy w' row) (hr : ∀ k, row = some k → w.heap.size ≤ k ∨ (zY w 9 k ∧ zY w e k)) : LUp e base w' v n svs ps := by
 refine ⟨h.own.kept hg ?_, (h.rows.kept hg (fun k e => (hr k e).imp id (·.1))).mono hg.size, h.ne⟩
 rcases hv : v.ownBlock with _ | k
 ·exact .inl rfl
 ·refine .inr fun e1 => ?_
  rcases hr k e1.symm with h1 | ⟨_, cur, e', m, hb, hn⟩
  ·have := (h.own.lt k hv).2; omega
  ·exact zS h.own hb (fun e2 => hn e2.symm) hv
theorem LUp.push {e base n m b2 : Nat} {w w1 w' : World} {v v' sv : Value} {svs : List Value} {ps : List (List (List Int))} {us : List (List Int)} (h : LUp e base w v n svs ps) (hg1 : w.grownBy w1 none) (ho1 : w1.ownsRow b2 9 1 sv m (strs us))
  (hown : w'.ownsRow base e 1 v' (n + 1) (svs ++ [sv])) (hg : w1.grownBy w' v.ownBlock) : LUp e base w' v' (n + 1) (svs ++ [sv]) (ps ++ [us]) ∧ w.grownBy w' v.ownBlock := by
 have h1 := h.kept hg1 (by simp)
 have hot := yB h1.own h.ne
 refine ⟨⟨hown, ?_, h.ne⟩, zF (rL hg1) hg⟩
 have h2 := ((h1.rows.snoc (RowT.of_owns ho1)).kept hg (fun k e => .inr (hot k e))).mono hg.size
 exact h2
theorem LUp.ofPats {base n : Nat} {w : World} {v : Value} {svs : List Value} {ps : List (List (List Int))} (h : PatsUp base w v n svs ps) : LUp 28 base w v n svs ps := ⟨h.own, h.rows, by decide⟩
theorem elem_strs : ElemOk Try.prog 147 26 (.slice none 0 0) 24 := ⟨Try.underlying147, by kernel_rfl, rfl⟩
structure LRead (B : Nat) (w : World) (v : Value) (svs : List Value) (bs : List (List (List Int))) : Prop where
 row : RowT B 26 w v svs
 rows : wL B 9 strs w svs bs
theorem LRead.kept {B : Nat} {w w' : World} {v : Value} {svs : List Value} {bs : List (List (List Int))} {row : Option Nat} (h : LRead B w v svs bs) (hg : w.grownBy w' row) (hr : ∀ k, row = some k → B ≤ k ∨ (zY w 26 k ∧ zY w 9 k)) : LRead B w' v svs bs :=
 ⟨h.row.kept hg (fun k e => (hr k e).imp id (·.1)), h.rows.kept hg (fun k e => (hr k e).imp id (·.2))⟩
theorem LRead.at {B b off sc n : Nat} {w : World} {svs : List Value} {bs : List (List (List Int))} (h : LRead B w (.slice (some ⟨b, off, none⟩) n sc) svs bs) (hn : n = bs.length) {p : Nat} (hp : p < n) : ∃ (a : Option Addr) (c : Nat), w.cell? ⟨b, off + p, none⟩ = some (.slice a (bs[p]'(by omega)).length c) ∧ RowT B 9 w (.slice a (bs[p]'(by omega)).length c) (strs (bs[p]'(by omega))) := by
 have hl := h.rows.1
 have h2 := h.rows.2 p (by omega) (by omega)
 have hrow := h.row.row
 rcases hrow with ⟨a0, c0, e, hx⟩ | ⟨b', off', cap', hv, _, _, _, hra⟩
 ·simp only [Value.slice.injEq] at e; omega
 ·simp only [Value.slice.injEq, Option.some.injEq, Addr.mk.injEq, and_true] at hv
  obtain ⟨⟨rfl, rfl⟩, _⟩ := hv
  have hc := hra.2 p (by omega)
  obtain ⟨a, c, e⟩ := h2.row.shape
  rw [xG] at e
  refine ⟨a, c, ?_, ?_⟩
  ·rw [hc, e]
  ·rw [← e]; exact h2
theorem LRead.of {base n : Nat} {w : World} {v : Value} {svs : List Value} {bs : List (List (List Int))} (h : LUp 26 base w v n svs bs) : LRead w.heap.size w v svs bs := ⟨RowT.of_owns h.own, h.rows⟩
def cnt (letters : Nat) : Nat → Int × Int
 | 0 => (0, 1)
 | r + 1 => (min ((cnt letters r).1 + (cnt letters r).2) 900, min ((cnt letters r).2 * letters) 900)
def chn (ne : Int) : Nat → Int × Int
 | 0 => (ne + 1, (ne + 1) * (ne + 1))
 | r + 1 => (min ((chn ne r).1 + (chn ne r).2) 900, min (chn ne r).2 900 * ne)
theorem chn_bd (ne : Int) (h : 0 ≤ ne) (h9 : ne ≤ 900) : ∀ r, 0 ≤ (chn ne r).1 ∧ (chn ne r).1 ≤ 901 ∧ 0 ≤ (chn ne r).2 ∧ (chn ne r).2 ≤ 811801
 | 0 => by
  have h2 : (ne + 1) * (ne + 1) ≤ 901 * 901 := Int.mul_le_mul (by omega) (by omega) (by omega) (by omega)
  have h3 : 0 ≤ (ne + 1) * (ne + 1) := Int.mul_nonneg (by omega) (by omega)
  simp only [chn]; omega
 | r + 1 => by
  have hb := chn_bd ne h h9 r
  have h2 : min (chn ne r).2 900 * ne ≤ 900 * 900 := Int.mul_le_mul (by omega) h9 h (by omega)
  have h3 : 0 ≤ min (chn ne r).2 900 * ne := Int.mul_nonneg (by omega) h
  simp only [chn]; omega
def sizeV (kind : Int) (letters : Nat) (k m : Int) : Int :=
 let ne := (cnt letters (k + 1).toNat).1 - 1
 let sh := (cnt letters k.toNat).1
 if kind = 1 then ne + 1 else if kind = 2 ∨ kind = 3 then sh + ne else if kind = 4 then sh + 2 * ne else if kind = 5 then sh + 3 * ne else if kind = 6 then ne else (chn ne (m + 1).toNat).1
def wI (kind letters k m : Int) : Bool :=
 decide (1 ≤ kind ∧ kind ≤ 7 ∧ 1 ≤ letters ∧ letters ≤ 6 ∧ (if kind = 1 then 0 else 1) ≤ k ∧ k ≤ 8 ∧ (if kind = 7 then 0 ≤ m ∧ m ≤ 4 else m = 0))
end Go.Proofs.Ytjfdomfendbhfaa
namespace Go.Proofs.Ytjfdomfendbhfaa
def yQ (letters k : Nat) : List (List Int) := upTo letters (k + 1)
def famP (kind : Int) (letters k m : Nat) : List (List (List Int)) :=
 let W := yQ letters k
 let S := upTo letters k
 if kind = 1 then W.map oneB else if kind = 2 then S.map oneB ++ (W.drop 1).map preB else if kind = 3 then S.map oneB ++ (W.drop 1).map sufB
 else if kind = 4 then S.map oneB ++ (W.drop 1).map sufB ++ (W.drop 1).map preB else if kind = 5 then S.map oneB ++ (W.drop 1).map sufB ++ (W.drop 1).map preB ++ (W.drop 1).map facB
 else if kind = 6 then (W.drop 1).map tR else chL W (m + 1)
theorem min_add (a b : Int) (ha : 0 ≤ a) (hb : 0 ≤ b) : min (min a 900 + min b 900) 900 = min (a + b) 900 := by omega
theorem min_mul (b : Nat) (L : Nat) (h : 1 ≤ L) : min (min (b : Int) 900 * L) 900 = min ((b * L : Nat) : Int) 900 := by
 rcases Nat.lt_or_ge b 900 with hb | hb
 ·rw [Int.min_eq_left (a := (b : Int)) (by omega), Int.natCast_mul]
 ·have h2 : b * 1 ≤ b * L := Nat.mul_le_mul_left _ h
  rw [Int.min_eq_right (a := (b : Int)) (by omega)]
  obtain ⟨P, hP⟩ : ∃ P, P = b * L := ⟨_, rfl⟩
  rw [← hP] at h2 ⊢
  omega
theorem cnt_is (letters : Nat) (h : 1 ≤ letters) : ∀ r, (cnt letters r).1 = min ((upTo letters r).length : Int) 900 ∧ (cnt letters r).2 = min ((letters ^ r : Nat) : Int) 900
 | 0 => by simp only [cnt, upTo, List.range_zero, List.flatMap_nil, List.length_nil, Nat.pow_zero]; decide
 | r + 1 => by
  obtain ⟨h1, h2⟩ := cnt_is letters h r
  rw [cnt]
  simp only
  rw [h1, h2]
  refine ⟨?_, ?_⟩
  ·rw [min_add _ _ (by omega) (by omega), yU, List.length_append, xO]; push_cast; rfl
  ·rw [min_mul _ _ h, Nat.pow_succ]
theorem chL_len (ws : List (List Int)) (i : Nat) : (chL ws (i + 1)).length = (chL ws i).length + (chB ws i).length * ws.length := by rw [chL, List.length_append, vW]
theorem chB_len (ws : List (List Int)) (i : Nat) : (chB ws (i + 1)).length = (chB ws i).length * (ws.length - 1) := by rw [chB, vW, List.length_drop]
theorem chn_is {ws : List (List Int)} (hw : 1 ≤ ws.length) (h9 : ws.length ≤ 900) : ∀ r, ((chn ((ws.length : Int) - 1) r).1 = ((chL ws r).length : Int) ∧ (chn ((ws.length : Int) - 1) r).2 = (((chB ws r).length * ws.length : Nat) : Int)) ∨ ((chn ((ws.length : Int) - 1) r).1 = 900 ∧ 900 ≤ (chL ws r).length)
 | 0 => by
  refine .inl ⟨?_, ?_⟩
  ·simp [chn, chL]
  ·rw [chn]
   simp only [chB, List.length_map]
   rw [show (ws.length : Int) - 1 + 1 = ws.length by omega]; push_cast; rfl
 | r + 1 => by
  have hb := chn_bd ((ws.length : Int) - 1) (by omega) (by omega) r
  rw [chn]
  simp only
  rcases chn_is hw h9 r with ⟨e1, e2⟩ | ⟨e1, e2⟩
  ·rw [e1, e2, chL_len, chB_len]
   obtain ⟨P, hP⟩ : ∃ P, P = (chB ws r).length * ws.length := ⟨_, rfl⟩
   rw [← hP]
   rcases Nat.lt_or_ge ((chL ws r).length + P) 900 with h | h
   ·refine .inl ⟨by omega, ?_⟩
    rw [Int.min_eq_left (by omega)]
    have e3 : (chB ws r).length * (ws.length - 1) * ws.length = P * (ws.length - 1) := by rw [hP, Nat.mul_assoc, Nat.mul_assoc, Nat.mul_comm (ws.length - 1)]
    rw [e3]
    have e4 : (ws.length : Int) - 1 = ((ws.length - 1 : Nat) : Int) := by omega
    rw [e4]; push_cast; rfl
   ·exact .inr ⟨by omega, by omega⟩
  ·refine .inr ⟨by omega, ?_⟩
   rw [chL_len]; omega
theorem chn_big (ne : Int) (h : 0 ≤ ne) (h9 : ne ≤ 900) (h3 : 300 ≤ ne) : ∀ r, 300 < (chn ne r).1
 | 0 => by simp only [chn]; omega
 | r + 1 => by
  have := chn_big ne h h9 h3 r
  have hb := chn_bd ne h h9 r
  rw [chn]; simp only; omega
theorem oW {kind : Int} {letters k m : Nat} (h1 : 1 ≤ kind) (h7 : kind ≤ 7) (hl : 1 ≤ letters) (hk : kind ≠ 1 → 1 ≤ k) : (300 < sizeV kind letters k m ↔ 300 < (famP kind letters k m).length) := by
 obtain ⟨c1, _⟩ := cnt_is letters hl (k + 1)
 obtain ⟨c2, _⟩ := cnt_is letters hl k
 have e1 : (((k : Nat) : Int) + 1).toNat = k + 1 := by omega
 have e2 : ((k : Nat) : Int).toNat = k := by omega
 have e3 : (((m : Nat) : Int) + 1).toNat = m + 1 := by omega
 have hw : 1 ≤ (yQ letters k).length := rD hl
 have hS : (upTo letters k).length ≤ (yQ letters k).length := by rw [yQ, yU, List.length_append]; omega
 unfold sizeV famP
 simp only
 rw [e1, e2, e3, c1, c2]
 change 1 ≤ (yQ letters k).length at hw
 rw [show upTo letters (k + 1) = yQ letters k from rfl]
 obtain ⟨W, hW⟩ : ∃ W, W = yQ letters k := ⟨_, rfl⟩
 rw [← hW] at hw hS ⊢
 by_cases k1 : kind = 1
 ·rw [if_pos k1, if_pos k1, List.length_map]; omega
 rw [if_neg k1, if_neg k1]
 by_cases k2 : kind = 2
 ·rw [if_pos (.inl k2), if_pos k2]; simp only [List.length_append, List.length_map, List.length_drop]; omega
 by_cases k3 : kind = 3
 ·rw [if_pos (.inr k3), if_neg k2, if_pos k3]; simp only [List.length_append, List.length_map, List.length_drop]; omega
 rw [if_neg (by omega), if_neg k2, if_neg k3]
 by_cases k4 : kind = 4
 ·rw [if_pos k4, if_pos k4]; simp only [List.length_append, List.length_map, List.length_drop]; omega
 rw [if_neg k4, if_neg k4]
 by_cases k5 : kind = 5
 ·rw [if_pos k5, if_pos k5]; simp only [List.length_append, List.length_map, List.length_drop]; omega
 rw [if_neg k5, if_neg k5]
 by_cases k6 : kind = 6
 ·rw [if_pos k6, if_pos k6]; simp only [List.length_map, List.length_drop]; omega
 rw [if_neg k6, if_neg k6]
 rcases Nat.lt_or_ge W.length 900 with h9 | h9
 ·rw [Int.min_eq_left (by omega)]
  rcases chn_is (ws := W) hw (by omega) (m + 1) with ⟨e, _⟩ | ⟨e, e'⟩
  ·rw [e]; omega
  ·rw [e]; omega
 ·rw [Int.min_eq_right (by omega)]
  have hb := chn_big 899 (by omega) (by omega) (by omega) (m + 1)
  have hp := (chL_pre W 0 (m + 1)).length_le
  rw [Nat.zero_add] at hp
  have e : (chL W 0).length = W.length := by simp [chL]
  have : (900 : Int) - 1 = 899 := by decide
  rw [this]; omega
end Go.Proofs.Ytjfdomfendbhfaa
namespace Go.Proofs.Ytjfdomfendbhfaa
open Go.RowKit
def famE (kind letters k m : Int) : Int := if wI kind letters k m = false then 1 else if kind = 6 ∧ 8 < k + 2 ∨ 300 < sizeV kind letters.toNat k m then 3 else 0
def famL (kind letters k m : Int) : List (List (List Int)) := if famE kind letters k m = 0 then famP kind letters.toNat k.toNat m.toNat else []
def yY (w : World) (er : Int) (ps : List (List (List Int))) (e : Ending) (w' : World) : Prop :=
 ∃ (sa : Option Addr) (sc : Nat) (svs : List Value), e = .returned (.tuple #[.slice sa ps.length sc, .int .i64 er]) ∧ RowT w'.heap.size 28 w' (.slice sa ps.length sc) svs ∧ wL w'.heap.size 9 strs w' svs ps ∧ w.grownBy w' none
theorem yY.nil {w w' : World} {er : Int} (hg : w.grownBy w' none) : yY w er [] (.returned (.tuple #[.slice none 0 0, .int .i64 er])) w' := ⟨none, 0, [], rfl, .inl ⟨rfl, rfl⟩, wL.nil, hg⟩
set_option maxRecDepth 100000 in
set_option maxHeartbeats 800000 in
theorem validRef_any (B : Nat) (w : World) (pv cv : Value) (root : Int) (cs : List ChoV) (i : Nat) (r : Int) (h : sY B w cv cs) (hi : i < cs.length) :
  Calls Try.prog 37 #[.agg #[pv, cv, .int .i64 root], .int .i64 (i : Int), .int .i64 r] w fun e w' => e = .returned (.bool (refB cs i (cs.getD i default).p r)) ∧ w.grownBy w' none := by
 obtain ⟨b, off, cap, rfl, hb, hc, hm, hch⟩ := h.at_ (by omega)
 have hcm : cap ≤ 9223372036854775807 := by unfold maxLen at hm; omega
 obtain ⟨n, hn⟩ : ∃ n, n = cs.length := ⟨_, rfl⟩
 have HN := Kh hn
 have hi0 := hi
 rw [← hn] at hc hi ⊢
 have hg1 := World.grownBy_alloc w (.cells #[pv, .slice (some ⟨b, off, none⟩) n cap, .int .i64 root] 25) none
 have hb1 := heap_alloc_new w (.cells #[pv, .slice (some ⟨b, off, none⟩) n cap, .int .i64 root] 25)
 obtain ⟨wA, hWA⟩ : ∃ w1, w1 = w.alloc (.cells #[pv, .slice (some ⟨b, off, none⟩) n cap, .int .i64 root] 25) := ⟨_, rfl⟩
 obtain ⟨P, hP⟩ : ∃ P, P = w.heap.size := ⟨_, rfl⟩
 rw [← hWA] at hg1 hb1
 rw [← hP] at hb1
 have hch1 := hch.kept hg1 (by simp)
 obtain ⟨p0, p1, p2⟩ := zW hb1
 have c1 := hch1.p i hi0
 have HCH := Kh hch1
 have HWA := Kh hWA; have HPE := Kh hP; have HGA := Kh hg1
 obtain ⟨x, hx⟩ : ∃ x, x = (cs.getD i default).p := ⟨_, rfl⟩
 have HX := Kh hx
 rw [← hx] at c1
 rw [← hx]
 have hi' : (i : Int) < n := by omega
 have hip : (0 : Int) ≤ i := by omega
 clear h hch hch1 hg1 hb1 hWA hP hx hn hi0
 go_enter Try.func37, Try.ntmps37
 go_upto_region 1 with fail
 rw [← HWA.out, ← HPE.out]
 by_cases h0 : r < 0
 ·have HR : Hid (refB cs i x r = false) := Kh (by simp [refB]; omega)
  go_wp2
  go_ret
  exact ⟨zZ HR.out.symm, HGA.out⟩
 by_cases h1 : 1 + (i : Int) < r
 ·have HR : Hid (refB cs i x r = false) := Kh (by simp [refB]; omega)
  go_wp2
  go_ret
  exact ⟨zZ HR.out.symm, HGA.out⟩
 by_cases h2 : r < 2
 ·have HR : Hid (refB cs i x r = true) := Kh (by simp [refB]; omega)
  have hd : decide (r < 2) = true := by simpa using h2
  go_wp2
  go_quiet (fail)
  go_wp2
  go_ret
  exact ⟨zZ (by rw [HR.out]), zA HGA.out (by first | exact zP _ none | exact zT _ _ none) (by simp)⟩
 ·have hd : decide (r < 2) = false := by simpa using h2
  obtain ⟨q, rfl⟩ : ∃ q : Nat, r = (q : Int) + 2 := ⟨(r - 2).toNat, by omega⟩
  have c2 := HCH.out.p q (by have := HN.out; omega)
  have e2 : IntKind.i64.wrap ((q : Int) + 2 - 2) = (q : Int) := by rw [show (q : Int) + 2 - 2 = q by omega]; exact tV (by unfold maxLen at hm; omega)
  have e3 : (q : Int) + 2 - 2 = (q : Int) := by omega
  have hq : q < n := by omega
  have hq' : (q : Int) < n := by omega
  obtain ⟨y, hy⟩ : ∃ y, y = (cs.getD q default).p := ⟨_, rfl⟩
  rw [← hy] at c2
  have HR : Hid (refB cs i x ((q : Int) + 2) = decide (x < y)) := Kh (by
   have e : ((q : Int) + 2).toNat - 2 = q := by omega
   simp only [refB, e, ← hy]
   rw [Bool.eq_iff_iff]
   simp only [Bool.and_eq_true, decide_eq_true_eq]
   omega)
  clear hy
  go_wp2
  go_quiet (fail)
  go_wp2
  go_ret
  exact ⟨zZ (by rw [HR.out]), zA HGA.out (by first | exact zP _ none | exact zT _ _ none) (by simp)⟩
end Go.Proofs.Ytjfdomfendbhfaa
