/- Part 26 of the proof: OfP, Lex, Words, Pieces, PatsUp, Ends, Extend. -/
import Derived.Test.YtjfdomfendbhfaaQb25
set_option linter.unusedVariables false
set_option linter.unusedSimpArgs false
namespace Go.Proofs.Ytjfdomfendbhfaa
open Go.RowKit
def ofE (d : DfaV) (ps : List (List ByteArray)) : Int := if wK d = 0 then (if 300 < ps.length then 3 else vL d.letters ps) else wK d
def ofT (d : DfaV) (ps : List (List ByteArray)) : List DfaV := autD ps d.letters ++ [minD d d.letters.toNat]
theorem vH (ps : List (List ByteArray)) (k : Int) : (autD ps k).length = ps.length := by simp [autD]
theorem vM (d : DfaV) (ps : List (List ByteArray)) : (ofT d ps).length = ps.length + 1 := by rw [ofT, List.length_append, vH]; rfl
theorem qM {d : DfaV} {ps : List (List ByteArray)} (h : ofE d ps = 0) : wK d = 0 ∧ ps.length ≤ 300 ∧ vL d.letters ps = 0 := by
 unfold ofE at h
 split at h
 ·rename_i h1
  split at h
  ·omega
  ·exact ⟨h1, by omega, h⟩
 ·omega
theorem ofE_bad {d : DfaV} {ps : List (List ByteArray)} (h : wK d ≠ 0) : ofE d ps = wK d := if_neg h
theorem ofE_many {d : DfaV} {ps : List (List ByteArray)} (h : wK d = 0) (h3 : 300 < ps.length) : ofE d ps = 3 := by rw [ofE, if_pos h, if_pos h3]
theorem ofE_pats {d : DfaV} {ps : List (List ByteArray)} (h : wK d = 0) (h3 : ¬ 300 < ps.length) : ofE d ps = vL d.letters ps := by rw [ofE, if_pos h, if_neg h3]
theorem vd_len5 {d : DfaV} (h : wK d = 0) : d.final.length ≤ 512 := by
 unfold wK at h
 split at h
 ·omega
 split at h
 ·omega
 omega
theorem ofT_pat {d : DfaV} {ps : List (List ByteArray)} {i : Nat} (hi : i < ps.length) : (ofT d ps).getD i dN = xE (ps.getD i []) d.letters := by
 rw [ofT, qU (List.prefix_append _ _) (by rw [vH]; exact hi), zI (by rw [vH]; exact hi), zI hi]
 simp [autD]
theorem ofT_last (d : DfaV) (ps : List (List ByteArray)) : (ofT d ps).getD ps.length dN = minD d d.letters.toNat := by
 rw [ofT, List.getD_eq_getElem?_getD, List.getElem?_append_right (by rw [vH]; exact Nat.le_refl _), vH, Nat.sub_self]; rfl
theorem autD_ok {ps : List (List ByteArray)} {k : Nat} (h : vL (k : Int) ps = 0) : OkT (autD ps (k : Int)) k := fun i hi => by
 rw [vH] at hi
 have e : (autD ps (k : Int)).getD i dN = xE (ps.getD i []) (k : Int) := by
  rw [zI (by rw [vH]; exact hi), zI hi]; simp [autD]
 have hp : patW (ps.getD i []) (k : Int) = 0 := by rw [zI hi]; exact vK.1 h _ (List.getElem_mem hi)
 obtain ⟨n, hn, hv⟩ := patDfa_vd (wO.1 hp)
 exact ⟨n, by rw [e]; exact hv, by omega⟩
theorem OkT.snoc {ds : List DfaV} {k n : Nat} {d : DfaV} (h : OkT ds k) (hd : VD d n k) (hn : n ≤ 512) : OkT (ds ++ [d]) k := fun i hi => by
 rw [List.length_append, List.length_singleton] at hi
 rcases Nat.lt_succ_iff_lt_or_eq.1 hi with hi | rfl
 ·obtain ⟨m, h1, h2⟩ := h i hi
  exact ⟨m, by rw [qU (List.prefix_append _ _) hi]; exact h1, h2⟩
 ·refine ⟨n, ?_, hn⟩
  rw [List.getD_eq_getElem?_getD, List.getElem?_append_right (Nat.le_refl _), Nat.sub_self]; exact hd
theorem ofT_ok {d : DfaV} {ps : List (List ByteArray)} (h : ofE d ps = 0) : OkT (ofT d ps) d.letters.toNat := by
 obtain ⟨h1, h2, h3⟩ := qM h
 have hv := vd_of h1
 have h5 := vd_len5 h1
 have hk := hv.hk
 have e : ((d.letters.toNat : Nat) : Int) = d.letters := hk.symm
 have ha := autD_ok (ps := ps) (k := d.letters.toNat) (by rw [e]; exact h3)
 rw [e] at ha
 exact ha.snoc (lQ hv) (by have := minN_le hv; omega)
theorem decF_np {np : Nat} {cs : List ChoV} {m m' : Nat → Bool} (hc : wF np cs cs.length) (h : ∀ i, i < np → m i = m' i) : ∀ (f : Nat) (r : Int), r ≤ 1 + (cs.length : Int) → decF cs m f r = decF cs m' f r
 | 0, r, _ => rfl
 | f + 1, r, hr => by
  rw [decF, decF]
  split
  ·rfl
  ·rename_i h2
   have hi : r.toNat - 2 < cs.length := by omega
   have hf := pT (hc _ hi)
   rw [h _ (show (cs.getD (r.toNat - 2) default).p.toNat < np by omega)]
   split
   ·exact decF_np hc h f _ (by omega)
   ·exact decF_np hc h f _ (by omega)
theorem decG_np {np : Nat} {cs : List ChoV} {m m' : Nat → Bool} (hc : wF np cs cs.length) (h : ∀ i, i < np → m i = m' i) {r : Int} (hr : r ≤ 1 + (cs.length : Int)) : decG cs m r = decG cs m' r := decF_np hc h _ r hr
theorem mts_walk {ds : List DfaV} {np : Nat} (hn : np ≤ ds.length) (u : List Nat) {i : Nat} (hi : i < np) : (mtsT ds np (rX (nxtT ds) (st0T ds) u)).getD i false = acc (ds.getD i dN) (st0 (ds.getD i dN)) u := by
 rw [kM hi, wY (by omega)]
abbrev MT (ds : List DfaV) (np : Nat) (L : List (List Nat)) : Nat → List Bool := fun s => mtsT ds np (L.getD s [])
abbrev AT (ds : List DfaV) (np : Nat) (L : List (List Nat)) : Nat → Bool := fun s => accT ds (L.getD s []) np
theorem dia_dec {ds : List DfaV} {np k : Nat} {L : List (List Nat)} {l : List ClaV} {cs : List ChoV} {r : Int} (hn : np < ds.length) (hL : BfsD (nxtT ds) k (st0T ds) L) (hc : ClsI (MT ds np L) (AT ds np L) L.length L.length l) (hb : ∀ c ∈ l, nK c = false) (hch : wF np cs cs.length) (hr : r ≤ 1 + (cs.length : Int)) (hd : ∀ c ∈ l, decG cs (fun i => c.m.getD i false) r = c.b) :
  ∀ u, yD k u → decG cs (fun i => acc (ds.getD i dN) (st0 (ds.getD i dN)) u) r = acc (ds.getD np dN) (st0 (ds.getD np dN)) u := fun u hu => by
 obtain ⟨i, hi, e⟩ := List.getElem_of_mem (hL.all u hL.mem0 hu)
 obtain ⟨c, hcl, h1, h2⟩ := hc.dec hb hi
 have e2 : L.getD i [] = rX (nxtT ds) (st0T ds) u := by rw [zI hi, e]
 rw [← wY hn, ← e2]
 show _ = AT ds np L i
 rw [← h2, ← hd c hcl]
 refine decG_np hch (fun j hj => ?_) hr
 show acc _ _ _ = c.m.getD j false
 rw [h1]
 show _ = (mtsT ds np (L.getD i [])).getD j false
 rw [e2, mts_walk (by omega) u hj]
theorem cls_conf {ds : List DfaV} {np k : Nat} {L : List (List Nat)} {l : List ClaV} (hn : np < ds.length) (hL : BfsD (nxtT ds) k (st0T ds) L) (hc : ClsI (MT ds np L) (AT ds np L) L.length L.length l) {c : ClaV} (hcl : c ∈ l) (hb : nK c = true) : Conf ds np k := by
 obtain ⟨y, n, _, _, hy, hn2, h1, h2, h3⟩ := hc.both hcl hb
 exact (kP hn hL).2 ⟨_, _, by rw [zI hy]; exact List.getElem_mem hy, by rw [zI hn2]; exact List.getElem_mem hn2, h1, h2, h3⟩
theorem cls_noconf {ds : List DfaV} {np k : Nat} {L : List (List Nat)} {l : List ClaV} (hn : np < ds.length) (hL : BfsD (nxtT ds) k (st0T ds) L) (hc : ClsI (MT ds np L) (AT ds np L) L.length L.length l) (hb : ∀ c ∈ l, nK c = false) : ¬ Conf ds np k := fun h => by
 obtain ⟨x, y, hx, hy, h1, h2, h3⟩ := (kP hn hL).1 h
 obtain ⟨i, hi, rfl⟩ := List.getElem_of_mem hx
 obtain ⟨j, hj, rfl⟩ := List.getElem_of_mem hy
 rw [← zI (d := []) hi] at h1 h2
 rw [← zI (d := []) hj] at h1 h3
 exact hc.clash hb hi hj h1 h2 h3
inductive OfOut (w' : World) (d : DfaV) (ps : List (List ByteArray)) : Value → ByteArray → ByteArray → Int → Prop
 | bad (h : ofE d ps ≠ 0) : OfOut w' d ps (.agg #[.slice none 0 0, .slice none 0 0, .int .i64 0]) ⟨#[]⟩ ⟨#[]⟩ (ofE d ps)
 | over (h : ofE d ps = 0) (ho : Over (ofT d ps) d.letters.toNat) : OfOut w' d ps (.agg #[.slice none 0 0, .slice none 0 0, .int .i64 0]) ⟨#[]⟩ ⟨#[]⟩ 3
 | conf (h : ofE d ps = 0) (hu : Under (ofT d ps) d.letters.toNat) (hc : Conf (ofT d ps) ps.length d.letters.toNat) (u v : List Nat) (h1 : yD d.letters.toNat u) (h2 : yD d.letters.toNat v) (h3 : u.length ≤ 4000) (h4 : v.length ≤ 4000)
   (h5 : ∀ i, i < ps.length → acc (xE (ps.getD i []) d.letters) (st0 (xE (ps.getD i []) d.letters)) u = acc (xE (ps.getD i []) d.letters) (st0 (xE (ps.getD i []) d.letters)) v) (h6 : acc d (st0 d) u = true) (h7 : acc d (st0 d) v = false) :
   OfOut w' d ps (.agg #[.slice none 0 0, .slice none 0 0, .int .i64 0]) (strOfNums (lets u)) (strOfNums (lets v)) 20
 | ok (v : Value) (g : DiaV) (l : List ClaV) (L : List (List Nat)) (h : ofE d ps = 0) (hL : BfsD (nxtT (ofT d ps)) d.letters.toNat (st0T (ofT d ps)) L) (hl4 : L.length ≤ 4000) (hn : ¬ Conf (ofT d ps) ps.length d.letters.toNat) (hg : lH w'.heap.size w' v g) (h1 : g.pats = ps) (h2 : wF ps.length g.chos g.chos.length) (h3 : 0 ≤ g.root) (h4 : g.root ≤ 1 + (g.chos.length : Int))
   (h5 : ∀ u, yD d.letters.toNat u → decG g.chos (fun i => acc (xE (ps.getD i []) d.letters) (st0 (xE (ps.getD i []) d.letters)) u) g.root = acc d (st0 d) u) (hc : ClsI (MT (ofT d ps) ps.length L) (AT (ofT d ps) ps.length L) L.length L.length l) (h6 : g.chos.length + 1 ≤ l.length) :
   OfOut w' d ps v ⟨#[]⟩ ⟨#[]⟩ 0
theorem st0_min (d : DfaV) (k : Nat) : st0 (minD d k) = 0 := rfl
theorem min_acc0 {d : DfaV} {n k : Nat} (hd : VD d n k) {u : List Nat} (hu : yD k u) : acc (minD d k) (st0 (minD d k)) u = acc d (st0 d) u := by rw [st0_min]; exact min_acc hd hu
theorem of_conf {d : DfaV} {ps : List (List ByteArray)} {L : List (List Nat)} {y n : Nat} {u v : List Nat} (h : ofE d ps = 0) (hL : BfsD (nxtT (ofT d ps)) d.letters.toNat (st0T (ofT d ps)) L) (hu : yD d.letters.toNat u) (hv : yD d.letters.toNat v)
  (h1 : rX (nxtT (ofT d ps)) (L.getD 0 []) u = L.getD y []) (h2 : rX (nxtT (ofT d ps)) (L.getD 0 []) v = L.getD n []) (hm : MT (ofT d ps) ps.length L y = MT (ofT d ps) ps.length L n) (ha : AT (ofT d ps) ps.length L y = true) (hb : AT (ofT d ps) ps.length L n = false) :
  (∀ i, i < ps.length → acc (xE (ps.getD i []) d.letters) (st0 (xE (ps.getD i []) d.letters)) u = acc (xE (ps.getD i []) d.letters) (st0 (xE (ps.getD i []) d.letters)) v) ∧ acc d (st0 d) u = true ∧ acc d (st0 d) v = false := by
 have e0 : L.getD 0 [] = st0T (ofT d ps) := by rw [List.getD_eq_getElem?_getD, hL.hd]; rfl
 rw [e0] at h1 h2
 have hn : ps.length < (ofT d ps).length := by rw [vM]; omega
 have hvd := vd_of (qM h).1
 refine ⟨fun i hi => ?_, ?_, ?_⟩
 ·have e1 := mts_walk (ds := ofT d ps) (np := ps.length) (by omega) u hi
  have e2 := mts_walk (ds := ofT d ps) (np := ps.length) (by omega) v hi
  rw [ofT_pat hi, h1] at e1
  rw [ofT_pat hi, h2] at e2
  rw [← e1, ← e2]
  exact congrArg (fun l => l.getD i false) hm
 ·have e1 := wY hn u
  rw [h1, ofT_last, min_acc0 hvd hu] at e1
  rw [← e1]; exact ha
 ·have e1 := wY hn v
  rw [h2, ofT_last, min_acc0 hvd hv] at e1
  rw [← e1]; exact hb
theorem of_dec {d : DfaV} {ps : List (List ByteArray)} {L : List (List Nat)} {l : List ClaV} {cs : List ChoV} {r : Int} (h : ofE d ps = 0) (hL : BfsD (nxtT (ofT d ps)) d.letters.toNat (st0T (ofT d ps)) L) (hc : ClsI (MT (ofT d ps) ps.length L) (AT (ofT d ps) ps.length L) L.length L.length l) (hb : ∀ c ∈ l, nK c = false) (hch : wF ps.length cs cs.length) (hr : r ≤ 1 + (cs.length : Int)) (hd : ∀ c ∈ l, decG cs (fun i => c.m.getD i false) r = c.b) :
  ∀ u, yD d.letters.toNat u → decG cs (fun i => acc (xE (ps.getD i []) d.letters) (st0 (xE (ps.getD i []) d.letters)) u) r = acc d (st0 d) u := fun u hu => by
 have hn : ps.length < (ofT d ps).length := by rw [vM]; omega
 have h1 := dia_dec hn hL hc hb hch hr hd u hu
 rw [ofT_last, min_acc0 (vd_of (qM h).1) hu] at h1
 rw [← h1]
 exact decG_np hch (fun i hi => by rw [ofT_pat hi]) hr
theorem of_short {d : DfaV} {ps : List (List ByteArray)} (h : ofE d ps = 0) : ∀ p ∈ ps, p.length ≤ 100000 := fun p hp => by
 have h1 := vK.1 (qM h).2.2 p hp
 have := wD (wO.1 h1)
 omega
def lex (letters : Nat) : Nat → List (List Int)
 | 0 => [[]]
 | n + 1 => (lex letters n).flatMap fun w => (List.range letters).map fun (c : Nat) => w ++ [97 + (c : Int)]
def block (letters : Nat) (w : List Int) (c : Nat) : List (List Int) := (List.range' c (letters - c)).map fun (c : Nat) => w ++ [97 + (c : Int)]
theorem lex_succ (letters n : Nat) : lex letters (n + 1) = (lex letters n).flatMap fun w => block letters w 0 := by
 simp [lex, block, List.range_eq_range']
theorem sO {letters : Nat} : ∀ {n : Nat} {w : List Int}, w ∈ lex letters n → w.length = n ∧ ∀ x ∈ w, okNum letters x
 | 0, w, h => by simp [lex] at h; subst h; simp
 | n + 1, w, h => by
  simp only [lex, List.mem_flatMap, List.mem_map, List.mem_range] at h
  obtain ⟨v, hv, c, hc, rfl⟩ := h
  obtain ⟨h1, h2⟩ := sO hv
  refine ⟨by simp [h1], fun x hx => ?_⟩
  rcases List.mem_append.1 hx with hx | hx
  ·exact h2 x hx
  ·simp at hx; subst hx; unfold okNum; omega
theorem xO (letters : Nat) : ∀ n, (lex letters n).length = letters ^ n
 | 0 => rfl
 | n + 1 => by
  rw [lex_succ, List.length_flatMap]
  have : (lex letters n).map (fun w => (block letters w 0).length) = List.replicate (letters ^ n) letters := by
   rw [← xO letters n, ← List.map_const']
   refine List.map_congr_left fun w _ => ?_
   simp [block]
  rw [this, List.sum_replicate_nat, Nat.pow_succ]
theorem allWords_upto (letters k : Nat) : (List.range (k + 1)).flatMap (lex letters) = (List.range k).flatMap (lex letters) ++ lex letters k := by
 rw [List.range_succ, List.flatMap_append]; simp
def upTo (letters n : Nat) : List (List Int) := (List.range n).flatMap (lex letters)
theorem yU (letters n : Nat) : upTo letters (n + 1) = upTo letters n ++ lex letters n := allWords_upto letters n
theorem vE (letters : Nat) (h : letters ≤ 6) : ∀ n, n ≤ 9 → (upTo letters n).length ≤ 2000000 * n
 | 0, _ => by simp [upTo]
 | n + 1, hn => by
  have h1 := vE letters h n (by omega)
  rw [yU, List.length_append, xO]
  have h2 : letters ^ n ≤ 6 ^ n := Nat.pow_le_pow_left h n
  have h3 : 6 ^ n ≤ 6 ^ 8 := Nat.pow_le_pow_right (by omega) (by omega)
  have h4 : (6 : Nat) ^ 8 = 1679616 := by decide
  omega
theorem qH (a b : List (List Int)) : strs (a ++ b) = strs a ++ strs b := by simp [strs]
theorem xG (a : List (List Int)) : (strs a).length = a.length := by simp [strs]
def kB (w : World) (ls : List (List Int)) (e : Ending) (w' : World) : Prop :=
 ∃ (sa : Option Addr) (sc : Nat), e = .returned (.slice sa ls.length sc) ∧ RowT w'.heap.size 9 w' (.slice sa ls.length sc) (strs ls) ∧ w.grownBy w' none
theorem yN : ElemOk Try.prog 22 28 (.agg #[.slice none 0 0]) 24 := ⟨Try.underlying22, by kernel_rfl, rfl⟩
def tR (u : List Int) : List (List Int) := [[]] ++ u.map (fun c => [c]) ++ [[]]
def qV (u : List Int) (j : Nat) : List (List Int) := [[]] ++ (u.take j).map (fun c => [c])
theorem extract_one (l : List Int) (j : Nat) (hj : j < l.length) : (strOfNums l).extract j (j + 1) = strOfNums [l[j]] := by
 have h : ((strOfNums l).extract j (j + 1)).data.toList = (strOfNums [l[j]]).data.toList := by
  rw [ByteArray.data_extract, strOfNums_data, Array.toList_extract, strOfNums_data, List.extract_eq_take_drop]
  rw [List.drop_eq_getElem_cons (by simpa using hj)]
  simp
 have h2 := Array.toList_inj.1 h
 cases h3 : (strOfNums l).extract j (j + 1)
 cases h4 : strOfNums [l[j]]
 simp_all
def PatListed (w : World) (ps : List (List (List Int))) (e : Ending) (w' : World) : Prop :=
 ∃ (sa : Option Addr) (sc : Nat) (svs : List Value), e = .returned (.slice sa ps.length sc) ∧ RowT w'.heap.size 28 w' (.slice sa ps.length sc) svs ∧ wL w'.heap.size 9 strs w' svs ps ∧ w.grownBy w' none
structure PatsUp (base : Nat) (w : World) (v : Value) (n : Nat) (svs : List Value) (ps : List (List (List Int))) : Prop where
 own : w.ownsRow base 28 1 v n svs
 rows : wL w.heap.size 9 strs w svs ps
theorem RowT.lit {w w' : World} {cs : Array Value} {e : TypeId} {row : Option Nat} {q : Nat} {xs : List Value} (hc : cs.toList = xs) (hq : cs.size = q) (hm : q ≤ maxLen) (hg : (w.alloc (.cells cs e)).grownBy w' row) (hr : row ≠ some w.heap.size) : RowT w'.heap.size e w' (.slice (some ⟨w.heap.size, 0, none⟩) q q) xs := by
 have hb := zB (heap_alloc_new w (.cells cs e)) hg hr
 have hl : xs.length = q := by rw [← hc, ← hq]; simp
 refine .inr ⟨w.heap.size, 0, q, cs, (0, 0), by rw [hl], zN hb, by omega, hm, hb, fun i hi => ?_⟩
 rw [Nat.zero_add, ← Array.getElem?_toList, hc, List.getElem?_eq_getElem hi]
theorem PatsUp.push {base n q : Nat} {w w' : World} {v v' : Value} {svs : List Value} {ps : List (List (List Int))} {us : List (List Int)} {cs : Array Value} (h : PatsUp base w v n svs ps) (hc : cs.toList = strs us) (hq : cs.size = q) (hm : q ≤ maxLen)
  (hown : w'.ownsRow base 28 1 v' (n + 1) (svs ++ [.slice (some ⟨w.heap.size, 0, none⟩) q q])) (hg : (w.alloc (.cells cs 9)).grownBy w' v.ownBlock) :
  PatsUp base w' v' (n + 1) (svs ++ [.slice (some ⟨w.heap.size, 0, none⟩) q q]) (ps ++ [us]) ∧ w.grownBy w' v.ownBlock := by
 have hlt : ∀ k, v.ownBlock = some k → k < w.heap.size := fun k hk => (h.own.lt k hk).2
 have hA := World.grownBy_alloc w (.cells cs 9) none
 have hoA := h.own.alloc (.cells cs 9)
 have hot := yB hoA (e' := 9) (by decide)
 refine ⟨⟨hown, ?_⟩, zF (World.grownBy_alloc w _ _) hg⟩
 have h1 := h.rows.kept hA (by simp)
 have h2 := (h1.kept hg (fun k e => .inr (hot k e))).mono (Nat.le_trans hA.size hg.size)
 exact h2.snoc (RowT.lit hc hq hm hg (fun e => by have := hlt _ e; omega))
theorem PatsUp.nil (base : Nat) (w : World) : PatsUp base w (.slice none 0 0) 0 [] [] := ⟨World.ownsRow_nil _ _ _ _, wL.nil⟩
theorem PatsUp.kept {base n : Nat} {w w' : World} {v : Value} {svs : List Value} {ps : List (List (List Int))} {row : Option Nat} (h : PatsUp base w v n svs ps) (hg : w.grownBy w' row) (hr : ∀ k, row = some k → w.heap.size ≤ k) : PatsUp base w' v n svs ps := by
 refine ⟨h.own.kept hg ?_, (h.rows.kept hg (fun k e => .inl (hr k e))).mono hg.size⟩
 rcases hv : v.ownBlock with _ | k
 ·exact .inl rfl
 ·exact .inr fun e => by have := hr k e.symm; have := (h.own.lt k hv).2; omega
theorem PatsUp.listed {base n : Nat} {w w0 : World} {sa : Option Addr} {sc : Nat} {svs : List Value} {ps : List (List (List Int))} (h : PatsUp base w (.slice sa n sc) n svs ps) (hg : w0.grownBy w none) (hn : ps.length = n) : PatListed w0 ps (.returned (.slice sa n sc)) w :=
 ⟨sa, sc, svs, by rw [hn], by rw [hn]; exact RowT.of_owns h.own, h.rows, hg⟩
theorem uE {B b off sc : Nat} {w : World} {ws : List (List Int)} (h : RowT B 9 w (.slice (some ⟨b, off, none⟩) ws.length sc) (strs ws)) {i : Nat} (hi : i < ws.length) : w.cell? ⟨b, off + i, none⟩ = some (.string (strOfNums ws[i])) := by
 rcases h.row with ⟨_, _, h, _⟩ | ⟨b', off', cap', hv, _, _, _, hra⟩
 ·have h2 : ws.length = 0 := by injection h
  omega
 ·simp only [Value.slice.injEq, Option.some.injEq, Addr.mk.injEq, and_true] at hv
  obtain ⟨⟨rfl, rfl⟩, _⟩ := hv
  have := hra.map i hi
  exact this
theorem vZ {B : Nat} {w : World} {sa : Option Addr} {sc : Nat} {ws : List (List Int)} (h : RowT B 9 w (.slice sa ws.length sc) (strs ws)) (hp : 0 < ws.length) : ∃ b off, sa = some ⟨b, off, none⟩ ∧ ws.length ≤ sc ∧ sc ≤ maxLen := by
 rcases h with ⟨hn, hn2⟩ | ⟨b, off, cap, cur, m, hv, hb, hc1, hc2, hblk, hcell⟩
 ·have := congrArg List.length hn2; rw [xG] at this; simp at this; simp [this] at hp
 ·simp only [Value.slice.injEq] at hv
  obtain ⟨rfl, _, rfl⟩ := hv
  rw [xG] at hc1
  exact ⟨b, off, rfl, hc1, hc2⟩
def oneB (u : List Int) : List (List Int) := [u]
def sufB (u : List Int) : List (List Int) := [[], u]
def preB (u : List Int) : List (List Int) := [u, []]
def facB (u : List Int) : List (List Int) := [[], u, []]
theorem rD {letters k : Nat} (h : 1 ≤ letters) : 1 ≤ (upTo letters (k + 1)).length := by
 rw [yU, List.length_append, xO]
 have := Nat.one_le_pow k letters (by omega); omega
theorem qG {letters k : Nat} (h : 1 ≤ letters) (hk : 1 ≤ k) : 2 ≤ (upTo letters (k + 1)).length := by
 obtain ⟨k', rfl⟩ : ∃ k', k = k' + 1 := ⟨k - 1, by omega⟩
 rw [yU, yU, List.length_append, List.length_append, xO, xO]
 have := Nat.one_le_pow k' letters (by omega); have := Nat.one_le_pow (k' + 1) letters (by omega); omega
theorem upTo_len8 {letters n : Nat} (hn : n ≤ 9) {u : List Int} (hu : u ∈ upTo letters n) : u.length ≤ 8 := by
 simp only [upTo, List.mem_flatMap, List.mem_range] at hu
 obtain ⟨m, hm, hu⟩ := hu
 rw [(sO hu).1]; omega
theorem nU {α β : Type} (f : α → β) (l : List α) (j : Nat) (h : j < l.length) : (l.take (j + 1)).map f = (l.take j).map f ++ [f l[j]] := by
 rw [List.take_succ_eq_append_getElem h, List.map_append]; rfl
theorem make0 {P : Program} {w : World} {ops : Array Oper} {rest : List Oper} {o : Oper} {a : Act} {Q : Exit → Act → World → Prop} (hgd : o.guard = none) (l c : Operand) (t : TypeId) (ho : o.op = .makeSlice t l c)
  {e : TypeId} {z : Value} {bytes : Nat} (E : ElemOk P t e z bytes) (kl kc : IntKind) (C : Int) (n : Nat) (hl : a.eval l = .int kl 0) (hc : a.eval c = .int kc C) (hC : C = (n : Int)) (hb : bytes * n ≤ 281474976710656) (h63 : n ≤ maxLen)
  (h : ∀ w', w'.ownsRow w.heap.size e 1 (.slice (some ⟨w.heap.size, 0, none⟩) 0 n) 0 [] → w.grownBy w' none → wpList P ops Q rest (a.put o.dst (.slice (some ⟨w.heap.size, 0, none⟩) 0 n)) w') : wpList P ops Q (o :: rest) a w := by
 obtain ⟨i, hi, hz', hsz, hby⟩ := info_parts E.hi
 exact wpList_make_own w hgd l c t ho w.heap.size e i z 1 E.ht hi hz' hsz kl kc C n hl hc hC (by rw [hby]; exact hb) h63 (Nat.le_refl _) h
theorem strs_snoc (bs : List (List Int)) (u : List Int) : strs bs ++ [Value.string (strOfNums u)] = strs (bs ++ [u]) := by rw [qH]; rfl
end Go.Proofs.Ytjfdomfendbhfaa
