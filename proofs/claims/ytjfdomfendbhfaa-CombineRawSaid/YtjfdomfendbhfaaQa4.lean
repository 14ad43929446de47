/- Part 4 of the proof: CombP, DecP. -/
import Derived.Test.YtjfdomfendbhfaaQa3
set_option linter.unusedVariables false
set_option linter.unusedSimpArgs false
namespace Go.Proofs.Ytjfdomfendbhfaa
structure ChoV where
 p : Int
 y : Int
 n : Int
deriving Inhabited, DecidableEq
structure DiaV where
 pats : List (List ByteArray)
 chos : List ChoV
 root : Int
def refB (cs : List ChoV) (i : Nat) (p r : Int) : Bool := decide (0 ≤ r ∧ r ≤ 1 + (i : Int)) && decide (r < 2 ∨ p < (cs.getD (r.toNat - 2) default).p)
def choB (np : Nat) (cs : List ChoV) (i : Nat) : Bool :=
 decide (0 ≤ (cs.getD i default).p ∧ (cs.getD i default).p < np) && (refB cs i (cs.getD i default).p (cs.getD i default).y && refB cs i (cs.getD i default).p (cs.getD i default).n)
def wJ (letters : Int) : List (List ByteArray) → Int
 | [] => 0
 | p :: ps => if patW p letters = 0 then wJ letters ps else patW p letters
def kD (np : Nat) (cs : List ChoV) (root : Int) : Int := if (List.range cs.length).all (choB np cs) = true ∧ 0 ≤ root ∧ root ≤ 1 + (cs.length : Int) then 0 else 22
def diaE (g : DiaV) (letters : Int) : Int :=
 if letters < 1 ∨ 6 < letters then 1 else if 300 < g.pats.length ∨ 20000 < g.chos.length then 3
 else if wJ letters g.pats = 0 then kD g.pats.length g.chos g.root else wJ letters g.pats
theorem oI {letters : Int} {ps : List (List ByteArray)} {k : Nat} (hk : k < ps.length) (h : patW (ps.getD k []) letters = 0) : wJ letters (ps.drop (k + 1)) = wJ letters (ps.drop k) := by
 rw [List.drop_eq_getElem_cons hk, wJ, if_pos (by rw [zF hk] at h; exact h)]
theorem patsE_bad {letters : Int} {ps : List (List ByteArray)} {k : Nat} (hk : k < ps.length) (h : patW (ps.getD k []) letters ≠ 0) : wJ letters (ps.drop k) = patW (ps.getD k []) letters := by
 rw [List.drop_eq_getElem_cons hk, wJ, if_neg (by rw [zF hk] at h; exact h), zF hk]
theorem mV {letters : Int} {ps : List (List ByteArray)} {k : Nat} (hk : ¬ k < ps.length) : wJ letters (ps.drop k) = 0 := by
 rw [List.drop_eq_nil_of_le (by omega)]; rfl
theorem wQ {letters : Int} : ∀ {ps : List (List ByteArray)}, wJ letters ps = 0 ↔ ∀ p ∈ ps, patW p letters = 0
 | [] => by simp [wJ]
 | p :: ps => by
  rw [wJ]
  split
  ·rename_i h; rw [wQ]; simp [h]
  ·rename_i h; simp [h]
def xH (np : Nat) (cs : List ChoV) (k : Nat) : Prop := ∀ i, i < k → choB np cs i = true
theorem kB (np : Nat) (cs : List ChoV) : xH np cs 0 := fun i hi => by omega
theorem pF {np : Nat} {cs : List ChoV} {k : Nat} (h : xH np cs k) (hk : choB np cs k = true) : xH np cs (k + 1) := fun i hi => by
 rcases Nat.lt_succ_iff_lt_or_eq.1 hi with hi | rfl
 ·exact h i hi
 ·exact hk
theorem vG {np : Nat} {cs : List ChoV} {root : Int} {k : Nat} (hk : k < cs.length) (h : choB np cs k = false) : kD np cs root = 22 := by
 unfold kD
 rw [if_neg]
 rintro ⟨h1, _⟩
 rw [List.all_eq_true] at h1
 have := h1 k (List.mem_range.2 hk)
 rw [h] at this
 cases this
theorem kC {np : Nat} {cs : List ChoV} {root : Int} {k : Nat} (hk : ¬ k < cs.length) (h : xH np cs k) : kD np cs root = if 0 ≤ root ∧ root ≤ 1 + (cs.length : Int) then 0 else 22 := by
 unfold kD
 have : (List.range cs.length).all (choB np cs) = true := List.all_eq_true.2 fun i hi => h i (by have := List.mem_range.1 hi; omega)
 rw [this]; simp
theorem chosE_zero {np : Nat} {cs : List ChoV} {root : Int} (h : kD np cs root = 0) : xH np cs cs.length ∧ 0 ≤ root ∧ root ≤ 1 + (cs.length : Int) := by
 unfold kD at h
 split at h
 ·rename_i h1
  exact ⟨fun i hi => List.all_eq_true.1 h1.1 i (List.mem_range.2 hi), h1.2⟩
 ·omega
theorem chosE_of {np : Nat} {cs : List ChoV} {root : Int} (h : xH np cs cs.length) (h1 : 0 ≤ root) (h2 : root ≤ 1 + (cs.length : Int)) : kD np cs root = 0 := by
 rw [kC (Nat.lt_irrefl _) h, if_pos ⟨h1, h2⟩]
theorem lV {g : DiaV} {letters : Int} (h : diaE g letters = 0) : 1 ≤ letters ∧ letters ≤ 6 ∧ g.pats.length ≤ 300 ∧ g.chos.length ≤ 20000 ∧ (∀ p ∈ g.pats, patW p letters = 0) ∧ xH g.pats.length g.chos g.chos.length ∧ 0 ≤ g.root ∧ g.root ≤ 1 + (g.chos.length : Int) := by
 unfold diaE at h
 split at h
 ·omega
 split at h
 ·omega
 split at h
 ·rename_i h3
  obtain ⟨h4, h5, h6⟩ := chosE_zero h
  exact ⟨by omega, by omega, by omega, by omega, wQ.1 h3, h4, h5, h6⟩
 ·omega
theorem diaE_of {g : DiaV} {letters : Int} (h1 : 1 ≤ letters) (h2 : letters ≤ 6) (h3 : g.pats.length ≤ 300) (h4 : g.chos.length ≤ 20000) (h5 : ∀ p ∈ g.pats, patW p letters = 0) (h6 : xH g.pats.length g.chos g.chos.length) (h7 : 0 ≤ g.root) (h8 : g.root ≤ 1 + (g.chos.length : Int)) : diaE g letters = 0 := by
 unfold diaE
 rw [if_neg (by omega), if_neg (by omega), if_pos (wQ.2 h5), chosE_of h6 h7 h8]
theorem diaE_arg {g : DiaV} {letters : Int} (h : letters < 1 ∨ 6 < letters) : diaE g letters = 1 := if_pos h
theorem nZ {g : DiaV} {letters : Int} (h : ¬ (letters < 1 ∨ 6 < letters)) (h2 : 300 < g.pats.length ∨ 20000 < g.chos.length) : diaE g letters = 3 := by
 unfold diaE; rw [if_neg h, if_pos h2]
theorem diaE_pat {g : DiaV} {letters : Int} (h : ¬ (letters < 1 ∨ 6 < letters)) (h2 : ¬ (300 < g.pats.length ∨ 20000 < g.chos.length)) {k : Nat} (hk : k < g.pats.length) (h3 : wJ letters (g.pats.drop k) = wJ letters g.pats) (h4 : patW (g.pats.getD k []) letters ≠ 0) : diaE g letters = patW (g.pats.getD k []) letters := by
 have e := patsE_bad hk h4
 rw [h3] at e
 unfold diaE; rw [if_neg h, if_neg h2, if_neg (by rw [e]; exact h4), e]
theorem diaE_cho {g : DiaV} {letters : Int} (h : ¬ (letters < 1 ∨ 6 < letters)) (h2 : ¬ (300 < g.pats.length ∨ 20000 < g.chos.length)) (h3 : wJ letters g.pats = 0) : diaE g letters = kD g.pats.length g.chos g.root := by
 unfold diaE; rw [if_neg h, if_neg h2, if_pos h3]
def decF (cs : List ChoV) (m : Nat → Bool) : Nat → Int → Bool
 | 0, r => decide (r = 1)
 | f + 1, r => if r < 2 then decide (r = 1) else decF cs m f (if m (cs.getD (r.toNat - 2) default).p.toNat then (cs.getD (r.toNat - 2) default).y else (cs.getD (r.toNat - 2) default).n)
def decG (cs : List ChoV) (m : Nat → Bool) (r : Int) : Bool := decF cs m r.toNat r
theorem uZ {np : Nat} {cs : List ChoV} {i : Nat} (h : choB np cs i = true) : 0 ≤ (cs.getD i default).p ∧ (cs.getD i default).p < np ∧ 0 ≤ (cs.getD i default).y ∧ (cs.getD i default).y ≤ 1 + (i : Int) ∧ 0 ≤ (cs.getD i default).n ∧ (cs.getD i default).n ≤ 1 + (i : Int) := by
 simp only [choB, refB, Bool.and_eq_true, decide_eq_true_eq] at h
 omega
theorem lX {np : Nat} {cs : List ChoV} {m : Nat → Bool} (h : xH np cs cs.length) : ∀ (f : Nat) (r : Int) (e : Nat), r.toNat ≤ f → r ≤ 1 + (cs.length : Int) → decF cs m (f + e) r = decF cs m f r
 | 0, r, e, hf, _ => by
  cases e with
  | zero => rfl
  | succ e => rw [Nat.zero_add, decF, decF, if_pos (by omega)]
 | f + 1, r, e, hf, hr => by
  rw [show f + 1 + e = (f + e) + 1 by omega, decF, decF]
  split
  ·rfl
  ·rename_i h2
   have hi : r.toNat - 2 < cs.length := by omega
   have hc := uZ (h _ hi)
   split
   ·exact lX h f _ e (by omega) (by omega)
   ·exact lX h f _ e (by omega) (by omega)
theorem decG_low (cs : List ChoV) (m : Nat → Bool) {r : Int} (h : r < 2) : decG cs m r = decide (r = 1) := by
 unfold decG
 cases r.toNat with
 | zero => rfl
 | succ f => rw [decF, if_pos h]
theorem pZ {np : Nat} {cs : List ChoV} {m : Nat → Bool} (h : xH np cs cs.length) {r : Int} (h2 : 2 ≤ r) (hr : r ≤ 1 + (cs.length : Int)) : decG cs m r = decG cs m (if m (cs.getD (r.toNat - 2) default).p.toNat then (cs.getD (r.toNat - 2) default).y else (cs.getD (r.toNat - 2) default).n) := by
 have hc := uZ (h (r.toNat - 2) (by omega))
 have hx : ∀ x : Int, x.toNat ≤ r.toNat - 1 → x ≤ 1 + (cs.length : Int) → decF cs m (r.toNat - 1) x = decG cs m x := fun x h1 h3 => by
  have := lX (m := m) h x.toNat x (r.toNat - 1 - x.toNat) (Nat.le_refl _) h3
  rw [show x.toNat + (r.toNat - 1 - x.toNat) = r.toNat - 1 by omega] at this
  exact this
 have e : decG cs m r = decF cs m (r.toNat - 1) (if m (cs.getD (r.toNat - 2) default).p.toNat then (cs.getD (r.toNat - 2) default).y else (cs.getD (r.toNat - 2) default).n) := by
  have hf : r.toNat = (r.toNat - 1) + 1 := by omega
  show decF cs m r.toNat r = _
  conv => lhs; rw [hf]
  rw [decF, if_neg (by omega)]
 rw [e]
 refine hx _ ?_ ?_ <;> split <;> omega
end Go.Proofs.Ytjfdomfendbhfaa
namespace Go.Proofs.Ytjfdomfendbhfaa
theorem sV {α : Type} {l m : List α} {x : α} (h : l <+: m) {i : Nat} (hi : i < l.length) : m.getD i x = l.getD i x := by
 obtain ⟨r, rfl⟩ := h
 simp [List.getD, List.getElem?_append_left hi]
theorem choB_pre {np : Nat} {cs cs' : List ChoV} (h : cs <+: cs') {i : Nat} (hi : i < cs.length) : choB np cs' i = choB np cs i := by
 have e : ∀ p r, refB cs' i p r = refB cs i p r := fun p r => by
  unfold refB
  by_cases h1 : 0 ≤ r ∧ r ≤ 1 + (i : Int)
  ·by_cases h2 : r < 2
   ·simp [h2]
   ·rw [sV h (show r.toNat - 2 < cs.length by omega)]
  ·simp [h1]
 unfold choB
 rw [sV h hi, e, e]
theorem chosTo_pre {np k : Nat} {cs cs' : List ChoV} (h : cs <+: cs') (hk : k ≤ cs.length) : xH np cs' k ↔ xH np cs k :=
 ⟨fun hc i hi => by rw [← choB_pre h (by omega)]; exact hc i hi, fun hc i hi => by rw [choB_pre h (by omega)]; exact hc i hi⟩
theorem decF_pre {np : Nat} {cs cs' : List ChoV} {m : Nat → Bool} (h : cs <+: cs') (hc : xH np cs cs.length) : ∀ (f : Nat) (r : Int), r ≤ 1 + (cs.length : Int) → decF cs' m f r = decF cs m f r
 | 0, r, _ => rfl
 | f + 1, r, hr => by
  rw [decF, decF]
  split
  ·rfl
  ·rename_i h2
   have hi : r.toNat - 2 < cs.length := by omega
   rw [sV h hi]
   have hf := uZ (hc _ hi)
   split
   ·exact decF_pre h hc f _ (by omega)
   ·exact decF_pre h hc f _ (by omega)
theorem decG_pre {np : Nat} {cs cs' : List ChoV} {m : Nat → Bool} (h : cs <+: cs') (hc : xH np cs cs.length) {r : Int} (hr : r ≤ 1 + (cs.length : Int)) : decG cs' m r = decG cs m r := decF_pre h hc _ r hr
structure ClaV where
 m : List Bool
 yes : Int
 no : Int
deriving Inhabited
def ClaV.b (c : ClaV) : Bool := decide (0 ≤ c.yes)
def rU (l : List ClaV) (p : Nat) : Prop := ∀ c ∈ l, ∀ c' ∈ l, ∀ q, q < p → c.m.getD q false = c'.m.getD q false
structure ClsOk (np : Nat) (l : List ClaV) : Prop where
 len : ∀ c ∈ l, c.m.length = np
 nd : (l.map ClaV.m).Nodup
def yesL (l : List ClaV) (p : Nat) : List ClaV := l.filter fun c => c.m.getD p false
def noL (l : List ClaV) (p : Nat) : List ClaV := l.filter fun c => !c.m.getD p false
theorem yn_len (l : List ClaV) (p : Nat) : (yesL l p).length + (noL l p).length = l.length := by
 induction l with
 | nil => rfl
 | cons c l ih =>
  unfold yesL noL at ih ⊢
  rw [List.filter_cons, List.filter_cons]
  generalize c.m.getD p false = b
  cases b
  ·rw [if_neg (by decide), if_pos (by decide), List.length_cons, List.length_cons]; omega
  ·rw [if_pos (by decide), if_neg (by decide), List.length_cons, List.length_cons]; omega
theorem ClsOk.sub {np : Nat} {l l' : List ClaV} (h : ClsOk np l) (hs : l'.Sublist l) : ClsOk np l' :=
 ⟨fun c hc => h.len c (hs.mem hc), h.nd.sublist (hs.map _)⟩
theorem rU.sub {l l' : List ClaV} {p : Nat} (h : rU l p) (hs : l'.Sublist l) : rU l' p := fun c hc c' hc' => h c (hs.mem hc) c' (hs.mem hc')
theorem rU.yes {l : List ClaV} {p : Nat} (h : rU l p) : rU (yesL l p) (p + 1) := fun c hc c' hc' q hq => by
 have h1 := List.mem_filter.1 hc
 have h2 := List.mem_filter.1 hc'
 rcases Nat.lt_succ_iff_lt_or_eq.1 hq with hq | rfl
 ·exact h c h1.1 c' h2.1 q hq
 ·rw [h1.2, h2.2]
theorem rU.no {l : List ClaV} {p : Nat} (h : rU l p) : rU (noL l p) (p + 1) := fun c hc c' hc' q hq => by
 have h1 := List.mem_filter.1 hc
 have h2 := List.mem_filter.1 hc'
 rcases Nat.lt_succ_iff_lt_or_eq.1 hq with hq | rfl
 ·exact h c h1.1 c' h2.1 q hq
 ·have e1 := h1.2; have e2 := h2.2
  simp only [Bool.not_eq_true'] at e1 e2
  rw [e1, e2]
theorem rU.skip {l : List ClaV} {p : Nat} (h : rU l p) (he : (yesL l p).length = 0 ∨ (noL l p).length = 0) : rU l (p + 1) := fun c hc c' hc' q hq => by
 rcases Nat.lt_succ_iff_lt_or_eq.1 hq with hq | rfl
 ·exact h c hc c' hc' q hq
 ·rcases he with he | he
  ·have h0 := List.eq_nil_of_length_eq_zero he
   have key : ∀ c ∈ l, c.m.getD q false = false := fun c hc => by
    by_cases h1 : c.m.getD q false = true
    ·have : c ∈ yesL l q := List.mem_filter.2 ⟨hc, h1⟩
     rw [h0] at this; cases this
    ·simpa using h1
   rw [key c hc, key c' hc']
  ·have h0 := List.eq_nil_of_length_eq_zero he
   have key : ∀ c ∈ l, c.m.getD q false = true := fun c hc => by
    by_cases h1 : c.m.getD q false = true
    ·exact h1
    ·have : c ∈ noL l q := List.mem_filter.2 ⟨hc, by simpa using h1⟩
     rw [h0] at this; cases this
   rw [key c hc, key c' hc']
theorem rU.one {np : Nat} {l : List ClaV} (h : rU l np) (hl : ClsOk np l) : l.length ≤ 1 := by
 match l, h, hl with
 | [], _, _ => simp
 | [c], _, _ => simp
 | c :: c' :: r, h, hl =>
  exfalso
  have e : c.m = c'.m := by
   refine List.ext_getElem (by rw [hl.len c (by simp), hl.len c' (by simp)]) fun i h1 h2 => ?_
   have := h c (by simp) c' (by simp) i (by rw [← hl.len c (by simp)]; exact h1)
   rwa [zF h1, zF h2] at this
  have := hl.nd
  simp [e] at this
def uX (l : List ClaV) : Bool := l.all fun c => c.b == (l.headD default).b
def oV (b : Bool) : Int := if b then 1 else 0
theorem const_of_one {l : List ClaV} (h : l.length ≤ 1) : uX l = true := by
 match l, h with
 | [], _ => rfl
 | [c], _ => simp [uX]
structure DecOk (np : Nat) (cs cs' : List ChoV) (l : List ClaV) (p : Nat) (r : Int) : Prop where
 pre : cs <+: cs'
 ok : xH np cs' cs'.length
 nd : cs'.Nodup
 lo : 0 ≤ r
 hi : r ≤ 1 + (cs'.length : Int)
 pat : 2 ≤ r → (p : Int) ≤ (cs'.getD (r.toNat - 2) default).p
 dec : ∀ c ∈ l, decG cs' (fun i => c.m.getD i false) r = c.b
 few : cs'.length + 1 ≤ cs.length + l.length
theorem DecOk.const {np : Nat} {cs : List ChoV} {l : List ClaV} {p : Nat} (hc : xH np cs cs.length) (hn : cs.Nodup) (h0 : 0 < l.length) {b : Bool} (h : ∀ c ∈ l, c.b = b) : DecOk np cs cs l p (oV b) := by
 have hb : oV b = 0 ∨ oV b = 1 := by cases b <;> simp [oV]
 refine ⟨List.prefix_refl _, hc, hn, by omega, by omega, fun h2 => by omega, fun c hc => ?_, by omega⟩
 rw [decG_low _ _ (by omega), h c hc]
 cases b <;> rfl
theorem oR {np : Nat} {cs cs' : List ChoV} {l : List ClaV} {p q : Nat} {r : Int} (h : DecOk np cs cs' l p r) (hq : q ≤ p) : DecOk np cs cs' l q r :=
 ⟨h.pre, h.ok, h.nd, h.lo, h.hi, fun h2 => by have := h.pat h2; omega, h.dec, h.few⟩
section
variable {np : Nat} {cs c1 c2 : List ChoV} {l : List ClaV} {p : Nat} {rn ry : Int}
theorem lW (hn : DecOk np cs c1 (noL l p) (p + 1) rn) (hy : DecOk np c1 c2 (yesL l p) (p + 1) ry) : ∀ c ∈ l, decG c2 (fun i => c.m.getD i false) (if c.m.getD p false then ry else rn) = c.b := fun c hc => by
 by_cases h : c.m.getD p false = true
 ·rw [if_pos h]; exact hy.dec c (List.mem_filter.2 ⟨hc, h⟩)
 ·rw [if_neg h, decG_pre hy.pre hn.ok hn.hi]
  exact hn.dec c (List.mem_filter.2 ⟨hc, by simpa using h⟩)
theorem DecOk.same (hn : DecOk np cs c1 (noL l p) (p + 1) rn) (hy : DecOk np c1 c2 (yesL l p) (p + 1) ry) (e : ry = rn) : DecOk np cs c2 l p ry := by
 have h1 := hn.few; have h2 := hy.few
 have h3 := yn_len l p
 refine ⟨hn.pre.trans hy.pre, hy.ok, hy.nd, hy.lo, hy.hi, fun h => by have := hy.pat h; omega, fun c hc => ?_, by omega⟩
 have := lW hn hy c hc
 rwa [← e, ite_self] at this
theorem cho_ok (hp : p < np) (hn : DecOk np cs c1 (noL l p) (p + 1) rn) (hy : DecOk np c1 c2 (yesL l p) (p + 1) ry) : refB c2 c2.length (p : Int) ry = true ∧ refB c2 c2.length (p : Int) rn = true := by
 have hl := hy.pre.length_le
 have h1 := hn.hi; have h2 := hy.hi; have h3 := hn.lo; have h4 := hy.lo
 constructor
 ·simp only [refB, Bool.and_eq_true, decide_eq_true_eq]
  refine ⟨by omega, ?_⟩
  rcases Int.lt_or_le ry 2 with h | h
  ·exact .inl h
  ·have := hy.pat h; exact .inr (by omega)
 ·simp only [refB, Bool.and_eq_true, decide_eq_true_eq]
  refine ⟨by omega, ?_⟩
  rcases Int.lt_or_le rn 2 with h | h
  ·exact .inl h
  ·have h5 := hn.pat h
   rw [sV hy.pre (by omega)]
   exact .inr (by omega)
theorem DecOk.old (hp : p < np) (hn : DecOk np cs c1 (noL l p) (p + 1) rn) (hy : DecOk np c1 c2 (yesL l p) (p + 1) ry) {i : Nat} (hi : i < c2.length) (e : c2.getD i default = ⟨p, ry, rn⟩) : DecOk np cs c2 l p (2 + (i : Int)) := by
 have h1 := hn.few; have h2 := hy.few
 have h3 := yn_len l p
 have e0 : (2 + (i : Int)).toNat - 2 = i := by omega
 refine ⟨hn.pre.trans hy.pre, hy.ok, hy.nd, by omega, by omega, fun h => by rw [e0, e]; exact Int.le_refl _, fun c hc => ?_, by omega⟩
 have := lW hn hy c hc
 rw [pZ hy.ok (by omega) (by omega), e0, e]
 exact this
theorem DecOk.new (hp : p < np) (hn : DecOk np cs c1 (noL l p) (p + 1) rn) (hy : DecOk np c1 c2 (yesL l p) (p + 1) ry) (hm : (⟨p, ry, rn⟩ : ChoV) ∉ c2) (hY : 0 < (yesL l p).length) (hN : 0 < (noL l p).length) : DecOk np cs (c2 ++ [⟨p, ry, rn⟩]) l p (2 + (c2.length : Int)) := by
 have h1 := hn.few; have h2 := hy.few
 have h3 := yn_len l p
 have hpre : c2 <+: c2 ++ [⟨p, ry, rn⟩] := List.prefix_append _ _
 have e0 : (2 + (c2.length : Int)).toNat - 2 = c2.length := by omega
 have e1 : (c2 ++ [(⟨p, ry, rn⟩ : ChoV)]).getD c2.length default = ⟨p, ry, rn⟩ := by rw [List.getD_eq_getElem?_getD]; simp
 have hok : xH np (c2 ++ [⟨p, ry, rn⟩]) (c2 ++ [(⟨p, ry, rn⟩ : ChoV)]).length := by
  rw [List.length_append, List.length_singleton]
  refine pF ((chosTo_pre hpre (Nat.le_refl _)).2 hy.ok) ?_
  obtain ⟨h4, h5⟩ := cho_ok hp hn hy
  have e2 : ∀ r, refB c2 c2.length (p : Int) r = true → refB (c2 ++ [(⟨p, ry, rn⟩ : ChoV)]) c2.length (p : Int) r = true := fun r h => by
   simp only [refB, Bool.and_eq_true, decide_eq_true_eq] at h ⊢
   refine ⟨h.1, ?_⟩
   rcases Int.lt_or_le r 2 with h6 | h6
   ·exact .inl h6
   ·rcases h.2 with h7 | h7
    ·omega
    ·rw [sV hpre (by omega)]; exact .inr h7
  unfold choB
  rw [e1]
  simp only [Bool.and_eq_true, decide_eq_true_eq]
  exact ⟨by omega, e2 _ h4, e2 _ h5⟩
 refine ⟨(hn.pre.trans hy.pre).trans hpre, hok, ?_, by omega, by simp; omega, fun h => by rw [e0, e1]; exact Int.le_refl _, fun c hc => ?_, by simp; omega⟩
 ·rw [List.nodup_append]
  exact ⟨hy.nd, by simp, fun a ha b hb e => by simp at hb; subst hb; subst e; exact hm ha⟩
 ·have h6 := lW hn hy c hc
  rw [pZ hok (by omega) (by simp; omega), e0, e1]
  show decG _ _ (if c.m.getD (p : Int).toNat false then ry else rn) = _
  rw [Int.toNat_natCast]
  have hr : (if c.m.getD p false then ry else rn) ≤ 1 + (c2.length : Int) := by
   have := hy.hi; have := hn.hi; have := hy.pre.length_le
   split <;> omega
  rw [decG_pre hpre hy.ok hr]; exact h6
end
end Go.Proofs.Ytjfdomfendbhfaa
