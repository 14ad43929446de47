/- Part 44 of the proof: Aper, StillG, Law40Ap1, Law40Ap2, Laid40. -/
import Derived.Test.YtdjhoadoiknaoaaDoorZq43
import Derived.LaidMore
import Derived.Lib.LaidTab
import Derived.Stop.Joined
set_option linter.unusedVariables false
set_option linter.unusedSimpArgs false
namespace Go.Proofs.YtdjhoadoiknaoaaDoor
theorem roundsGo_all {n : Nat} {tb : Nat → Nat → Nat} {P : Nat → Prop} (ht : Tb n tb) (h2 : ∀ a, P a → a < 2 ^ n) (hp : ∀ a b, P a → P b → P (zV n tb a b)) (ho : ∀ a, P a → P (xG n tb a)) : ∀ (k : Nat) (l : List Nat) (d : Bool), (∀ s ∈ l, P s) → ∀ s ∈ (yY n tb k (l, d)).1, P s
 | 0, l, d, h => h
 | k + 1, l, true, h => by rw [wT]; exact h
 | k + 1, l, false, h => by
  rw [vY]
  refine roundsGo_all ht h2 hp ho k _ _ fun s hs => ?_
  have hs := maxOf_sub (vV ht fun b hb => h2 b (h b hb)) hs
  rcases wU.1 hs with h1 | ⟨a, ha, ⟨b, hb, rfl⟩ | rfl⟩
  ·exact h s h1
  ·exact hp _ _ (h a ha) (h b hb)
  ·exact ho _ (h a ha)
def pw (tb : Nat → Nat → Nat) (x : Nat) : Nat → Nat
 | 0 => x
 | k + 1 => tb (pw tb x k) x
theorem two_pow_inj {a b : Nat} (h : 2 ^ a = 2 ^ b) : a = b := by
 have h1 : (2 ^ a).testBit b = true := by rw [h, xD]; simp
 rw [xD, decide_eq_true_eq] at h1
 exact h1
section
variable {n : Nat} {tb : Nat → Nat → Nat}
theorem pw_lt (ht : Tb n tb) {x : Nat} (hx : x < n) : ∀ k, pw tb x k < n
 | 0 => hx
 | k + 1 => ht.lt _ _ (pw_lt ht hx k) hx
theorem powSet_single (ht : Tb n tb) {x : Nat} (hx : x < n) : ∀ k, yM n tb (2 ^ x) k = 2 ^ pw tb x k
 | 0 => rfl
 | k + 1 => by rw [yM, powSet_single ht hx k, tU ht (pw_lt ht hx k) hx]; rfl
theorem omega_single (ht : Tb n tb) {x : Nat} (hx : x < n) : ∃ m, tb (pw tb x m) (pw tb x m) = pw tb x m ∧ xG n tb (2 ^ x) = 2 ^ pw tb x m ||| 2 ^ tb (pw tb x m) x := by
 obtain ⟨m, h1, h2⟩ := omegaSet_is ht (Nat.pow_lt_pow_right (a := 2) (by omega) hx)
 have hp := pw_lt ht hx m
 rw [powSet_single ht hx, tU ht hp hp] at h1
 rw [powSet_single ht hx, tU ht hp hx] at h2
 exact ⟨m, two_pow_inj h1, h2⟩
end
section
variable {t : List (List Int)} {im : List Int}
theorem uc_sub {a b : Nat} (h : a &&& b = a) (hb : UC t im b) : UC t im a := by
 obtain ⟨c, hc, e⟩ := yI.1 hb
 exact yI.2 ⟨c, hc, sub_trans h e⟩
theorem close_sorted (hg : Good t im) : (uD t im).Pairwise (· < ·) := by
 have h := (closeFrom_inv (tb_of hg.valid) (start_ok hg)).2.2.2
 unfold uD; rw [← h]; exact maxOf_sorted _ _
theorem aper_close (hg : Good t im) (hgen : ∀ x, x < t.length → UC t im (2 ^ x)) (hA : ∀ x m, x < t.length → entN t (pw (entN t) x m) (pw (entN t) x m) = pw (entN t) x m → entN t (pw (entN t) x m) x = pw (entN t) x m) : uD t im = (List.range t.length).map (2 ^ ·) := by
 have ht := tb_of hg.valid
 have hall : ∀ s ∈ uD t im, ∃ x, x < t.length ∧ s = 2 ^ x := by
  refine roundsGo_all (P := fun s => ∃ x, x < t.length ∧ s = 2 ^ x) ht ?_ ?_ ?_ _ _ _ ?_
  ·rintro a ⟨x, hx, rfl⟩; exact Nat.pow_lt_pow_right (by omega) hx
  ·rintro a b ⟨x, hx, rfl⟩ ⟨y, hy, rfl⟩; exact ⟨_, ht.lt x y hx hy, tU ht hx hy⟩
  ·rintro a ⟨x, hx, rfl⟩
   obtain ⟨m, h1, h2⟩ := omega_single ht hx
   rw [hA x m hx h1, Nat.or_self] at h2
   exact ⟨_, pw_lt ht hx m, h2⟩
  ·intro s hs
   have hs := maxOf_sub (genL_lt hg) hs
   rcases List.mem_cons.1 hs with rfl | hs
   ·exact ⟨_, (oneN_lt hg).1, rfl⟩
   ·obtain ⟨y, hy, rfl⟩ := List.mem_map.1 hs
    obtain ⟨i, hi, rfl⟩ := List.getElem_of_mem hy
    have h1 := inB_iff.1 hg.inb i hi
    rw [zN hi] at h1
    exact ⟨_, by omega, rfl⟩
 refine sorted_ext (close_sorted hg) ?_ fun s => ?_
 ·rw [List.pairwise_map]; exact List.pairwise_lt_range.imp fun h => Nat.pow_lt_pow_right (by omega) h
 ·constructor
  ·intro hs
   obtain ⟨x, hx, rfl⟩ := hall s hs
   exact List.mem_map.2 ⟨x, List.mem_range.2 hx, rfl⟩
  ·intro hs
   obtain ⟨x, hx, rfl⟩ := List.mem_map.1 hs
   obtain ⟨b, hb, e⟩ := yI.1 (hgen x (List.mem_range.1 hx))
   obtain ⟨y, hy, rfl⟩ := hall b hb
   have := vS.1 e x (by rw [xD]; simp)
   rw [xD, decide_eq_true_eq] at this
   subst this; exact hb
theorem bits_low {j z : Nat} : (2 ^ j - 1).testBit z = decide (z < j) := by rw [Nat.testBit_two_pow_sub_one]
theorem group_close (hg : Good t im) (hgen : ∀ x, x < t.length → UC t im (2 ^ x)) (hG : ∀ y, y < t.length → entN t y y = y → y = oneN t) : uD t im = [2 ^ t.length - 1] := by
 have ht := tb_of hg.valid
 obtain ⟨ho, hoe⟩ := oneN_lt hg
 have hone : ∀ x, x < t.length → entN t (oneN t) x = x ∧ entN t x (oneN t) = x := by
  intro x hx
  obtain ⟨e, he, hel, hid⟩ := hg.ident
  have e1 : e = oneN t := by omega
  subst e1
  have := List.all_eq_true.1 hid x (List.mem_range.2 hx)
  simpa [idAt] using this
 have hpair : ∀ x, x < t.length → UC t im (2 ^ oneN t ||| 2 ^ x) := by
  intro x hx
  obtain ⟨m, h1, h2⟩ := omega_single ht hx
  have h3 := hG _ (pw_lt ht hx m) h1
  rw [h3, (hone x hx).1] at h2
  rw [← h2]; exact uc_omega hg (hgen x hx)
 have hup : ∀ j, j ≤ t.length → UC t im (2 ^ oneN t ||| (2 ^ j - 1)) := by
  intro j
  induction j with
  | zero => intro _; rw [show 2 ^ 0 - 1 = 0 from rfl, Nat.or_zero]; exact hgen _ ho
  | succ j ih =>
   intro hj
   refine uc_sub ?_ (uc_prod hg (ih (by omega)) (hpair j (by omega)))
   refine vS.2 fun z hz => (yO _ _ _ _ _).2 ?_
   rw [Nat.testBit_or, xD, bits_low, Bool.or_eq_true, decide_eq_true_eq, decide_eq_true_eq] at hz
   rcases hz with rfl | hz
   ·exact ⟨_, _, ho, ho, by rw [Nat.testBit_or, xD]; simp, by rw [Nat.testBit_or, xD]; simp, (hone _ ho).1⟩
   ·rcases Nat.lt_or_ge z j with h1 | h1
    ·exact ⟨z, _, by omega, ho, by rw [Nat.testBit_or, bits_low]; simp [h1], by rw [Nat.testBit_or, xD]; simp, (hone z (by omega)).2⟩
    ·obtain rfl : z = j := by omega
     exact ⟨_, z, ho, by omega, by rw [Nat.testBit_or, xD]; simp, by rw [Nat.testBit_or, xD, xD]; simp, (hone z (by omega)).1⟩
 have hfull : UC t im (2 ^ t.length - 1) := uc_sub (vS.2 fun z hz => by rw [Nat.testBit_or, hz, Bool.or_true]) (hup _ (Nat.le_refl _))
 have hinv := closeFrom_inv ht (start_ok hg)
 have hlt : ∀ b ∈ uD t im, b < 2 ^ t.length := hinv.2.2.1
 have hmem : 2 ^ t.length - 1 ∈ uD t im := by
  obtain ⟨b, hb, e⟩ := yI.1 hfull
  have h1 := hlt b hb
  have h2 := sub_le e
  obtain rfl : b = 2 ^ t.length - 1 := by omega
  exact hb
 refine sorted_ext (close_sorted hg) (by simp) fun s => ?_
 rw [List.mem_singleton]
 constructor
 ·intro hs
  have h1 : s ∈ maxOf t.length (uD t im) := by
   have e : maxOf t.length (uD t im) = uD t im := hinv.2.2.2
   rw [e]; exact hs
  rcases ((mem_maxOf hlt).1 h1).2 _ hmem with h2 | h2
  ·exact h2
  ·exact absurd (vS.2 fun z hz => by
    rw [bits_low, decide_eq_true_eq]
    rcases Nat.lt_or_ge z t.length with h3 | h3
    ·exact h3
    ·rw [bits_of_lt (hlt s hs) h3] at hz; cases hz) h2
 ·rintro rfl; exact hmem
end
def itr {α : Type} (f : α → α) : Nat → α → α
 | 0, x => x
 | k + 1, x => f (itr f k x)
theorem itr_add {α : Type} (f : α → α) (i : Nat) (x : α) : ∀ j, itr f (i + j) x = itr f j (itr f i x)
 | 0 => rfl
 | j + 1 => by rw [← Nat.add_assoc, itr, itr_add f i x j]; rfl
theorem itr_mul {α : Type} (f : α → α) {k : Nat} {z : α} (h : itr f k z = z) : ∀ j, itr f (k * j) z = z
 | 0 => rfl
 | j + 1 => by rw [Nat.mul_succ, itr_add, itr_mul f h j, h]
theorem itr_lt {f : Nat → Nat} {n : Nat} (h : ∀ q, q < n → f q < n) {q : Nat} (hq : q < n) : ∀ i, itr f i q < n
 | 0 => hq
 | i + 1 => h _ (itr_lt h hq i)
theorem itr_stop {f : Nat → Nat} {n : Nat} (h : ∀ q, q < n → f q < n ∧ q ≤ f q) {q : Nat} (hq : q < n) {i : Nat} (hi : n ≤ i) : f (itr f i q) = itr f i q := by
 have key : ∀ i, f (itr f i q) = itr f i q ∨ i ≤ itr f i q := by
  intro i
  induction i with
  | zero => exact .inr (Nat.zero_le _)
  | succ i ih =>
   have h1 := h _ (itr_lt (fun q hq => (h q hq).1) hq i)
   rcases ih with ih | ih
   ·left; show f (f (itr f i q)) = f (itr f i q); rw [ih]; exact ih
   ·by_cases e : f (itr f i q) = itr f i q
    ·left; show f (f (itr f i q)) = f (itr f i q); rw [e]; exact e
    ·right; show i + 1 ≤ f (itr f i q); omega
 rcases key i with h1 | h1
 ·exact h1
 ·have := itr_lt (fun q hq => (h q hq).1) hq i; omega
theorem itr_back {f : Nat → Nat} {n : Nat} (h : ∀ q, q < n → f q < n) (hi : ∀ q q', q < n → q' < n → f q = f q' → q = q') {q : Nat} (hq : q < n) : ∃ j, 0 < j ∧ itr f j q = q := by
 obtain ⟨i, j, hij, _, e⟩ := pigeon n (fun i => itr f i q) (fun i _ => itr_lt h hq i)
 have back : ∀ (i : Nat) (x y : Nat), x < n → y < n → itr f i x = itr f i y → x = y := by
  intro i
  induction i with
  | zero => intro x y _ _ e; exact e
  | succ i ih => intro x y hx hy e; exact ih x y hx hy (hi _ _ (itr_lt h hx i) (itr_lt h hy i) e)
 refine ⟨j - i, by omega, ?_⟩
 have e2 : itr f j q = itr f i (itr f (j - i) q) := by rw [← itr_add]; congr 1; omega
 exact (back i _ _ hq (itr_lt h hq _) (e.trans e2)).symm
def repW (u : List Nat) (i : Nat) : List Nat := (List.replicate i u).flatten
theorem repW_ok {k : Nat} {u : List Nat} (h : uH k u) (i : Nat) : uH k (repW u i) := fun a ha => by
 obtain ⟨l, hl, h1⟩ := List.mem_flatten.1 ha
 rw [List.eq_of_mem_replicate hl] at h1; exact h a h1
theorem run_rep (d : DfaV) (u : List Nat) : ∀ (i q : Nat), run d q (repW u i) = itr (fun q => run d q u) i q
 | 0, q => rfl
 | i + 1, q => by
  have e : repW u (i + 1) = repW u i ++ u := by simp [repW, List.replicate_succ']
  rw [e, uJ, run_rep d u i q]; rfl
section
variable {d : DfaV} {n k : Nat}
theorem run_up (hd : VD d n k) (ho : OrdD d n) : ∀ (w : List Nat) {q : Nat}, q < n → uH k w → q ≤ run d q w
 | [], q, _, _ => Nat.le_refl _
 | a :: w, q, hq, hw => by
  have ha := hw a (by simp)
  have h1 := ho.2 k hd.hk q a ha (.inl hq)
  have h2 := nx_cast hd hq ha
  have h3 := run_up hd ho w (nx_lt hd hq ha) (fun b hb => hw b (by simp [hb]))
  show q ≤ run d (nx d q a) w
  omega
theorem min_loop (hd : VD d n k) (ho : OrdD d n) {u : List Nat} (hu : uH k u) {p i : Nat} (hp : p < minN d k) (hi : 0 < i) (h : itr (fun q => run (minD d k) q u) i p = p) : run (minD d k) p u = p := by
 obtain ⟨w, hw, rfl⟩ := min_reach hd hp
 have hs := st0_lt hd
 have hr : run d (st0 d) w < n := run_lt hd w hs hw
 have h1 := itr_stop (f := fun q => run d q u) (n := n) (fun q hq => ⟨run_lt hd u hq hu, run_up hd ho u hq hu⟩) hr (i := i * n) (Nat.le_mul_of_pos_left _ hi)
 have h2 : run d (st0 d) (w ++ repW u (i * n + 1)) = run d (st0 d) (w ++ repW u (i * n)) := by
  rw [uJ, uJ, run_rep, run_rep]; exact h1
 have hw1 : ∀ j, uH k (w ++ repW u j) := fun j a ha => by
  rcases List.mem_append.1 ha with ha | ha
  ·exact hw a ha
  ·exact repW_ok hu j a ha
 have h3 := min_same hd (hw1 _) (hw1 _) h2
 rw [uJ, uJ, run_rep, run_rep] at h3
 have h4 := itr_mul (fun q => run (minD d k) q u) h n
 rw [h4] at h3
 have h5 : itr (fun q => run (minD d k) q u) (i * n + 1) (run (minD d k) 0 w) = run (minD d k) (itr (fun q => run (minD d k) q u) (i * n) (run (minD d k) 0 w)) u := rfl
 rw [h5, h4] at h3
 exact h3
theorem min_perm (hd : VD d n k) (ho : PermD d n) {a : Nat} (ha : a < k) {p p' : Nat} (hp : p < minN d k) (hp' : p' < minN d k) (e : nx (minD d k) p a = nx (minD d k) p' a) : p = p' := by
 obtain ⟨w, hw, rfl⟩ := min_reach hd hp
 obtain ⟨w', hw', rfl⟩ := min_reach hd hp'
 have hs := st0_lt hd
 have hu : uH k [a] := fun b hb => by rw [List.mem_singleton] at hb; subst hb; exact ha
 have hlt : ∀ q, q < n → run d q [a] < n := fun q hq => run_lt hd [a] hq hu
 have hin : ∀ q q', q < n → q' < n → run d q [a] = run d q' [a] → q = q' := fun q q' hq hq' e => by
  refine ho k hd.hk a ha q q' hq hq' ?_
  rw [← nx_cast hd hq ha, ← nx_cast hd hq' ha]
  exact congrArg Int.ofNat e
 have hr : run d (st0 d) w < n := run_lt hd w hs hw
 have hr' : run d (st0 d) w' < n := run_lt hd w' hs hw'
 obtain ⟨j, hj, ej⟩ := itr_back hlt hin hr
 obtain ⟨j', hj', ej'⟩ := itr_back hlt hin hr'
 have h1 := itr_mul _ ej j'
 have h2 := itr_mul _ ej' j
 rw [Nat.mul_comm] at h2
 have hw1 : ∀ i, uH k (w ++ repW [a] i) := fun j a ha => by
  rcases List.mem_append.1 ha with ha | ha
  ·exact hw a ha
  ·exact repW_ok hu j a ha
 have hw2 : ∀ i, uH k (w' ++ repW [a] i) := fun j a ha => by
  rcases List.mem_append.1 ha with ha | ha
  ·exact hw' a ha
  ·exact repW_ok hu j a ha
 have m1 : run (minD d k) 0 (w ++ repW [a] (j * j')) = run (minD d k) 0 w := min_same hd (hw1 _) hw (by rw [uJ, run_rep]; exact h1)
 have m2 : run (minD d k) 0 (w' ++ repW [a] (j * j')) = run (minD d k) 0 w' := min_same hd (hw2 _) hw' (by rw [uJ, run_rep]; exact h2)
 rw [uJ, run_rep] at m1 m2
 have hpos : 0 < j * j' := Nat.mul_pos hj hj'
 obtain ⟨i, hi⟩ : ∃ i, j * j' = 1 + i := ⟨j * j' - 1, by omega⟩
 rw [hi, itr_add] at m1 m2
 rw [← m1, ← m2]
 exact congrArg (itr (fun q => run (minD d k) q [a]) i) e
end
theorem isT_ext {m : Nat} {f g : List Nat} (hf : IsT m f) (hg : IsT m g) (h : ∀ p, p < m → f.getD p 0 = g.getD p 0) : f = g := by
 refine List.ext_getElem (by rw [hf.1, hg.1]) fun i h1 h2 => ?_
 have := h i (by rw [← hf.1]; exact h1)
 rw [zN h1, zN h2] at this; exact this
theorem compT_at {m : Nat} {f g : List Nat} (hf : IsT m f) {p : Nat} (hp : p < m) : (compT f g).getD p 0 = g.getD (f.getD p 0) 0 := by
 unfold compT
 rw [xO (x := 0) (by rw [hf.1]; exact hp)]
theorem isT_at {m : Nat} {f : List Nat} (hf : IsT m f) {p : Nat} (hp : p < m) : f.getD p 0 < m := by
 rw [zN (by rw [hf.1]; exact hp)]; exact hf.2 _ (List.getElem_mem _)
theorem valW_run {M : DfaV} {m k : Nat} (hM : VD M m k) : ∀ (w : List Nat) (f : List Nat), IsT m f → uH k w → ∀ p, p < m → (w.foldl (fun f a => compT f ((gensD M m k).getD a [])) f).getD p 0 = run M (f.getD p 0) w
 | [], f, _, _, p, _ => rfl
 | a :: w, f, hf, hw, p, hp => by
  have ha := hw a (by simp)
  have hl : (gensD M m k).length = k := by simp [gensD]
  have hga : IsT m ((gensD M m k).getD a []) := gensD_isT hM _ (getDm (by rw [hl]; exact ha))
  rw [List.foldl_cons, valW_run hM w _ (compT_isT hf hga) (fun b hb => hw b (by simp [hb])) p hp, compT_at hf hp]
  have h1 := isT_at hf hp
  have h2 : ((gensD M m k).getD a []).getD (f.getD p 0) 0 = nx M (f.getD p 0) a := by
   have e : (gensD M m k).getD a [] = (List.range m).map fun q => nx M q a := by
    unfold gensD
    rw [xO (x := 0) (by simpa using ha), zN (by simpa using ha), List.getElem_range]
   rw [e, xO (x := 0) (by simpa using h1), zN (by simpa using h1), List.getElem_range]
  rw [h2]; rfl
section
variable {M : DfaV} {n k : Nat} {el : List (List Nat)} {pr la : List Int} {ri : List (List Nat)}
theorem Enm.run (h : Enm (gensD M n k) n el pr la ri el.length) (hM : VD M n k) {x : Nat} (hx : x < el.length) {p : Nat} (hp : p < n) : (el.getD x []).getD p 0 = Go.Proofs.YtdjhoadoiknaoaaDoor.run M p (wordI pr la x) ∧ uH k (wordI pr la x) := by
 have hw : uH k (wordI pr la x) := fun a ha => by
  have := (wordI_ok h.en.words x hx).1 a ha
  rw [wF] at this; exact this
 refine ⟨?_, hw⟩
 rw [h.en.word x hx]
 unfold valW
 rw [valW_run hM _ _ (isT_range n) hw p hp, zN (by simpa using hp), List.getElem_range]
variable {gs : List (List Nat)}
theorem Enm.one0 (h : Enm gs n el pr la ri el.length) (hg : ∀ g ∈ gs, IsT n g) : oneN (tabI (tabE pr la ri el.length)) = 0 := by
 unfold oneN; rw [h.ident hg]; rfl
theorem Enm.gen (h : Enm gs n el pr la ri el.length) (hg : ∀ g ∈ gs, IsT n g) (hgd : Good (tabI (tabE pr la ri el.length)) ((imgE gs el).map fun (x : Nat) => (x : Int))) : ∀ x, x < el.length → UC (tabI (tabE pr la ri el.length)) ((imgE gs el).map fun (x : Nat) => (x : Int)) (2 ^ x) := by
 intro x
 induction x using Nat.strongRecOn with
 | ind x ih =>
  intro hx
  rcases h.en.val x hx with ⟨h1, h2⟩ | ⟨h1, h2⟩
  ·subst h2
   have := uc_one hgd
   rw [h.one0 hg] at this; exact this
  ·rcases h.en.words x hx with h3 | ⟨h3, h4, h5, h6⟩
   ·exact absurd h3 h1
   ·have ha : (la.getD x 0).toNat < gs.length := by omega
    have hp : (pr.getD x 0).toNat < x := by omega
    have hin := h.image hg ha
    have hix := List.idxOf_lt_length_of_mem hin
    have e := h.entI hg (x := (pr.getD x 0).toNat) (y := el.idxOf (gs.getD (la.getD x 0).toNat [])) (by omega) hix hx (by rw [getD_idxOf hin]; exact h2)
    have h7 := uc_prod hgd (ih _ hp (by omega)) (uc_gen hgd (s := 2 ^ el.idxOf (gs.getD (la.getD x 0).toNat [])) (List.mem_cons_of_mem _ (List.mem_map.2 ⟨(el.idxOf (gs.getD (la.getD x 0).toNat []) : Int), List.mem_map.2 ⟨el.idxOf (gs.getD (la.getD x 0).toNat []), List.mem_map.2 ⟨_, getDm ha, rfl⟩, rfl⟩, by rw [Int.toNat_natCast]⟩)))
    rw [tU (tb_of hgd.valid) (by rw [yK]; omega) (by rw [yK]; exact hix), e] at h7
    exact h7
theorem Enm.pw (h : Enm gs n el pr la ri el.length) (hg : ∀ g ∈ gs, IsT n g) {x : Nat} (hx : x < el.length) : ∀ i, pw (entN (tabI (tabE pr la ri el.length))) x i < el.length ∧ ∀ p, p < n → (el.getD (Go.Proofs.YtdjhoadoiknaoaaDoor.pw (entN (tabI (tabE pr la ri el.length))) x i) []).getD p 0 = itr (fun q => (el.getD x []).getD q 0) (i + 1) p
 | 0 => ⟨hx, fun p _ => rfl⟩
 | i + 1 => by
  obtain ⟨h1, h2⟩ := Enm.pw h hg hx i
  obtain ⟨h3, h4⟩ := h.ent hg h1 hx
  refine ⟨h3, fun p hp => ?_⟩
  show (el.getD (entN (tabI (tabE pr la ri el.length)) (Go.Proofs.YtdjhoadoiknaoaaDoor.pw (entN (tabI (tabE pr la ri el.length))) x i) x) []).getD p 0 = _
  rw [h4, compT_at (h.en.it _ (getDm h1)) hp, h2 p hp]; rfl
end
theorem itr_congr {f g : Nat → Nat} {n : Nat} (h : ∀ q, q < n → f q = g q) (hl : ∀ q, q < n → g q < n) {q : Nat} (hq : q < n) : ∀ i, itr f i q = itr g i q ∧ itr g i q < n
 | 0 => ⟨rfl, hq⟩
 | i + 1 => by
  obtain ⟨h1, h2⟩ := itr_congr h hl hq i
  exact ⟨by show f (itr f i q) = g (itr g i q); rw [h1, h _ h2], hl _ h2⟩
theorem min_nk {d : DfaV} {n k m : Nat} (hd : VD d n k) (hM : VD (minD d k) m k) : m = minN d k := by rw [← hM.hn, (min_vd hd).hn]
theorem syn_ord {d M : DfaV} {n k m : Nat} {S : SynV} (hd : VD d n k) (ho : OrdD d n) (e : M = minD d k) (hM : VD M m k) (hk : k ≤ 6) (hS : SynE (gensD M m k) m (st0 M) M.final S) (h12 : S.tab.length ≤ 12) :
  Good (tabI S.tab) (S.images.map fun (x : Nat) => (x : Int)) ∧ uD (tabI S.tab) (S.images.map fun (x : Nat) => (x : Int)) = (List.range S.tab.length).map (2 ^ ·) := by
 obtain ⟨el, pr, la, ri, mm, hE, _, _, eT, _, eI, _, _⟩ := hS
 have hg := gensD_isT hM
 rw [eT, xU] at h12
 have hk1 : 1 ≤ k := by have := hM.k1; omega
 have hgd := hE.good hg h12 (by rw [wF]; exact hk1) (by rw [wF]; exact hk)
 rw [eT, eI]
 refine ⟨hgd, ?_⟩
 have := aper_close hgd (fun x hx => hE.gen hg hgd x (by rw [yK] at hx; exact hx)) (fun x i hx hi => by
  rw [yK] at hx
  obtain ⟨h1, h2⟩ := hE.pw hg hx i
  obtain ⟨h3, h4⟩ := hE.ent hg h1 h1
  rw [hi] at h4
  refine hE.entI hg h1 hx h1 ?_
  refine isT_ext (hE.en.it _ (getDm h1)) (compT_isT (hE.en.it _ (getDm h1)) (hE.en.it _ (getDm hx))) fun p hp => ?_
  rw [compT_at (hE.en.it _ (getDm h1)) hp]
  have h5 := congrArg (fun f => f.getD p 0) h4
  simp only [compT_at (hE.en.it _ (getDm h1)) hp] at h5
  have hz : (el.getD (pw (entN (tabI (tabE pr la ri el.length))) x i) []).getD p 0 < m := isT_at (hE.en.it _ (getDm h1)) hp
  obtain ⟨z, ez⟩ : ∃ z, z = (el.getD (pw (entN (tabI (tabE pr la ri el.length))) x i) []).getD p 0 := ⟨_, rfl⟩
  rw [← ez] at h5 hz ⊢
  rw [h2 z hz] at h5
  have hrun : ∀ q, q < m → (el.getD x []).getD q 0 = run M q (wordI pr la x) := fun q hq => (hE.run hM hx hq).1
  have hwo := (hE.run hM hx hp).2
  rw [(itr_congr hrun (fun q hq => run_lt hM _ hq hwo) hz (i + 1)).1] at h5
  subst e
  rw [hrun z hz]
  exact (min_loop hd ho hwo (by rw [← min_nk hd hM]; exact hz) (Nat.succ_pos i) h5.symm).symm)
 rw [yK] at this
 rw [this, xU]
theorem syn_perm {d M : DfaV} {n k m : Nat} {S : SynV} (hd : VD d n k) (ho : PermD d n) (e : M = minD d k) (hM : VD M m k) (hk : k ≤ 6) (hS : SynE (gensD M m k) m (st0 M) M.final S) (h12 : S.tab.length ≤ 12) :
  Good (tabI S.tab) (S.images.map fun (x : Nat) => (x : Int)) ∧ uD (tabI S.tab) (S.images.map fun (x : Nat) => (x : Int)) = [2 ^ S.tab.length - 1] := by
 obtain ⟨el, pr, la, ri, mm, hE, _, _, eT, _, eI, _, _⟩ := hS
 have hg := gensD_isT hM
 rw [eT, xU] at h12
 have hk1 : 1 ≤ k := by have := hM.k1; omega
 have hgd := hE.good hg h12 (by rw [wF]; exact hk1) (by rw [wF]; exact hk)
 rw [eT, eI]
 refine ⟨hgd, ?_⟩
 have := group_close hgd (fun x hx => hE.gen hg hgd x (by rw [yK] at hx; exact hx)) (fun y hy hi => by
  rw [yK] at hy
  rw [hE.one0 hg]
  obtain ⟨h3, h4⟩ := hE.ent hg hy hy
  rw [hi] at h4
  have hp0 := hE.en.pos
  refine nodup_getD hE.en.nodup hy hp0 (d := []) ?_
  rw [hE.en.one]
  refine isT_ext (hE.en.it _ (getDm hy)) (isT_range m) fun p hp => ?_
  have h5 := congrArg (fun f => f.getD p 0) h4
  simp only [compT_at (hE.en.it _ (getDm hy)) hp] at h5
  have hz : (el.getD y []).getD p 0 < m := isT_at (hE.en.it _ (getDm hy)) hp
  rw [zN (show p < (List.range m).length by simpa using hp), List.getElem_range]
  obtain ⟨hr, hwo⟩ := hE.run hM hy hp
  have hr2 := (hE.run hM hy hz).1
  rw [hr2] at h5
  rw [hr] at h5 ⊢
  have inj : ∀ (w : List Nat) (q q' : Nat), uH k w → q < m → q' < m → run M q w = run M q' w → q = q' := by
   intro w
   induction w with
   | nil => intro q q' _ _ _ e; exact e
   | cons a w ih =>
    intro q q' hw hq hq' e1
    have ha := hw a (by simp)
    have h6 := ih _ _ (fun b hb => hw b (by simp [hb])) (nx_lt hM hq ha) (nx_lt hM hq' ha) e1
    subst e
    have hm := min_nk hd hM
    exact min_perm hd ho ha (by omega) (by omega) h6
  exact (inj _ _ _ hwo hp (run_lt hM _ hp hwo) h5).symm)
 rw [yK] at this
 rw [this, xU]
end Go.Proofs.YtdjhoadoiknaoaaDoor
namespace Go.Proofs.YtdjhoadoiknaoaaDoor
structure StillG (P : Program) (ops : Array Oper) (w : World) (Q : Act → Prop) (l : List Oper) (a : Act) : Prop where
 h : wpStill P ops w Q l a
section
variable {P : Program} {ops : Array Oper} {w : World} {Q : Act → Prop} {a : Act} {o : Oper} {rest : List Oper}
theorem g_nil (h : Q a) : StillG P ops w Q [] a := ⟨wpStill_nil h⟩
theorem g_yes (hw : Region.wanted o (yielded ops a.tmps) = true) (h : ∀ K : Act → Prop, (∀ a, StillG P ops w Q rest a → K a) → o.still P a w K) : StillG P ops w Q (o :: rest) a := by
 refine ⟨?_⟩
 rw [wpStill, if_pos hw]
 exact h _ (fun _ h => h.h)
theorem g_no (hw : Region.wanted o (yielded ops a.tmps) = false) (h : StillG P ops w Q rest (a.put o.dst undef)) : StillG P ops w Q (o :: rest) a := by
 refine ⟨?_⟩
 rw [wpStill, if_neg (by rw [hw]; simp)]
 exact h.h
theorem g_un (hg : o.guard = none) (h : ∀ K : Act → Prop, (∀ a, StillG P ops w Q rest a → K a) → o.still P a w K) : StillG P ops w Q (o :: rest) a :=
 g_yes (by simp [Region.wanted, hg]) h
end
end Go.Proofs.YtdjhoadoiknaoaaDoor
namespace Go.Proofs.YtdjhoadoiknaoaaDoor
open Go.RowKit
theorem and_pow {x : Nat} (hx : x < 62) : bits .and .i64 (((2 ^ x : Nat) : Int)) (((2 ^ x : Nat) : Int) - 1) = 0 := by
 have hp : 0 < 2 ^ x := Nat.two_pow_pos x
 have h62 : 2 ^ x < 2 ^ 62 := Nat.pow_lt_pow_right (by omega) hx
 have e : (((2 ^ x : Nat) : Int) - 1) = ((2 ^ x - 1 : Nat) : Int) := by omega
 rw [e, tY _ _ (by omega) (by omega), Nat.and_two_pow_sub_one_eq_mod]
 simp
set_option maxRecDepth 100000 in
set_option maxHeartbeats 2000000 in
theorem aper_ord (w : World) (sl : Value) (zs : List Int) (h : Row w.heap.size w sl (zs.map (Value.int .i64))) (hT : TabOk w) :
  Calls Tryd.prog 3 #[sl, .bool false] w fun e w' => e = .returned (.bool true) ∧ w.grownBy w' none := by
 obtain ⟨sA, sC, rfl⟩ := h.shape
 obtain ⟨sl, hsl⟩ : ∃ sl, sl = (zs.map (Value.int .i64)).length := ⟨_, rfl⟩
 rw [← hsl] at h ⊢
 have HNW := Kh (new_any w.heap.size w (.slice sA sl sC) zs h (Nat.le_refl _))
 have HT := Kh hT
 clear h hT hsl
 go_enter Tryd.func3, Tryd.ntmps3
 go_wp2_with fail
 refine HNW.out.mono ?_
 rintro e w1 ⟨rfl, hT1, hg1⟩
 obtain ⟨tb, htb⟩ : ∃ tb, tb = w.heap.size := ⟨_, rfl⟩
 rw [← htb] at hT1 ⊢
 have HTB := Kh htb
 have HLE := Kh (letters_any tb tb w1 hT1)
 have HG1 := Kh hg1
 clear hT1 hg1 htb
 go_wp2_with fail
 refine HLE.out.mono ?_
 rintro e w2 ⟨r, rfl, hr1, hr2, hT2, hg2⟩
 have HMA := Kh (mord_any tb tb w2 r 3 hr1 (by omega) (by omega) (by omega) hT2)
 have HG2 := Kh (zG HG1.out hg2 (fun j e => by have e : tb = j := Option.some.inj e; have := HTB.out; omega))
 clear hT2 hg2 HLE
 go_wp2_with fail
 refine HMA.out.mono ?_
 rintro e w3 ⟨v3, d, n, rfl, hdo, hvd, hn, hR, hT3, hg3⟩
 have HDF := Kh (hdo.dfa hvd)
 obtain ⟨o3, hs, sf, cf, sn, cn, rfl, ho3, hH⟩ := hdo
 obtain ⟨nf, hnf⟩ : ∃ nf, nf = d.final.length := ⟨_, rfl⟩
 obtain ⟨nn, hnn⟩ : ∃ nn, nn = d.next.length := ⟨_, rfl⟩
 rw [← hnf, ← hnn] at HDF ⊢
 have HG3 := Kh (zG HG2.out hg3 (fun j e => by have e : tb = j := Option.some.inj e; have := HTB.out; omega))
 obtain ⟨wA, hWA⟩ : ∃ wA, wA = w3.alloc (.cells #[.int .i64 d.letters, .int .i64 d.start, .slice sf nf cf, .slice sn nn cn] 28) := ⟨_, rfl⟩
 have hgA := World.grownBy_alloc w3 (.cells #[.int .i64 d.letters, .int .i64 d.start, .slice sf nf cf, .slice sn nn cn] 28) none
 have hbA := heap_alloc_new w3 (.cells #[.int .i64 d.letters, .int .i64 d.start, .slice sf nf cf, .slice sn nn cn] 28)
 rw [← hWA] at hgA hbA
 obtain ⟨o, ho⟩ : ∃ o, o = w3.heap.size := ⟨_, rfl⟩
 rw [← ho] at hbA
 have HWA := Kh hWA; have HO := Kh ho; have HBA := Kh hbA
 have HGA := Kh (zG HG3.out hgA (by simp))
 have HTA := Kh (hT3.kept hgA (by simp))
 have HDA := Kh ((HDF.out.kept hgA (by simp)).mono hgA.size)
 have HVD := Kh hvd; have HR := Kh hR; have HN := Kh hn
 have htbo : tb < o := by have := hT3.lt; omega
 have hwo : w.heap.size ≤ o := by have := HG3.out.size; omega
 clear HMA hvd hR hn hH ho3 hT3 hg3 hnf hnn hWA hgA hbA ho HDF
 go_upto_region 3 with fail
 rw [← HWA.out, ← HO.out]
 obtain ⟨e0, e1, e2, e3⟩ := zO HBA.out
 have HOF := Kh (ofD_any wA.heap.size wA _ d (Nat.le_refl _) HDA.out)
 have HTW := Kh (HT.out.kept HGA.out (by simp))
 go_wp2_with fail
 refine HOF.out.mono ?_
 rintro e w6 (⟨c, rfl, hc, hc1, hc2, hg6⟩ | ⟨S, v6, n', k', m, M, hvd', hM, hVM, hm, rfl, hSE, hSA, hg6⟩)
 ·have hcb : (c != 0) = true := by rw [bne_iff_ne]; exact hc
  have HG6 := Kh (xW (zG HGA.out hg6 (by simp)) (.cells #[.int .i64 0, .slice none 0 0, .slice none 0 0, .slice none 0 0, .slice none 0 0, .slice none 0 0] 33))
  clear hc1 hc2 hg6 hc
  go_wp2
  go_ret
  exact ⟨rfl, HG6.out⟩
 have hvv : n' = n ∧ k' = r := ⟨by rw [← hvd'.hn, HVD.out.hn], by have h1 := hvd'.hk; have h2 := HVD.out.hk; omega⟩
 obtain ⟨rfl, rfl⟩ := hvv
 obtain ⟨vT, vW, vI, vA, vP, rfl, hTt, hWw, hIi, hAa, hPp⟩ := id hSA
 have hmat := (TMatT.tmat hTt).mat
 have him := hIi.row
 rw [nats_ints] at him
 obtain ⟨tA, tC, rfl⟩ := (TMatT.tmat hTt).shape
 obtain ⟨wA', wC, rfl⟩ := hWw.shape
 obtain ⟨iA, iC, rfl⟩ := hIi.shape
 obtain ⟨aA, aC, rfl⟩ := hAa.shape
 obtain ⟨pA, pC, rfl⟩ := hPp.shape
 obtain ⟨tl, htl⟩ : ∃ x, x = S.tab.length := ⟨_, rfl⟩
 obtain ⟨wl, hwl⟩ : ∃ x, x = (strsL S.words).length := ⟨_, rfl⟩
 obtain ⟨il, hil⟩ : ∃ x, x = (nats S.images).length := ⟨_, rfl⟩
 obtain ⟨al, hal⟩ : ∃ x, x = (bls S.accept).length := ⟨_, rfl⟩
 obtain ⟨pl, hpl⟩ : ∃ x, x = (bls S.plus).length := ⟨_, rfl⟩
 rw [← htl] at hmat
 rw [← hil] at him
 rw [← htl, ← hwl, ← hil, ← hal, ← hpl]
 obtain ⟨w7, hw7⟩ : ∃ W, W = w6.alloc (.cells #[.int .i64 S.k, .slice tA tl tC, .slice wA' wl wC, .slice iA il iC, .slice aA al aC, .slice pA pl pC] 33) := ⟨_, rfl⟩
 have hg7 := World.grownBy_alloc w6 (.cells #[.int .i64 S.k, .slice tA tl tC, .slice wA' wl wC, .slice iA il iC, .slice aA al aC, .slice pA pl pC] 33) none
 have hb7 := heap_alloc_new w6 (.cells #[.int .i64 S.k, .slice tA tl tC, .slice wA' wl wC, .slice iA il iC, .slice aA al aC, .slice pA pl pC] 33)
 rw [← hw7] at hg7 hb7
 obtain ⟨q, hq⟩ : ∃ o, o = w6.heap.size := ⟨_, rfl⟩
 rw [← hq] at hb7
 have HW7 := Kh hw7; have HQ := Kh hq; have HB7 := Kh hb7
 have HG7 := Kh (zG (zG HGA.out hg6 (by simp)) hg7 (by simp))
 have HT7 := Kh (HT.out.kept HG7.out (by simp))
 have HM7 := Kh ((hmat.kept hg7 (by simp)).mono hg7.size); have HI7 := Kh ((him.kept hg7 (by simp)).mono hg7.size)
 have HTL := Kh htl; have HSE := Kh hSE; have HMM := Kh hM; have HVM := Kh hVM
 clear hvd' hM hVM hm hSE hSA hg6 hTt hWw hIi hAa hPp hmat him htl hwl hil hal hpl hw7 hg7 hb7 hq HOF
 go_upto_region 6 with fail
 rw [← HW7.out, ← HQ.out]
 obtain ⟨q0, q1, q2, q3, q4, q5⟩ := yN HB7.out
 by_cases h8 : ¬ tl ≤ 8
 ·have h8' : (8 : Int) < tl := by omega
  go_wp2
  go_ret
  exact ⟨rfl, HG7.out⟩
 replace h8 : tl ≤ 8 := by omega
 have h8' : ¬ (8 : Int) < tl := by omega
 obtain ⟨hgd, hcl⟩ := syn_ord HVD.out HR.out HMM.out HVM.out (by omega) HSE.out (by have := HTL.out; omega)
 rw [← HTL.out] at hcl
 obtain ⟨t, ht⟩ : ∃ t, t = tabI S.tab := ⟨_, rfl⟩
 obtain ⟨im, him2⟩ : ∃ im, im = S.images.map fun (x : Nat) => (x : Int) := ⟨_, rfl⟩
 rw [← ht] at HM7 hgd hcl
 rw [← him2] at HI7 hgd hcl
 have HZ : Hid (wI t im = 0) := Kh (checkE_good.2 hgd)
 have HCL := Kh hcl
 have hz7 : (0 : Nat) ≤ w7.heap.size := Nat.zero_le _
 clear ht him2 hgd hcl
 go_wp2_with fail
 refine (closure_any w7.heap.size w7 _ _ t im (Nat.le_refl _) HM7.out HI7.out HT7.out).mono ?_
 rintro e w8 ⟨hg8, ⟨hne, _⟩ | ⟨_, v8, rfl, hrow8⟩⟩
 ·exact absurd HZ.out hne
 rw [HCL.out] at hrow8
 have HB8 := Kh (zE HB7.out hg8 (by simp)); have HG8 := Kh (zG HG7.out hg8 (by simp)); have HT8 := Kh (HT7.out.kept hg8 (by simp))
 clear hg8 q0 q1 q2 q3 q4 q5
 obtain ⟨q0, q1, q2, q3, q4, q5⟩ := yN HB8.out
 have HKN := Kh (fun (W : World) (h : w8.grownBy W none) => known40_any W (HT8.out.kept h (by simp)))
 obtain ⟨a8, c8, rfl⟩ := hrow8.shape
 rw [zL, List.length_map, List.length_range] at hrow8 ⊢
 have HR8 := Kh hrow8
 clear hrow8
 go_wp2_with fail
 go_loopg [49] tl (fun gh i wr => w8 = wr ∧ ∃ k : Nat, gh + k = tl ∧ i = .int .i64 (k : Int))
 case atStart => exact ⟨rfl, 0, rfl, rfl⟩
 case round =>
  obtain ⟨rfl, k, hgh, rfl⟩ := hrel
  have HGH := Kh hgh
  clear hgh
  by_cases hk : k < tl
  ·have hk' : (k : Int) < tl := by omega
   obtain ⟨kb, off, cap, ek, hkB, hk1, hk2, hkr⟩ := HR8.out.some_ (by rw [zL, List.length_map, List.length_range]; omega)
   rw [zL, List.length_map, List.length_range] at ek hk1
   simp only [Value.slice.injEq] at ek
   obtain ⟨rfl, _, rfl⟩ := ek
   have hkm : c8 ≤ 9223372036854775807 := by unfold maxLen at hk2; omega
   have hc := hkr.nat k (by rw [List.length_map, List.length_range]; exact hk)
   rw [xO (x := 0) (by simpa using hk), zN (by simpa using hk), List.getElem_range] at hc
   have hand := and_pow (x := k) (by omega)
   have hp1 : 1 ≤ 2 ^ k := Nat.one_le_two_pow
   have hp2 : 2 ^ k ≤ 2 ^ 8 := Nat.pow_le_pow_right (by omega) (by omega)
   obtain ⟨X, hX⟩ : ∃ X, X = 2 ^ k := ⟨_, rfl⟩
   rw [← hX] at hc hand hp1 hp2
   clear hkr hX hk2
   go_wp2
   go_roundg (tl - (k + 1))
   case measure => have := HGH.out; omega
   case rel => exact ⟨rfl, k + 1, by omega, by go_num⟩
  ·have hk' : ¬ (k : Int) < tl := by omega
   go_wp2_with fail
   refine wp_region_still_tail 31 (by kernel_rfl) (by kernel_rfl) (StillG.h ?_)
   simp only [List.take_succ_cons, List.take_zero, List.drop_succ_cons, List.drop_zero]
   refine g_un rfl ?_
   intro K hK; go_simp; refine hK _ ?_; clear hK K
   refine g_un rfl ?_
   intro K hK; go_simp; refine hK _ ?_; clear hK K
   refine g_no (by kernel_rfl) ?_
   try simp only [Act.put, sPa, sPb, sPc]
   refine g_no (by kernel_rfl) ?_
   try simp only [Act.put, sPa, sPb, sPc]
   refine g_no (by kernel_rfl) ?_
   try simp only [Act.put, sPa, sPb, sPc]
   refine g_un rfl ?_
   intro K hK; go_simp; refine hK _ ?_; clear hK K
   refine g_un rfl ?_
   intro K hK; go_simp; refine hK _ ?_; clear hK K
   refine g_no (by kernel_rfl) ?_
   try simp only [Act.put, sPa, sPb, sPc]
   refine g_no (by kernel_rfl) ?_
   try simp only [Act.put, sPa, sPb, sPc]
   refine g_no (by kernel_rfl) ?_
   try simp only [Act.put, sPa, sPb, sPc]
   refine g_no (by kernel_rfl) ?_
   try simp only [Act.put, sPa, sPb, sPc]
   refine g_no (by kernel_rfl) ?_
   try simp only [Act.put, sPa, sPb, sPc]
   refine g_no (by kernel_rfl) ?_
   try simp only [Act.put, sPa, sPb, sPc]
   refine g_no (by kernel_rfl) ?_
   try simp only [Act.put, sPa, sPb, sPc]
   refine g_no (by kernel_rfl) ?_
   try simp only [Act.put, sPa, sPb, sPc]
   refine g_no (by kernel_rfl) ?_
   try simp only [Act.put, sPa, sPb, sPc]
   refine g_no (by kernel_rfl) ?_
   try simp only [Act.put, sPa, sPb, sPc]
   refine g_un rfl ?_
   intro K hK; go_simp; refine hK _ ?_; clear hK K
   refine g_un rfl ?_
   intro K hK; go_simp; refine hK _ ?_; clear hK K
   refine g_yes (by kernel_rfl) ?_
   intro K hK; go_simp; refine hK _ ?_; clear hK K
   refine g_yes (by kernel_rfl) ?_
   intro K hK; go_simp; refine hK _ ?_; clear hK K
   refine g_yes (by kernel_rfl) ?_
   intro K hK; go_simp; refine hK _ ?_; clear hK K
   refine g_yes (by kernel_rfl) ?_
   intro K hK; go_simp; refine hK _ ?_; clear hK K
   refine g_yes (by kernel_rfl) ?_
   intro K hK; go_simp; refine hK _ ?_; clear hK K
   refine g_yes (by kernel_rfl) ?_
   intro K hK; go_simp; refine hK _ ?_; clear hK K
   refine g_yes (by kernel_rfl) ?_
   intro K hK; go_simp; refine hK _ ?_; clear hK K
   refine g_yes (by kernel_rfl) ?_
   intro K hK; go_simp; refine hK _ ?_; clear hK K
   refine g_yes (by kernel_rfl) ?_
   intro K hK; go_simp; refine hK _ ?_; clear hK K
   refine g_yes (by kernel_rfl) ?_
   intro K hK; go_simp; refine hK _ ?_; clear hK K
   refine g_un rfl ?_
   intro K hK; go_simp; refine hK _ ?_; clear hK K
   refine g_un rfl ?_
   intro K hK; go_simp; refine hK _ ?_; clear hK K
   refine g_nil ?_
   go_wp2_with fail
   refine (HKN.out _ (zZ _ _)).mono ?_
   rintro e w9 ⟨rfl, hg9⟩
   have HG9 := Kh (zG (zG HG8.out (zZ _ none) (by simp)) hg9 (by simp))
   clear hg9
   go_wp2
   go_ret
   exact ⟨rfl, HG9.out⟩
set_option maxRecDepth 100000 in
set_option maxHeartbeats 2000000 in
theorem aper_perm (w : World) (sl : Value) (zs : List Int) (h : Row w.heap.size w sl (zs.map (Value.int .i64))) (hT : TabOk w) :
  Calls Tryd.prog 3 #[sl, .bool true] w fun e w' => e = .returned (.bool true) ∧ w.grownBy w' none := by
 obtain ⟨sA, sC, rfl⟩ := h.shape
 obtain ⟨sl, hsl⟩ : ∃ sl, sl = (zs.map (Value.int .i64)).length := ⟨_, rfl⟩
 rw [← hsl] at h ⊢
 have HNW := Kh (new_any w.heap.size w (.slice sA sl sC) zs h (Nat.le_refl _))
 have HT := Kh hT
 clear h hT hsl
 go_enter Tryd.func3, Tryd.ntmps3
 go_wp2_with fail
 refine HNW.out.mono ?_
 rintro e w1 ⟨rfl, hT1, hg1⟩
 obtain ⟨tb, htb⟩ : ∃ tb, tb = w.heap.size := ⟨_, rfl⟩
 rw [← htb] at hT1 ⊢
 have HTB := Kh htb
 have HLE := Kh (letters_any tb tb w1 hT1)
 have HG1 := Kh hg1
 clear hT1 hg1 htb
 go_wp2_with fail
 refine HLE.out.mono ?_
 rintro e w2 ⟨r, rfl, hr1, hr2, hT2, hg2⟩
 have HMA := Kh (mord_any tb tb w2 r 3 hr1 (by omega) (by omega) (by omega) hT2)
 have HG2 := Kh (zG HG1.out hg2 (fun j e => by have e : tb = j := Option.some.inj e; have := HTB.out; omega))
 clear hT2 hg2 HLE
 go_wp2_with fail
 refine HMA.out.mono ?_
 rintro e w3 ⟨v3, d, n, rfl, hdo, hvd, hn, hR, hT3, hg3⟩
 have HDF := Kh (hdo.dfa hvd)
 obtain ⟨o3, hs, sf, cf, sn, cn, rfl, ho3, hH⟩ := hdo
 obtain ⟨nf, hnf⟩ : ∃ nf, nf = d.final.length := ⟨_, rfl⟩
 obtain ⟨nn, hnn⟩ : ∃ nn, nn = d.next.length := ⟨_, rfl⟩
 rw [← hnf, ← hnn] at HDF ⊢
 have HG3 := Kh (zG HG2.out hg3 (fun j e => by have e : tb = j := Option.some.inj e; have := HTB.out; omega))
 obtain ⟨wA, hWA⟩ : ∃ wA, wA = w3.alloc (.cells #[.int .i64 d.letters, .int .i64 d.start, .slice sf nf cf, .slice sn nn cn] 28) := ⟨_, rfl⟩
 have hgA := World.grownBy_alloc w3 (.cells #[.int .i64 d.letters, .int .i64 d.start, .slice sf nf cf, .slice sn nn cn] 28) none
 have hbA := heap_alloc_new w3 (.cells #[.int .i64 d.letters, .int .i64 d.start, .slice sf nf cf, .slice sn nn cn] 28)
 rw [← hWA] at hgA hbA
 obtain ⟨o, ho⟩ : ∃ o, o = w3.heap.size := ⟨_, rfl⟩
 rw [← ho] at hbA
 have HWA := Kh hWA; have HO := Kh ho; have HBA := Kh hbA
 have HGA := Kh (zG HG3.out hgA (by simp))
 have HTA := Kh (hT3.kept hgA (by simp))
 have HDA := Kh ((HDF.out.kept hgA (by simp)).mono hgA.size)
 have HVD := Kh hvd; have HR := Kh hR; have HN := Kh hn
 have htbo : tb < o := by have := hT3.lt; omega
 have hwo : w.heap.size ≤ o := by have := HG3.out.size; omega
 clear HMA hvd hR hn hH ho3 hT3 hg3 hnf hnn hWA hgA hbA ho HDF
 go_upto_region 3 with fail
 rw [← HWA.out, ← HO.out]
 have HLE := Kh (letters_any tb tb wA HTA.out)
 go_wp2_with fail
 refine HLE.out.mono ?_
 rintro e w4 ⟨r4, rfl, hr41, hr42, hT4, hg4⟩
 have HPE := Kh (mperm_any tb tb w4 r4 3 hr41 (by omega) (by omega) (by omega) hT4)
 have HB4 := Kh (zE HBA.out hg4 (by simp; omega))
 have HG4 := Kh (zG HGA.out hg4 (fun j e => by have e : tb = j := Option.some.inj e; have := HTB.out; omega))
 have ho4 := zT HB4.out
 clear hT4 hg4 HLE
 go_wp2_with fail
 refine HPE.out.mono ?_
 rintro e w5 ⟨v5, d5, n5, rfl, hdo, hvd, hn, hR, hT5, hg5⟩
 obtain ⟨o5, hs5, sf5, cf5, sn5, cn5, rfl, ho5, hH⟩ := hdo
 have hb5 := zE HB4.out hg5 (by simp; omega)
 obtain ⟨c0, c1, c2, c3⟩ := zO hb5
 have f0 := zD hb5 0; have f1 := zD hb5 1; have f2 := zD hb5 2; have f3 := zD hb5 3
 obtain ⟨hsR, hgR⟩ := dbox_set hb5 (.int .i64 d5.letters) (.int .i64 d5.start) (.slice sf5 d5.final.length cf5) (.slice sn5 d5.next.length cn5)
 obtain ⟨wB, hWB⟩ : ∃ wB, wB = ((((w5.setCell ⟨o, 0, none⟩ (.int .i64 d5.letters)).setCell ⟨o, 1, none⟩ (.int .i64 d5.start)).setCell ⟨o, 2, none⟩ (.slice sf5 d5.final.length cf5)).setCell ⟨o, 3, none⟩ (.slice sn5 d5.next.length cn5)) := ⟨_, rfl⟩
 rw [← hWB] at hsR hgR
 have hDB : DfaOk wB.heap.size wB (.agg #[.int .i64 d5.letters, .int .i64 d5.start, .slice sf5 d5.final.length cf5, .slice sn5 d5.next.length cn5]) d5 := DfaOwn.dfa (w := w4) ⟨o5, hs5, sf5, cf5, sn5, cn5, rfl, ho5, hH.far hgR hb5 (by omega)⟩ hvd
 have HGB := Kh (zG (zG HG4.out hg5 (fun j e => by have e : tb = j := Option.some.inj e; have := HTB.out; omega)) hgR (fun j e => by have e : o = j := Option.some.inj e; omega))
 obtain ⟨nf5, hnf5⟩ : ∃ nf, nf = d5.final.length := ⟨_, rfl⟩
 obtain ⟨nn5, hnn5⟩ : ∃ nn, nn = d5.next.length := ⟨_, rfl⟩
 rw [← hnf5, ← hnn5] at hDB hsR hWB ⊢
 have HDB := Kh hDB; have HWB := Kh hWB; have HBB := Kh hsR
 clear HVD HR HN
 have HVD := Kh hvd; have HR := Kh hR; have HN := Kh hn
 clear HPE hvd hR hn hH ho5 hT5 hg5 hb5 hnf5 hnn5 hWB hsR hgR hDB
 go_upto_region 5 with fail
 rw [← HWB.out]
 clear c0 c1 c2 c3 f0 f1 f2 f3
 obtain ⟨e0, e1, e2, e3⟩ := zO HBB.out
 have HOF := Kh (ofD_any wB.heap.size wB _ d5 (Nat.le_refl _) HDB.out)
 have HTW := Kh (HT.out.kept HGB.out (by simp))
 go_wp2_with fail
 refine HOF.out.mono ?_
 rintro e w6 (⟨c, rfl, hc, hc1, hc2, hg6⟩ | ⟨S, v6, n', k', m, M, hvd', hM, hVM, hm, rfl, hSE, hSA, hg6⟩)
 ·have hcb : (c != 0) = true := by rw [bne_iff_ne]; exact hc
  have HG6 := Kh (xW (zG HGB.out hg6 (by simp)) (.cells #[.int .i64 0, .slice none 0 0, .slice none 0 0, .slice none 0 0, .slice none 0 0, .slice none 0 0] 33))
  clear hc1 hc2 hg6 hc
  go_wp2
  go_ret
  exact ⟨rfl, HG6.out⟩
 have hvv : n' = n5 ∧ k' = r4 := ⟨by rw [← hvd'.hn, HVD.out.hn], by have h1 := hvd'.hk; have h2 := HVD.out.hk; omega⟩
 obtain ⟨rfl, rfl⟩ := hvv
 obtain ⟨vT, vW, vI, vA, vP, rfl, hTt, hWw, hIi, hAa, hPp⟩ := id hSA
 have hmat := (TMatT.tmat hTt).mat
 have him := hIi.row
 rw [nats_ints] at him
 obtain ⟨tA, tC, rfl⟩ := (TMatT.tmat hTt).shape
 obtain ⟨wA', wC, rfl⟩ := hWw.shape
 obtain ⟨iA, iC, rfl⟩ := hIi.shape
 obtain ⟨aA, aC, rfl⟩ := hAa.shape
 obtain ⟨pA, pC, rfl⟩ := hPp.shape
 obtain ⟨tl, htl⟩ : ∃ x, x = S.tab.length := ⟨_, rfl⟩
 obtain ⟨wl, hwl⟩ : ∃ x, x = (strsL S.words).length := ⟨_, rfl⟩
 obtain ⟨il, hil⟩ : ∃ x, x = (nats S.images).length := ⟨_, rfl⟩
 obtain ⟨al, hal⟩ : ∃ x, x = (bls S.accept).length := ⟨_, rfl⟩
 obtain ⟨pl, hpl⟩ : ∃ x, x = (bls S.plus).length := ⟨_, rfl⟩
 rw [← htl] at hmat
 rw [← hil] at him
 rw [← htl, ← hwl, ← hil, ← hal, ← hpl]
 obtain ⟨w7, hw7⟩ : ∃ W, W = w6.alloc (.cells #[.int .i64 S.k, .slice tA tl tC, .slice wA' wl wC, .slice iA il iC, .slice aA al aC, .slice pA pl pC] 33) := ⟨_, rfl⟩
 have hg7 := World.grownBy_alloc w6 (.cells #[.int .i64 S.k, .slice tA tl tC, .slice wA' wl wC, .slice iA il iC, .slice aA al aC, .slice pA pl pC] 33) none
 have hb7 := heap_alloc_new w6 (.cells #[.int .i64 S.k, .slice tA tl tC, .slice wA' wl wC, .slice iA il iC, .slice aA al aC, .slice pA pl pC] 33)
 rw [← hw7] at hg7 hb7
 obtain ⟨q, hq⟩ : ∃ o, o = w6.heap.size := ⟨_, rfl⟩
 rw [← hq] at hb7
 have HW7 := Kh hw7; have HQ := Kh hq; have HB7 := Kh hb7
 have HG7 := Kh (zG (zG HGB.out hg6 (by simp)) hg7 (by simp))
 have HT7 := Kh (HT.out.kept HG7.out (by simp))
 have HM7 := Kh ((hmat.kept hg7 (by simp)).mono hg7.size); have HI7 := Kh ((him.kept hg7 (by simp)).mono hg7.size)
 have HTL := Kh htl; have HSE := Kh hSE; have HMM := Kh hM; have HVM := Kh hVM
 clear hvd' hM hVM hm hSE hSA hg6 hTt hWw hIi hAa hPp hmat him htl hwl hil hal hpl hw7 hg7 hb7 hq HOF
 go_upto_region 6 with fail
 rw [← HW7.out, ← HQ.out]
 obtain ⟨q0, q1, q2, q3, q4, q5⟩ := yN HB7.out
 by_cases h8 : ¬ tl ≤ 8
 ·have h8' : (8 : Int) < tl := by omega
  go_wp2
  go_ret
  exact ⟨rfl, HG7.out⟩
 replace h8 : tl ≤ 8 := by omega
 have h8' : ¬ (8 : Int) < tl := by omega
 obtain ⟨hgd, hcl⟩ := syn_perm HVD.out HR.out HMM.out HVM.out (by omega) HSE.out (by have := HTL.out; omega)
 rw [← HTL.out] at hcl
 obtain ⟨t, ht⟩ : ∃ t, t = tabI S.tab := ⟨_, rfl⟩
 obtain ⟨im, him2⟩ : ∃ im, im = S.images.map fun (x : Nat) => (x : Int) := ⟨_, rfl⟩
 rw [← ht] at HM7 hgd hcl
 rw [← him2] at HI7 hgd hcl
 have HZ : Hid (wI t im = 0) := Kh (checkE_good.2 hgd)
 have HCL := Kh hcl
 have hz7 : (0 : Nat) ≤ w7.heap.size := Nat.zero_le _
 clear ht him2 hgd hcl
 go_wp2_with fail
 refine (closure_any w7.heap.size w7 _ _ t im (Nat.le_refl _) HM7.out HI7.out HT7.out).mono ?_
 rintro e w8 ⟨hg8, ⟨hne, _⟩ | ⟨_, v8, rfl, hrow8⟩⟩
 ·exact absurd HZ.out hne
 rw [HCL.out] at hrow8
 have HB8 := Kh (zE HB7.out hg8 (by simp)); have HG8 := Kh (zG HG7.out hg8 (by simp)); have HT8 := Kh (HT7.out.kept hg8 (by simp))
 clear hg8 q0 q1 q2 q3 q4 q5
 obtain ⟨q0, q1, q2, q3, q4, q5⟩ := yN HB8.out
 have HKN := Kh (fun (W : World) (h : w8.grownBy W none) => known40_any W (HT8.out.kept h (by simp)))
 obtain ⟨kb, off, cap, ek, hkB, hk1, hk2, hkr⟩ := hrow8.some_ (by simp [zL])
 rw [show (nats [2 ^ tl - 1]).length = 1 from by rw [zL]; rfl] at ek
 have hc := hkr.nat 0 (by simp)
 simp only [Nat.add_zero, List.getD_cons_zero] at hc
 obtain ⟨X, hX⟩ : ∃ X, X = 2 ^ tl - 1 := ⟨_, rfl⟩
 rw [← hX] at hc hrow8
 have hp1 : 1 ≤ 2 ^ tl := Nat.one_le_two_pow
 have hp2 : 2 ^ tl ≤ 2 ^ 8 := Nat.pow_le_pow_right (by omega) h8
 obtain ⟨Y, hY⟩ : ∃ Y, Y = 2 ^ tl := ⟨_, rfl⟩
 rw [← hY] at hX hp1 hp2
 have hyx : (Y : Int) - 1 = (X : Int) := by omega
 have hyb : Y ≤ 256 := hp2
 clear hp2
 have hyw : IntKind.i64.wrap ((Y : Int) - 1) = (X : Int) := by rw [hyx]; exact IntWalk.i64_in _ (by omega)
 have hyw' : wrap64 ((Y : Int) - 1) = (X : Int) := by rw [hyx]; exact IntWalk.wrap64_in _ (by omega)
 clear hX
 have hsh := shl_eq (m := tl) (by omega)
 have hsh' := shl_eq' (m := tl) (by omega)
 rw [← hY] at hsh hsh'
 have hsm : wrap64 ((2 : Int) ^ min tl 64) = (Y : Int) := by rw [Nat.min_eq_left (by omega)]; exact hsh
 have HCM : Hid (((X : Int) == IntKind.i64.wrap (IntKind.i64.wrap ((2 : Int) ^ min (IntKind.u64.wrap (tl : Int)).toNat 64) - 1)) = true) := Kh (by
  have hu : IntKind.u64.wrap (tl : Int) = (tl : Int) := IntWalk.u64_in _ (by omega)
  rw [hu, Int.toNat_natCast, Nat.min_eq_left (by omega), hsh', hyw]; simp)
 clear hsh hsh' hsm hyw hyw' hyx
 have HR8 := Kh hrow8
 subst ek
 clear hrow8 hkr hY hk1 hk2
 go_wp2_with fail
 go_loopg [49] 1 (fun gh i wr => w8 = wr ∧ ∃ k : Nat, gh + k = 1 ∧ i = .int .i64 (k : Int))
 case atStart => exact ⟨rfl, 0, rfl, rfl⟩
 case round =>
  obtain ⟨rfl, k, hgh, rfl⟩ := hrel
  have HGH := Kh hgh
  clear hgh
  by_cases hk : k < 1
  ·obtain rfl : k = 0 := by omega
   go_wp2
   go_roundg 0
   case measure => have := HGH.out; omega
   case rel => exact ⟨rfl, 1, by omega, by go_num⟩
  ·have hk' : ¬ (k : Int) < 1 := by omega
   go_wp2_with fail
   refine wp_region_still_tail 31 (by kernel_rfl) (by kernel_rfl) (StillG.h ?_)
   simp only [List.take_succ_cons, List.take_zero, List.drop_succ_cons, List.drop_zero]
   refine g_un rfl ?_
   intro K hK; go_simp; refine hK _ ?_; clear hK K
   refine g_un rfl ?_
   intro K hK; go_simp; refine hK _ ?_; clear hK K
   refine g_yes (by kernel_rfl) ?_
   intro K hK; go_simp; refine hK _ ?_; clear hK K
   refine g_yes (by kernel_rfl) ?_
   intro K hK; go_simp; refine hK _ ?_; clear hK K
   refine g_yes (by kernel_rfl) ?_
   intro K hK; go_simp; refine hK _ ?_; clear hK K
   refine g_un rfl ?_
   intro K hK; go_simp; refine hK _ ?_; clear hK K
   refine g_un rfl ?_
   intro K hK; go_simp; refine hK _ ?_; clear hK K
   refine g_yes (by kernel_rfl) ?_
   intro K hK; go_simp; refine hK _ ?_; clear hK K
   refine g_yes (by kernel_rfl) ?_
   intro K hK; go_simp; refine hK _ ?_; clear hK K
   refine g_yes (by kernel_rfl) ?_
   intro K hK; go_simp; refine hK _ ?_; clear hK K
   refine g_yes (by kernel_rfl) ?_
   intro K hK; go_simp; refine hK _ ?_; clear hK K
   refine g_yes (by kernel_rfl) ?_
   intro K hK; go_simp; refine hK _ ?_; clear hK K
   refine g_yes (by kernel_rfl) ?_
   intro K hK; go_simp; refine hK _ ?_; clear hK K
   refine g_yes (by kernel_rfl) ?_
   intro K hK; go_simp; refine hK _ ?_; clear hK K
   refine g_yes (by kernel_rfl) ?_
   intro K hK; go_simp; refine hK _ ?_; clear hK K
   refine g_yes (by kernel_rfl) ?_
   intro K hK; go_simp; refine hK _ ?_; clear hK K
   refine g_yes (by kernel_rfl) ?_
   intro K hK; go_simp; refine hK _ ?_; clear hK K
   rw [HCM.out]
   refine g_un rfl ?_
   intro K hK; go_simp; refine hK _ ?_; clear hK K
   refine g_un rfl ?_
   intro K hK; go_simp; refine hK _ ?_; clear hK K
   refine g_no (by kernel_rfl) ?_
   try simp only [Act.put, sPa, sPb, sPc]
   refine g_no (by kernel_rfl) ?_
   try simp only [Act.put, sPa, sPb, sPc]
   refine g_no (by kernel_rfl) ?_
   try simp only [Act.put, sPa, sPb, sPc]
   refine g_no (by kernel_rfl) ?_
   try simp only [Act.put, sPa, sPb, sPc]
   refine g_no (by kernel_rfl) ?_
   try simp only [Act.put, sPa, sPb, sPc]
   refine g_no (by kernel_rfl) ?_
   try simp only [Act.put, sPa, sPb, sPc]
   refine g_no (by kernel_rfl) ?_
   try simp only [Act.put, sPa, sPb, sPc]
   refine g_no (by kernel_rfl) ?_
   try simp only [Act.put, sPa, sPb, sPc]
   refine g_no (by kernel_rfl) ?_
   try simp only [Act.put, sPa, sPb, sPc]
   refine g_no (by kernel_rfl) ?_
   try simp only [Act.put, sPa, sPb, sPc]
   refine g_un rfl ?_
   intro K hK; go_simp; refine hK _ ?_; clear hK K
   refine g_un rfl ?_
   intro K hK; go_simp; refine hK _ ?_; clear hK K
   refine g_nil ?_
   go_wp2_with fail
   refine (HKN.out _ (zZ _ _)).mono ?_
   rintro e w9 ⟨rfl, hg9⟩
   have HG9 := Kh (zG (zG HG8.out (zZ _ none) (by simp)) hg9 (by simp))
   clear hg9
   go_wp2
   go_ret
   exact ⟨rfl, HG9.out⟩
def laidTabs : List (String × DataW Unit) := [("math/bits.deBruijn32tab", Rows.laid_math_bits_deBruijn32tab), ("math/bits.deBruijn64tab", Rows.laid_math_bits_deBruijn64tab)]
theorem tabOk_of_laid {W : World} (h : laidMetH Tryd.prog laidTabs W) : TabOk W := by
 rw [MakeChecks.laidMetH_plain _ _ _ (by kernel_rfl)] at h
 obtain ⟨ps, ⟨g0, t0, cs0, f0, p0, q0, hg0, ht0, hv0, hd0, ⟨g1, t1, cs1, f1, p1, q1, hg1, ht1, hv1, hd1, _, _⟩, _⟩, _, _⟩ := h
 have e1 : Tryd.prog.globalNamed "math/bits.deBruijn64tab" = some 1 := by kernel_rfl
 obtain rfl := Option.some.inj (e1.symm.trans hg1)
 have e2 : (Tryd.prog.globals[1]?).map (·.type) = some 143 := by kernel_rfl
 obtain rfl := Option.some.inj (e2.symm.trans ht1)
 have hc := Lib.cells_of_tab (k := .u8) (zs := Lib.deBruijn64tab.map fun (x : Nat) => (x : Int)) (n := 64) (e := 5) (by kernel_rfl) (by kernel_rfl) (by kernel_rfl) (by kernel_rfl) hd1
 have hti : Lib.TabIs Tryd.prog W "math/bits.deBruijn64tab" .u8 (Lib.deBruijn64tab.map fun (x : Nat) => (x : Int)) := by
  unfold Lib.TabIs
  rw [hv1, ← hc]
 have hcell : ∀ i, i < Lib.deBruijn64tab.length → W.cell? ⟨1, i, none⟩ = some (.int .u8 (Lib.deBruijn64tab.getD i 0)) := fun i hi => by
  have := hti.cell e1 i (by rw [List.length_map]; exact hi)
  rw [this]
  simp [List.getD, List.getElem?_eq_getElem hi]
 exact ⟨World.block_lt_of_cell? W _ (hcell 0 (by decide)), hcell⟩
end Go.Proofs.YtdjhoadoiknaoaaDoor
