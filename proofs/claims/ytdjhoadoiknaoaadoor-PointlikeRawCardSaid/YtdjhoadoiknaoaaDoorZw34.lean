/- Part 34 of the proof: App5, StepsO, Valid01. -/
import Derived.Test.YtdjhoadoiknaoaaDoorZw33
set_option linter.unusedVariables false
set_option linter.unusedSimpArgs false
namespace Go.Proofs.YtdjhoadoiknaoaaDoor
open Go.RowKit
def StepV.vals (x : StepV) : List Value := [.int .i64 x.op, .int .i64 x.a, .int .i64 x.b, .string x.word, .int .i64 x.set]
def stepVals (ss : List StepV) : List Value := ss.flatMap StepV.vals
theorem stepVals_snoc (ss : List StepV) (x : StepV) : stepVals (ss ++ [x]) = stepVals ss ++ x.vals := by simp [stepVals]
structure Elem5 (P : Program) (t e : TypeId) (z : Value) (bytes : Nat) : Prop where
  ht : P.underlying t = some (.slice e)
  hi : (P.info? e).map (fun i => (i.zero, i.size, i.bytes)) = some (some z, 5, bytes)
  hz : z.cells.size = 5
theorem elem_step : ∃ z bytes, Elem5 Tryd.prog 56 60 z bytes ∧ bytes ≤ 64 := ⟨.agg #[.int .i64 0, .int .i64 0, .int .i64 0, .string ByteArray.empty, .int .i64 0], 48, ⟨by kernel_rfl, by kernel_rfl, by rfl⟩, by decide⟩
theorem wp_app5 {P : Program} {w : World} {o : Oper} {a : Act} {K : Act → World → Prop} {Q : Exit → Act → World → Prop} (s x : Operand) (t : TypeId)
    (ho : o.op = .call { callee := .builtin .append, args := #[s, x], argTypes := #[t, t] })
    {e : TypeId} {z : Value} {bytes : Nat} (E : Elem5 P t e z bytes) (base : Nat) (v : Value) (n : Nat) (xs : List Value) (hs : a.eval s = v) (hown : w.ownsRow base e 5 v n xs)
    (st : StepV) (g : Nat) (hx : a.eval x = .slice (some ⟨g, 0, none⟩) 1 1) (m : Nat × Nat) (hg : w.heap[g]? = some (.cells #[.int .i64 st.op, .int .i64 st.a, .int .i64 st.b, .string st.word, .int .i64 st.set] e m)) (h63 : n + 1 ≤ maxLen) (hbytes : (n + 1) * bytes ≤ 140737488355328) (hbase : base ≤ w.heap.size)
    (h : ∀ sa sc w', w'.ownsRow base e 5 (.slice sa (n + 1) sc) (n + 1) (xs ++ st.vals) → w.grownBy w' v.ownBlock → K (a.put o.dst (.slice sa (n + 1) sc)) w') : o.wp P a w K Q := by
  obtain ⟨i, hi, hz, hsz, hby⟩ := info_parts E.hi
  refine wp_append_own w s x t ho base e i z 5 bytes E.ht hi hz hsz hby E.hz (by decide) v n xs hs hown ⟨g, 0, none⟩ 1 1 st.vals hx rfl (fun j u' hj => ?_) (fun u hu => ?_) h63 hbytes hbase ?_
  · have hjl : j < 5 := by
      rcases Nat.lt_or_ge j 5 with h | h
      · exact h
      · rw [List.getElem?_eq_none (by simpa [StepV.vals] using h)] at hj; cases hj
    have hadd : (⟨g, 0, none⟩ : Addr).add j = ⟨g, j, none⟩ := by unfold Addr.add; split <;> simp_all
    rw [hadd, cell_block hg j (by simpa using hjl)]
    match j, hjl, hj with
    | 0, _, hj => simpa [StepV.vals] using hj
    | 1, _, hj => simpa [StepV.vals] using hj
    | 2, _, hj => simpa [StepV.vals] using hj
    | 3, _, hj => simpa [StepV.vals] using hj
    | 4, _, hj => simpa [StepV.vals] using hj
  · simp [StepV.vals] at hu
    rcases hu with rfl | rfl | rfl | rfl | rfl <;> rfl
  · intro v' w' h1 h2 _
    obtain ⟨sa, sc, rfl⟩ := owns_shape_n h1
    exact h sa sc w' h1 h2
theorem step_app5 {P : Program} {ops : Array Oper} {w : World} {o : Oper} {a : Act} {K : Act → World → Prop} {Q : Exit → Act → World → Prop} {R : Prop} (hgd : o.guard = none) (s x : Operand) (t : TypeId)
    (ho : o.op = .call { callee := .builtin .append, args := #[s, x], argTypes := #[t, t] })
    {e : TypeId} {z : Value} {bytes : Nat} (E : Elem5 P t e z bytes) (base : Nat) (v : Value) (n : Nat) (xs : List Value) (hs : a.eval s = v) (hown : w.ownsRow base e 5 v n xs)
    (st : StepV) (g : Nat) (hx : a.eval x = .slice (some ⟨g, 0, none⟩) 1 1) (m : Nat × Nat) (hg : w.heap[g]? = some (.cells #[.int .i64 st.op, .int .i64 st.a, .int .i64 st.b, .string st.word, .int .i64 st.set] e m)) (h63 : n + 1 ≤ maxLen) (hbytes : (n + 1) * bytes ≤ 140737488355328) (hbase : base ≤ w.heap.size)
    (h : ∀ sa sc w', w'.ownsRow base e 5 (.slice sa (n + 1) sc) (n + 1) (xs ++ st.vals) → w.grownBy w' v.ownBlock → K (a.put o.dst (.slice sa (n + 1) sc)) w') : if Region.wanted o (yielded ops a.tmps) = true then Oper.wp P o a w K Q else R := by
  have hw : Region.wanted o (yielded ops a.tmps) = true := by simp [Region.wanted, hgd]
  rw [if_pos hw]
  exact wp_app5 s x t ho E base v n xs hs hown st g hx m hg h63 hbytes hbase h
theorem stepVals_get : ∀ (ss : List StepV) (i c : Nat), i < ss.length → c < 5 → (stepVals ss)[i * 5 + c]? = (ss.getD i default).vals[c]?
  | [], i, c, hi, _ => by simp at hi
  | x :: ss, 0, c, _, hc => by
    show (x.vals ++ stepVals ss)[0 * 5 + c]? = _
    rw [List.getElem?_append_left (by simp [StepV.vals]; omega)]
    simp
  | x :: ss, i + 1, c, hi, hc => by
    show (x.vals ++ stepVals ss)[(i + 1) * 5 + c]? = _
    rw [List.getElem?_append_right (by simp [StepV.vals]; omega), show (i + 1) * 5 + c - x.vals.length = i * 5 + c from by simp [StepV.vals]; omega, stepVals_get ss i c (by simpa using hi) hc]
    simp
theorem StepsAt.of_owns {w : World} {base e n g cap : Nat} {ss : List StepV} (h : w.ownsRow base e 5 (.slice (some ⟨g, 0, none⟩) n cap) n (stepVals ss)) : StepsAt w g ss := by
  have hadd : ∀ j, (⟨g, 0, none⟩ : Addr).add j = ⟨g, j, none⟩ := fun j => by unfold Addr.add; split <;> simp_all
  have key : ∀ i c u, i < ss.length → c < 5 → (ss.getD i default).vals[c]? = some u → w.cell? ⟨g, i * 5 + c, none⟩ = some u := fun i c u hi hc hu => by
    have := h.cells (g := g) rfl (i * 5 + c) u (by rw [stepVals_get ss i c hi hc]; exact hu)
    rwa [hadd] at this
  exact ⟨(h.lt g rfl).2, fun i hi => key i 0 _ hi (by omega) rfl, fun i hi => key i 1 _ hi (by omega) rfl, fun i hi => key i 2 _ hi (by omega) rfl, fun i hi => key i 3 _ hi (by omega) rfl, fun i hi => key i 4 _ hi (by omega) rfl⟩
end Go.Proofs.YtdjhoadoiknaoaaDoor
namespace Go.Proofs.YtdjhoadoiknaoaaDoor
open Go.RowKit
structure StepsO (w : World) (g off : Nat) (ss : List StepV) : Prop where
  lt : g < w.heap.size
  op : ∀ i, i < ss.length → w.cell? ⟨g, off + i * 5, none⟩ = some (.int .i64 (ss.getD i default).op)
  a : ∀ i, i < ss.length → w.cell? ⟨g, off + i * 5 + 1, none⟩ = some (.int .i64 (ss.getD i default).a)
  b : ∀ i, i < ss.length → w.cell? ⟨g, off + i * 5 + 2, none⟩ = some (.int .i64 (ss.getD i default).b)
  word : ∀ i, i < ss.length → w.cell? ⟨g, off + i * 5 + 3, none⟩ = some (.string (ss.getD i default).word)
  set : ∀ i, i < ss.length → w.cell? ⟨g, off + i * 5 + 4, none⟩ = some (.int .i64 (ss.getD i default).set)
theorem StepsO.kept {w w' : World} {g off : Nat} {ss : List StepV} {row : Option Nat} (h : StepsO w g off ss) (hg : w.grownBy w' row) (hr : row ≠ some g) : StepsO w' g off ss := by
  have hb := hg.block g h.lt (fun e => hr e.symm)
  exact ⟨Nat.lt_of_lt_of_le h.lt hg.size, fun i hi => (World.cell?_of_block hb).trans (h.op i hi), fun i hi => (World.cell?_of_block hb).trans (h.a i hi), fun i hi => (World.cell?_of_block hb).trans (h.b i hi), fun i hi => (World.cell?_of_block hb).trans (h.word i hi), fun i hi => (World.cell?_of_block hb).trans (h.set i hi)⟩
theorem StepsO.of_at {w : World} {g : Nat} {ss : List StepV} (h : StepsAt w g ss) : StepsO w g 0 ss :=
  ⟨h.lt, fun i hi => by rw [Nat.zero_add]; exact h.op i hi, fun i hi => by rw [Nat.zero_add]; exact h.a i hi, fun i hi => by rw [Nat.zero_add]; exact h.b i hi, fun i hi => by rw [Nat.zero_add]; exact h.word i hi, fun i hi => by rw [Nat.zero_add]; exact h.set i hi⟩
def SRow (B : Nat) (w : World) (v : Value) (ss : List StepV) : Prop :=
  (∃ a cap, v = .slice a 0 cap ∧ ss = []) ∨ ∃ b off cap, v = .slice (some ⟨b, off, none⟩) ss.length cap ∧ b < B ∧ ss.length ≤ cap ∧ cap ≤ maxLen ∧ StepsO w b off ss
theorem SRow.kept {B : Nat} {w w' : World} {v : Value} {ss : List StepV} {row : Option Nat} (h : SRow B w v ss) (hg : w.grownBy w' row) (hr : ∀ k, row = some k → B ≤ k) : SRow B w' v ss := by
  rcases h with h | ⟨b, off, cap, h1, h2, h3, h4, h5⟩
  · exact .inl h
  · exact .inr ⟨b, off, cap, h1, h2, h3, h4, h5.kept hg (fun e => by have := hr b e; omega)⟩
theorem SRow.mono {B B' : Nat} {w : World} {v : Value} {ss : List StepV} (h : SRow B w v ss) (hB : B ≤ B') : SRow B' w v ss := by
  rcases h with h | ⟨b, off, cap, h1, h2, h3⟩
  · exact .inl h
  · exact .inr ⟨b, off, cap, h1, by omega, h3⟩
theorem SRow.shape {B : Nat} {w : World} {v : Value} {ss : List StepV} (h : SRow B w v ss) : ∃ a c, v = .slice a ss.length c := by
  rcases h with ⟨a, c, rfl, rfl⟩ | ⟨b, off, cap, rfl, _⟩
  · exact ⟨a, c, rfl⟩
  · exact ⟨_, _, rfl⟩
theorem SRow.some_ {B : Nat} {w : World} {v : Value} {ss : List StepV} (h : SRow B w v ss) (hp : 0 < ss.length) : ∃ b off cap, v = .slice (some ⟨b, off, none⟩) ss.length cap ∧ b < B ∧ ss.length ≤ cap ∧ cap ≤ maxLen ∧ StepsO w b off ss := by
  rcases h with ⟨a, c, rfl, rfl⟩ | h
  · simp at hp
  · exact h
theorem SRow.len_le {B : Nat} {w : World} {v : Value} {ss : List StepV} (h : SRow B w v ss) : ss.length ≤ maxLen := by
  rcases h with ⟨a, c, rfl, rfl⟩ | ⟨b, off, cap, rfl, h1, h2, h3, _⟩
  · exact Nat.zero_le _
  · omega
theorem SRow.of_owns {w : World} {base e : Nat} {v : Value} {n : Nat} {ss : List StepV} (h : w.ownsRow base e 5 v n (stepVals ss)) (hl : ss.length = n) : SRow w.heap.size w v ss := by
  obtain ⟨sa, sc, rfl⟩ := owns_shape_n h
  rcases id h.2 with ⟨e1, e2⟩ | ⟨g, cap, cur, e1, hb, hg, hnc, hcm, hcs, htake⟩
  · simp only [Value.slice.injEq] at e1
    obtain ⟨rfl, rfl, rfl⟩ := e1
    exact .inl ⟨_, _, rfl, List.eq_nil_of_length_eq_zero hl⟩
  · simp only [Value.slice.injEq] at e1
    obtain ⟨rfl, _, rfl⟩ := e1
    subst hl
    exact .inr ⟨g, 0, sc, rfl, lt_of_block hg, hnc, hcm, StepsO.of_at (StepsAt.of_owns h)⟩
def walkV (t : List (List Int)) (im : List Int) (x : Nat) (l : List UInt8) : Nat := l.foldl (fun x c => entN t x (im.getD (c.toNat - 97) 0).toNat) x
theorem walkV_snoc (t : List (List Int)) (im : List Int) (x : Nat) (l : List UInt8) (c : UInt8) : walkV t im x (l ++ [c]) = entN t (walkV t im x l) (im.getD (c.toNat - 97) 0).toNat := by simp [walkV, List.foldl_append]
def oneN (t : List (List Int)) : Nat := (identI t).toNat
def befB (a : Int) (i : Nat) : Bool := decide (0 ≤ a ∧ a < i)
def stepB (t : List (List Int)) (im : List Int) (ss : List StepV) (i : Nat) : Bool :=
  let s := ss.getD i default
  if s.op = 1 then decide (s.a = 0) && decide (s.b = 0) && wordValid s.word im.length && decide (s.set = ((2 ^ walkV t im (oneN t) s.word.data.toList : Nat) : Int))
  else if s.op = 2 then s.word.toList.isEmpty && befB s.a i && befB s.b i && decide (s.set = ((prodSet t.length (entN t) (ss.getD s.a.toNat default).set.toNat (ss.getD s.b.toNat default).set.toNat : Nat) : Int))
  else if s.op = 3 then s.word.toList.isEmpty && befB s.a i && decide (s.b = 0) && decide (s.set = ((omegaSet t.length (entN t) (ss.getD s.a.toNat default).set.toNat : Nat) : Int))
  else false
def stepsTo (t : List (List Int)) (im : List Int) (ss : List StepV) (k : Nat) : Prop := ∀ i, i < k → stepB t im ss i = true
noncomputable def derB (t : List (List Int)) (im : List Int) (ss : List StepV) : Bool := decide (checkE t im = 0) && decide (0 < ss.length) && (List.range ss.length).all (stepB t im ss)
theorem derB_check {t : List (List Int)} {im : List Int} {ss : List StepV} (h : checkE t im ≠ 0) : derB t im ss = false := by simp [derB, h]
theorem derB_nil {t : List (List Int)} {im : List Int} {ss : List StepV} (h : ss.length = 0) : derB t im ss = false := by simp [derB, h]
theorem derB_no {t : List (List Int)} {im : List Int} {ss : List StepV} {k : Nat} (hk : k < ss.length) (h : stepB t im ss k = false) : derB t im ss = false := by
  have : (List.range ss.length).all (stepB t im ss) = false := by
    rw [List.all_eq_false]; exact ⟨k, List.mem_range.2 hk, by simp [h]⟩
  simp [derB, this]
theorem derB_yes {t : List (List Int)} {im : List Int} {ss : List StepV} (h : checkE t im = 0) (h0 : 0 < ss.length) (hs : stepsTo t im ss ss.length) : derB t im ss = true := by
  have : (List.range ss.length).all (stepB t im ss) = true := by
    rw [List.all_eq_true]; exact fun i hi => hs i (List.mem_range.1 hi)
  simp [derB, this, h, h0]
theorem stepsTo_snoc {t : List (List Int)} {im : List Int} {ss : List StepV} {k : Nat} (h : stepsTo t im ss k) (hk : stepB t im ss k = true) : stepsTo t im ss (k + 1) := fun i hi => by
  rcases Nat.lt_succ_iff_lt_or_eq.1 hi with hi | rfl
  · exact h i hi
  · exact hk
theorem walkV_lt {t : List (List Int)} {im : List Int} (hg : Good t im) : ∀ (l : List UInt8) (x : Nat), (∀ c ∈ l, okByte im.length c = true) → x < t.length → walkV t im x l < t.length
  | [], x, _, hx => hx
  | c :: l, x, hl, hx => by
    have hs := (valid_of hg.valid).1
    have hc := hl c (by simp)
    simp only [okByte, decide_eq_true_eq] at hc
    have h1 := inB_iff.1 hg.inb (c.toNat - 97) (by omega)
    exact walkV_lt hg l _ (fun d hd => hl d (by simp [hd])) (entN_lt hs hx (by omega))
theorem oneN_lt {t : List (List Int)} {im : List Int} (hg : Good t im) : oneN t < t.length ∧ identI t = (oneN t : Nat) := by
  obtain ⟨e, h1, h2, _⟩ := hg.ident
  have : oneN t = e := by rw [oneN, h1]; rfl
  exact ⟨by omega, by rw [this, h1]⟩
theorem befB_iff {a : Int} {i : Nat} : befB a i = true ↔ 0 ≤ a ∧ a < i := by simp [befB]
theorem step_set {t : List (List Int)} {im : List Int} {ss : List StepV} (hg : Good t im) {k : Nat} (h : stepsTo t im ss k) : ∀ i, i < k → 0 ≤ (ss.getD i default).set ∧ (ss.getD i default).set < ((2 ^ t.length : Nat) : Int) := by
  have hT := tb_of hg.valid
  intro i
  induction i using Nat.strongRecOn with
  | ind i ih =>
    intro hi
    have key : ∀ n : Nat, n < 2 ^ t.length → (ss.getD i default).set = (n : Int) → 0 ≤ (ss.getD i default).set ∧ (ss.getD i default).set < ((2 ^ t.length : Nat) : Int) := fun n h1 h2 => by omega
    have h := h i hi
    simp only [stepB] at h
    split at h
    · simp only [Bool.and_eq_true, decide_eq_true_eq] at h
      refine key _ ?_ h.2
      have hw := h.1.2
      simp only [wordValid, Bool.and_eq_true, List.all_eq_true] at hw
      exact Nat.pow_lt_pow_right (by omega) (walkV_lt hg _ _ hw.2 (oneN_lt hg).1)
    split at h
    · simp only [Bool.and_eq_true, decide_eq_true_eq] at h
      exact key _ (prodSet_lt hT.lt _ _) h.2
    split at h
    · simp only [Bool.and_eq_true, decide_eq_true_eq] at h
      obtain ⟨⟨⟨_, h2⟩, _⟩, h4⟩ := h
      have hb := befB_iff.1 h2
      have := ih (ss.getD i default).a.toNat (by omega) (by omega)
      exact key _ (omegaSet_lt hT (by omega)) h4
    · simp at h
end Go.Proofs.YtdjhoadoiknaoaaDoor
namespace Go.Proofs.YtdjhoadoiknaoaaDoor
open Go.RowKit
set_option maxHeartbeats 400000 in
theorem valid01_any (s : ByteArray) (letters : Int) (w : World) (hs : s.size ≤ maxLen) :
    Calls Tryd.prog 70 #[.string s, .int .i64 letters] w fun e w' => e = .returned (.bool (wordValid s letters)) ∧ w = w' := by
  unfold maxLen at hs
  by_cases h1 : ¬ (1 ≤ letters ∧ letters ≤ 6)
  · have e1 : decide (1 ≤ letters ∧ letters ≤ 6) = false := decide_eq_false h1
    go_enter Tryd.func70, Tryd.ntmps70
    go_wp2_with fail
    refine (mayLetters_any w letters).mono ?_
    rintro e w' ⟨rfl, rfl⟩
    rw [e1]
    go_wp2
    go_ret
    exact ⟨ret_bool (by simp [wordValid]; omega), rfl⟩
  have e1 : decide (1 ≤ letters ∧ letters ≤ 6) = true := by simpa using h1
  by_cases h3 : 2048 < s.size
  · go_enter Tryd.func70, Tryd.ntmps70
    go_wp2_with fail
    refine (mayLetters_any w letters).mono ?_
    rintro e w' ⟨rfl, rfl⟩
    rw [e1]
    go_wp2
    go_ret
    exact ⟨ret_bool (by simp [wordValid]; omega), rfl⟩
  go_enter Tryd.func70, Tryd.ntmps70
  go_wp2_with fail
  refine (mayLetters_any w letters).mono ?_
  rintro e w' ⟨rfl, rfl⟩
  rw [e1]
  go_wp2
  go_loop [5] (fun i => ∃ k : Nat, k ≤ s.size ∧ i = .int .i64 k ∧ (s.data.toList.take k).all (okByte letters) = true) (fun i => s.size - (intOf i).toNat)
  case atStart => exact ⟨0, Nat.zero_le _, rfl, rfl⟩
  case round =>
    obtain ⟨k, hk, rfl, hall⟩ := hrel
    have HA := Lib.hid hall; clear hall
    by_cases hlt : k < s.size
    · go_wp2
      · go_ret
        exact ⟨ret_bool (by rw [eq_comm]; exact wordValid_no s letters k hlt (by omega)), rfl⟩
      · go_round
        case rel => exact ⟨k + 1, by omega, by go_num, all_succ s letters k hlt HA.out (by omega)⟩
        case measure => simp [intOf]; omega
      · go_ret
        exact ⟨ret_bool (by rw [eq_comm]; exact wordValid_no s letters k hlt (by omega)), rfl⟩
    · go_wp2
      go_ret
      exact ⟨ret_bool (by rw [eq_comm]; exact wordValid_yes s letters k (by omega) (by omega) HA.out), rfl⟩
end Go.Proofs.YtdjhoadoiknaoaaDoor
