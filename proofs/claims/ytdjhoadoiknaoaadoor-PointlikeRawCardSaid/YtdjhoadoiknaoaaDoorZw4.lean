/- Part 4 of the proof: AppR, Byte1, Many, Many2. -/
import Derived.Test.YtdjhoadoiknaoaaDoorZw3
import Derived.Deep.RegionHeld3
import Derived.Deep.DrawnRows
set_option linter.unusedVariables false
set_option linter.unusedSimpArgs false
namespace Go.Proofs.YtdjhoadoiknaoaaDoor
open Go.RowKit
theorem run_append_of_nil {P : Program} {w : World} (base : Nat) (t ty e : TypeId) (i : TypeInfo) (size : Nat) (ht : P.underlying t = some (.slice e)) (hi : P.info? e = some i)
    (v : Value) (n : Nat) (xs : List Value) (hown : w.ownsRow base e size v n xs) (c : Nat) : (Builtin.append_ #[t, t] ty #[v, .slice none 0 c]).run P w = .ok v w := by
  rcases hown.2 with ⟨rfl, rfl⟩ | ⟨g, cap, cur, rfl, _, _, hnc, _⟩
  · simp [Builtin.append_, run_underlying ht, sizeOf, typeInfo, hi, Builtin.lenOf, Builtin.firstCells]
  · simp [Builtin.append_, run_underlying ht, sizeOf, typeInfo, hi, Builtin.lenOf, Builtin.firstCells, hnc, storeCells]
theorem owns_shape_n {w : World} {base e size n : Nat} {v : Value} {xs : List Value} (h : w.ownsRow base e size v n xs) : ∃ sa sc, v = .slice sa n sc := by
  rcases h.2 with ⟨rfl, rfl⟩ | ⟨g, cap, cur, rfl, _⟩
  · exact ⟨none, 0, rfl⟩
  · exact ⟨_, _, rfl⟩
theorem wp_appR {P : Program} {w : World} {o : Oper} {a : Act} {K : Act → World → Prop} {Q : Exit → Act → World → Prop} (s x : Operand) (t : TypeId)
    (ho : o.op = .call { callee := .builtin .append, args := #[s, x], argTypes := #[t, t] })
    {e : TypeId} {z : Value} {bytes : Nat} (E : ElemOk P t e z bytes) (base : Nat) (v : Value) (n : Nat) (xs : List Value) (hs : a.eval s = v) (hown : w.ownsRow base e 1 v n xs)
    (sv : Value) (news : List Value) (hx : a.eval x = sv) (hrow : ∃ B, Row B w sv news) (h1 : ∀ u ∈ news, u.oneCell' = true) (N : Nat) (hN : n + news.length = N) (h63 : N ≤ maxLen) (hbytes : N * bytes ≤ 140737488355328) (hbase : base ≤ w.heap.size)
    (h : ∀ sa sc w', w'.ownsRow base e 1 (.slice sa N sc) N (xs ++ news) → w.grownBy w' v.ownBlock → K (a.put o.dst (.slice sa N sc)) w') : o.wp P a w K Q := by
  obtain ⟨i, hi, hz, hsz, hby⟩ := info_parts E.hi
  subst hN
  have fin : ∀ v' w', w'.ownsRow base e 1 v' (n + news.length) (xs ++ news) → w.grownBy w' v.ownBlock → K (a.put o.dst v') w' := by
    intro v' w' h1 h2
    obtain ⟨sa, sc, rfl⟩ := owns_shape_n h1
    exact h sa sc w' h1 h2
  obtain ⟨B, hrow⟩ := hrow
  rcases hrow with ⟨a', cap, rfl, rfl⟩ | ⟨b, off, cap, rfl, _, h2, h3, hra⟩
  · cases a' with
    | none =>
      have hr := run_append_of_nil (P := P) (w := w) base t o.type e i 1 E.ht hi v n xs hown cap
      unfold Oper.wp execOp
      simp only [ho, resolve, invoke, builtin, Sem.run_bind, Sem.run_pure, Result.andThen_ok, List.map_toArray, List.map_cons, List.map_nil, hs, hx, hr]
      exact fin v w (by simpa using hown) (World.grownBy.refl w _)
    | some ad =>
      refine wp_append_own w s x t ho base e i z 1 bytes E.ht hi hz hsz hby E.hz (by decide) v n xs hs hown ad 0 cap [] hx rfl (fun j u hj => by simp at hj) (fun u hu => by simp at hu) h63 hbytes hbase ?_
      intro v' w' h1 h2 _
      exact fin v' w' h1 h2
  · refine wp_append_own w s x t ho base e i z 1 bytes E.ht hi hz hsz hby E.hz (by decide) v n xs hs hown ⟨b, off, none⟩ news.length cap news hx (by simp) (fun j u' hj => ?_) h1 h63 hbytes hbase ?_
    · have hjl : j < news.length := by
        rcases Nat.lt_or_ge j news.length with h | h
        · exact h
        · rw [List.getElem?_eq_none h] at hj; cases hj
      have hadd : (⟨b, off, none⟩ : Addr).add j = ⟨b, off + j, none⟩ := by unfold Addr.add; split <;> simp_all
      rw [List.getElem?_eq_getElem hjl] at hj
      rw [hadd, hra.2 j hjl, hj]
    · intro v' w' h1 h2 _
      exact fin v' w' h1 h2
theorem step_appR {P : Program} {ops : Array Oper} {w : World} {o : Oper} {a : Act} {K : Act → World → Prop} {Q : Exit → Act → World → Prop} {R : Prop} (hgd : o.guard = none) (s x : Operand) (t : TypeId)
    (ho : o.op = .call { callee := .builtin .append, args := #[s, x], argTypes := #[t, t] })
    {e : TypeId} {z : Value} {bytes : Nat} (E : ElemOk P t e z bytes) (base : Nat) (v : Value) (n : Nat) (xs : List Value) (hs : a.eval s = v) (hown : w.ownsRow base e 1 v n xs)
    (sv : Value) (news : List Value) (hx : a.eval x = sv) (hrow : ∃ B, Row B w sv news) (h1 : ∀ u ∈ news, u.oneCell' = true) (N : Nat) (hN : n + news.length = N) (h63 : N ≤ maxLen) (hbytes : N * bytes ≤ 140737488355328) (hbase : base ≤ w.heap.size)
    (h : ∀ sa sc w', w'.ownsRow base e 1 (.slice sa N sc) N (xs ++ news) → w.grownBy w' v.ownBlock → K (a.put o.dst (.slice sa N sc)) w') : if Region.wanted o (yielded ops a.tmps) = true then Oper.wp P o a w K Q else R := by
  have hw : Region.wanted o (yielded ops a.tmps) = true := by simp [Region.wanted, hgd]
  rw [if_pos hw]
  exact wp_appR s x t ho E base v n xs hs hown sv news hx hrow h1 N hN h63 hbytes hbase h
theorem appR {P : Program} {w : World} {ops : Array Oper} {rest : List Oper} {o : Oper} {a : Act} {Q : Exit → Act → World → Prop} (hgd : o.guard = none) (s x : Operand) (t : TypeId)
    (ho : o.op = .call { callee := .builtin .append, args := #[s, x], argTypes := #[t, t] })
    {e : TypeId} {z : Value} {bytes : Nat} (E : ElemOk P t e z bytes) (base : Nat) (v : Value) (n : Nat) (xs : List Value) (hs : a.eval s = v) (hown : w.ownsRow base e 1 v n xs)
    (sv : Value) (news : List Value) (hx : a.eval x = sv) (hrow : ∃ B, Row B w sv news) (h1 : ∀ u ∈ news, u.oneCell' = true) (N : Nat) (hN : n + news.length = N) (h63 : N ≤ maxLen) (hbytes : N * bytes ≤ 140737488355328) (hbase : base ≤ w.heap.size)
    (h : ∀ sa sc w', w'.ownsRow base e 1 (.slice sa N sc) N (xs ++ news) → w.grownBy w' v.ownBlock → wpList P ops Q rest (a.put o.dst (.slice sa N sc)) w') : wpList P ops Q (o :: rest) a w :=
  wpList_plain hgd fun _ hK => wp_appR s x t ho E base v n xs hs hown sv news hx hrow h1 N hN h63 hbytes hbase fun sa sc w' h2 h3 => hK _ _ (h sa sc w' h2 h3)
theorem owns_lit0 {W : World} {e base g : Nat} (h : W.heap[g]? = some (.cells #[] e (0, 0))) (hb : base ≤ g) : W.ownsRow base e 1 (.slice (some ⟨g, 0, none⟩) 0 0) 0 [] :=
  ⟨by simp, .inr ⟨g, 0, #[], rfl, hb, h, Nat.le_refl _, Nat.zero_le _, by simp, by simp⟩⟩
theorem heap_drew {W : World} {g : Nat} {o : Obj} (h : W.heap[g]? = some o) : W.drew.heap[g]? = some o := h
theorem first_kept (w : World) (o o' : Obj) : ((w.alloc o).alloc o').heap[w.heap.size]? = some o := block_kept (heap_alloc_new w o) (World.grownBy_alloc _ _ none) (by simp)
theorem new_second (w : World) (o o' : Obj) : ((w.alloc o).alloc o').heap[w.heap.size + 1]? = some o' := by
  have := heap_alloc_new (w.alloc o) o'
  rwa [alloc_size] at this
theorem RowAt.take {w : World} {b off : Nat} {xs : List Value} (h : RowAt w b off xs) (k : Nat) : RowAt w b off (xs.take k) :=
  ⟨h.1, fun i hi => by rw [List.length_take] at hi; rw [h.2 i (by omega), List.getElem_take]⟩
theorem RowAt.drop {w : World} {b off : Nat} {xs : List Value} (h : RowAt w b off xs) (k : Nat) : RowAt w b (off + k) (xs.drop k) :=
  ⟨h.1, fun i hi => by rw [List.length_drop] at hi; rw [Nat.add_assoc, h.2 (k + i) (by omega), List.getElem_drop]⟩
theorem row_one {W : World} {g e : Nat} {u : Value} {m : Nat × Nat} (h : W.heap[g]? = some (.cells #[u] e m)) : Row W.heap.size W (.slice (some ⟨g, 0, none⟩) 1 1) [u] :=
  .inr ⟨g, 0, 1, rfl, lt_of_block h, Nat.le_refl _, by unfold maxLen; omega, lt_of_block h, fun i hi => by
    have : i = 0 := by simpa using hi
    subst this
    simpa using cell_block h 0 (by simp)⟩
theorem nats_one (l : List Nat) : ∀ u ∈ nats l, u.oneCell' = true := by
  intro u hu
  obtain ⟨x, _, rfl⟩ := List.mem_map.1 hu
  rfl
end Go.Proofs.YtdjhoadoiknaoaaDoor
namespace Go.Proofs.YtdjhoadoiknaoaaDoor
open Go.RowKit
theorem run_byte1 {P : Program} {W : World} {g : Nat} {c : Int} (src e : TypeId) (hs : P.underlying src = some (.slice e)) (he : P.underlying e = some (.int .u8)) (dst : TypeId) (hd : P.underlying dst = some .string)
    (h : W.cell? ⟨g, 0, none⟩ = some (.int .u8 c)) : (convert src dst (.slice (some ⟨g, 0, none⟩) 1 1)).run P W = .ok (.string (strOfNums [c])) W := by
  refine run_convert_bytes_arg W src e hs he g 0 1 1 [c] rfl (fun i hi => ?_) dst hd
  have : i = 0 := by simp at hi; omega
  subst this
  simpa using h
end Go.Proofs.YtdjhoadoiknaoaaDoor
namespace Go.Proofs.YtdjhoadoiknaoaaDoor
open Go.RowKit
structure RowS where
  base : Nat
  e : TypeId
  v : Value
  n : Nat
  xs : List Value
  sz : Nat
structure GrownBut (w w' : World) (F : Nat → Prop) : Prop where
  os : w'.os = w.os
  tape : w'.tape = w.tape
  output : w'.output = w.output
  size : w.heap.size ≤ w'.heap.size
  block : ∀ k, k < w.heap.size → ¬ F k → w'.heap[k]? = w.heap[k]?
theorem GrownBut.refl (w : World) (F : Nat → Prop) : GrownBut w w F := ⟨rfl, rfl, rfl, Nat.le_refl _, fun _ _ _ => rfl⟩
theorem GrownBut.step {w w' w'' : World} {F : Nat → Prop} {row : Option Nat} (h : GrownBut w w' F) (hg : w'.grownBy w'' row) (hr : ∀ k, row = some k → F k ∨ w.heap.size ≤ k) : GrownBut w w'' F :=
  ⟨hg.os.trans h.os, hg.tape.trans h.tape, hg.output.trans h.output, Nat.le_trans h.size hg.size, fun k hk hf => by
    refine (hg.block k (Nat.lt_of_lt_of_le hk h.size) fun e => ?_).trans (h.block k hk hf)
    rcases hr k e.symm with h | h
    · exact hf h
    · omega⟩
theorem GrownBut.grown {w0 w w' : World} {F : Nat → Prop} {row : Option Nat} (h : GrownBut w w' F) (h0 : w0.grownBy w row) (hF : ∀ k, F k → row = some k ∨ w0.heap.size ≤ k) : w0.grownBy w' row :=
  ⟨h.os.trans h0.os, h.tape.trans h0.tape, h.output.trans h0.output, Nat.le_trans h0.size h.size, fun k hk hne => by
    refine (h.block k (Nat.lt_of_lt_of_le hk h0.size) fun hf => ?_).trans (h0.block k hk hne)
    rcases hF k hf with e | e
    · exact hne e.symm
    · omega⟩
theorem GrownBut.cell {w w' : World} {F : Nat → Prop} (h : GrownBut w w' F) {p : Addr} {u : Value} (hc : w.cell? p = some u) (hf : ¬ F p.block) : w'.cell? p = some u :=
  (World.cell?_of_block (h.block p.block (World.block_lt_of_cell? w p hc) hf)).trans hc
theorem GrownBut.heap {w w' : World} {F : Nat → Prop} (h : GrownBut w w' F) {p : Nat} {o : Obj} (hc : w.heap[p]? = some o) (hf : ¬ F p) : w'.heap[p]? = some o :=
  (h.block p (lt_of_block hc) hf).trans hc
section
variable {w0 W : World} {F : Nat → Prop} {rs : List RowS} {ls : List (Nat × Obj)} {ps : List (Nat × TypeId × List Value)}
theorem own_lt {w : World} {base e n sz : Nat} {v : Value} {xs : List Value} (h : w.ownsRow base e sz v n xs) {k : Nat} (hk : v.ownBlock = some k) : k < w.heap.size := (h.lt k hk).2
theorem ownsRow_keptN {w w' : World} {base e sz : Nat} {v : Value} {n : Nat} {xs : List Value} (h : w.ownsRow base e sz v n xs) (hg : w.grownBy w' none) : w'.ownsRow base e sz v n xs := by
  refine h.kept hg ?_
  rcases hv : v.ownBlock with _ | k
  · exact .inl rfl
  · exact .inr (by simp)
end
end Go.Proofs.YtdjhoadoiknaoaaDoor
namespace Go.Proofs.YtdjhoadoiknaoaaDoor
open Go.RowKit
def SrcRow (w : World) (sz : Nat) (sv : Value) (m : Nat) (news : List Value) : Prop :=
  (∃ a cap, sv = .slice a 0 cap ∧ m = 0 ∧ news = []) ∨ ∃ b off cap, sv = .slice (some ⟨b, off, none⟩) m cap ∧ news.length = m * sz ∧ m ≤ maxLen ∧ ∀ j u, news[j]? = some u → w.cell? ⟨b, off + j, none⟩ = some u
theorem Row.src {B : Nat} {w : World} {v : Value} {xs : List Value} (h : Row B w v xs) : SrcRow w 1 v xs.length xs := by
  rcases h with ⟨a, cap, rfl, rfl⟩ | ⟨b, off, cap, rfl, _, h2, h3, hra⟩
  · exact .inl ⟨a, cap, rfl, rfl, rfl⟩
  · refine .inr ⟨b, off, cap, rfl, by omega, by omega, fun j u hj => ?_⟩
    have hjl : j < xs.length := by
      rcases Nat.lt_or_ge j xs.length with h | h
      · exact h
      · rw [List.getElem?_eq_none h] at hj; cases hj
    rw [List.getElem?_eq_getElem hjl] at hj
    rw [hra.2 j hjl, hj]
section
variable {w0 W W' : World} {F : Nat → Prop} {rs : List RowS} {ls ls' : List (Nat × Obj)} {ps : List (Nat × TypeId × List Value)}
end
section
variable {P : Program} {md : Region.Mode} {ops : Array Oper} {Q : Exit → Act → World → Prop} {G : Array Bool → World → Prop}
end
end Go.Proofs.YtdjhoadoiknaoaaDoor
