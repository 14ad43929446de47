/- Part 11 of the proof: Access. -/
import Derived.Test.YtgbfaggnnfoamaaZi10
import Derived.Laws.Concat
set_option linter.unusedVariables false
set_option linter.unusedSimpArgs false
namespace Go.Proofs.Ytgbfaggnnfoamaa
open Go.RowKit
theorem elem_string : ElemOk Try.prog 34 9 (.string ⟨#[]⟩) 16 := ⟨Try.underlying34, by kernel_rfl, rfl⟩
def metL (n : Nat) (l : List Nat) : List Bool := (List.range n).map fun q => decide (q ∈ l)
theorem uX (n : Nat) (l : List Nat) : (metL n l).length = n := by simp [metL]
theorem metL_get {n : Nat} {l : List Nat} {q : Nat} (h : q < n) : (metL n l).getD q false = decide (q ∈ l) := by
 rw [zI (by rw [uX]; exact h)]; simp [metL]
theorem metL_set {n : Nat} {l : List Nat} {q : Nat} : (metL n l).set q true = metL n (l ++ [q]) := by
 refine List.ext_getElem (by simp [metL]) fun i h1 h2 => ?_
 rw [List.getElem_set]
 simp only [metL, List.getElem_map, List.getElem_range, List.mem_append, List.mem_singleton]
 by_cases e : q = i
 ·subst e; simp
 ·rw [if_neg e]; congr 1; simp [Ne.symm e]
theorem metL_nil (n : Nat) : metL n [] = List.replicate n false := by
 refine List.ext_getElem (by simp [metL]) fun i h1 h2 => by simp [metL]
def lB (ws : List ByteArray) : Prop := ∀ j, j < ws.length → (ws.getD j ⟨#[]⟩).size ≤ j
def strV (ws : List ByteArray) : List Value := ws.map Value.string
theorem lB.snoc {ws : List ByteArray} {x : ByteArray} (h : lB ws) (hx : x.size ≤ ws.length) : lB (ws ++ [x]) := by
 intro j hj
 rw [List.length_append, List.length_singleton] at hj
 by_cases h1 : j < ws.length
 ·have := h j h1
  simpa [List.getD, List.getElem?_append_left h1] using this
 ·have : j = ws.length := by omega
  subst this
  simpa [List.getD] using hx
theorem strV_snoc (ws : List ByteArray) (x : ByteArray) : strV (ws ++ [x]) = strV ws ++ [.string x] := by simp [strV]
def AccOk (w : World) (l : List Nat) (e : Ending) (w' : World) : Prop :=
 ∃ (sa : Option Addr) (sc : Nat) (v : Value), e = .returned (.tuple #[.slice sa l.length sc, v]) ∧ w'.ownsRow w.heap.size 3 1 (.slice sa l.length sc) l.length (nats l) ∧ w.grownBy w' none
inductive acc13I (P sa sb sc sd s a1 i0 : Nat) (m : List Nat) (ws : List ByteArray) (u X : ByteArray) (F : Nat → Prop) (w5 : World) (a0 : Act) (l : Array Bool) (a : Act) (w : World) : Prop
 | mk (x55 : Value) (x56 : Value) (x65 : Value) (x66 : Value) (x67 : Value) (x68 : Value) (x69 : Value) (x4 : Value) (x5 : Value) (vA : Value) (nA : Nat) (xA : List Value) (vB : Value) (nB : Nat) (xB : List Value) (ls : List (Nat × Obj)) (ha : a = xP a0 [(55, x55), (56, x56), (65, x65), (66, x66), (67, x67), (68, x68), (69, x69), (4, x4), (5, x5)]) (HR : ∀ j ∈ [0, 1, 4, 5, 6, 7, 8, 9, 10, 11], l.getD j true = true) (H2 : Hid (l.getD 2 true = true → ∃ g, x55 = .slice (some ⟨g, 0, none⟩) 1 1 ∧ (g, Obj.cells #[Value.int .i64 (s : Int)] 3 (0, 0)) ∈ ls)) (H3n : Hid (l.getD 3 true = false → vA = .slice (some ⟨sa, 0, none⟩) m.length sc ∧ m.length = nA ∧ xA = nats m)) (H3 : Hid (l.getD 3 true = true → ∃ ra rc, vA = .slice ra (m.length + 1) rc ∧ x56 = .slice ra (m.length + 1) rc ∧ nA = m.length + 1 ∧ xA = nats m ++ [Value.int .i64 (s : Int)])) (H12 : Hid (l.getD 12 true = true → ∃ g, x65 = .slice (some ⟨g, 0, none⟩) 1 1 ∧ (g, Obj.cells #[Value.int .u8 (97 + (a1 : Int))] 5 (0, 0)) ∈ ls)) (H13 : Hid (l.getD 13 true = true → x66 = .string X)) (H14 : Hid (l.getD 14 true = true → x67 = .string (u ++ X))) (H15 : Hid (l.getD 15 true = true → ∃ g, x68 = .slice (some ⟨g, 0, none⟩) 1 1 ∧ (g, Obj.cells #[Value.string (u ++ X)] 9 (0, 0)) ∈ ls)) (H16n : Hid (l.getD 16 true = false → vB = .slice (some ⟨sb, 0, none⟩) m.length sd ∧ m.length = nB ∧ xB = strV ws)) (H16 : Hid (l.getD 16 true = true → l.getD 3 true = true ∧ ∃ ra rc, vB = .slice ra (m.length + 1) rc ∧ x69 = .slice ra (m.length + 1) rc ∧ nB = m.length + 1 ∧ xB = strV ws ++ [Value.string (u ++ X)])) (H17 : Hid (l.getD 17 true = true → l.getD 3 true = true ∧ x4 = x56)) (H18 : Hid (l.getD 18 true = true → l.getD 16 true = true ∧ x5 = x69)) (HM : (Many w5 F w [⟨P, 3, vA, nA, xA, 1⟩, ⟨P, 9, vB, nB, xB, 1⟩] ls [(sb, 9, strV ws)]))
theorem acc13_G {P sa sb sc sd s a1 i0 : Nat} {m : List Nat} {ws : List ByteArray} {u X : ByteArray} {F : Nat → Prop} {w5 : World} {a0 : Act} {l : Array Bool} {a : Act} {w : World} (hpre : ∀ W rs ls, Many w5 F W rs ls [(sb, 9, strV ws)] → W.cell? ⟨sb, i0, none⟩ = some (.string u)) (h : acc13I P sa sb sc sd s a1 i0 m ws u X F w5 a0 l a w) : tY 99 (fun W => W.cell? ⟨sb, i0, none⟩ = some (.string u)) (fun W => W.cell? ⟨sb, i0, none⟩ = some (.string u)) l w := by
 obtain ⟨x55, x56, x65, x66, x67, x68, x69, x4, x5, vA, nA, xA, vB, nB, xB, ls, ha, HR, H2, H3n, H3, H12, H13, H14, H15, H16n, H16, H17, H18, HM⟩ := h
 exact ⟨hpre w _ _ HM, fun _ => hpre w _ _ HM⟩
theorem tR {P sa sb sc sd s a1 i0 : Nat} {m : List Nat} {ws : List ByteArray} {u X : ByteArray} {F : Nat → Prop} {w5 : World} {a0 : Act} {l : Array Bool} {a : Act} {w : World} (h : acc13I P sa sb sc sd s a1 i0 m ws u X F w5 a0 l a w) : ∀ j ∈ [0, 1, 4, 5, 6, 7, 8, 9, 10, 11], l.getD j true = true := by
 obtain ⟨x55, x56, x65, x66, x67, x68, x69, x4, x5, vA, nA, xA, vB, nB, xB, ls, ha, HR, H2, H3n, H3, H12, H13, H14, H15, H16n, H16, H17, H18, HM⟩ := h
 exact HR
set_option maxRecDepth 100000 in
set_option maxHeartbeats 8000000 in
theorem acc13_steps {P sa sb sc sd s a1 i0 : Nat} {m : List Nat} {ws : List ByteArray} {u X : ByteArray} {F : Nat → Prop} {w5 : World} {v0 v1 v2 v3 v4 v5 v6 v7 v8 v9 v10 v11 v12 v13 v14 v15 v16 v17 v18 v19 v20 v21 v22 v23 v24 v25 v26 v27 v28 v29 v30 v31 v32 v33 v34 v35 v36 v37 v38 v39 v40 v41 v42 v43 v44 v45 v46 v47 v48 v49 v50 v51 v52 v55 v56 v65 v66 v67 v68 v69 v70 v71 : Value} {dd : _} {a0 : Act} (ha0 : a0 = ⟨#[v0, v1, v2, v3, v4, v5, v6, v7, v8, v9, v10, v11, v12, v13, v14, v15, v16, v17, v18, v19, v20, v21, v22, v23, v24, v25, v26, v27, v28, v29, v30, v31, v32, v33, v34, v35, v36, v37, v38, v39, v40, v41, v42, v43, v44, v45, v46, v47, v48, v49, v50, v51, v52, .slice (some ⟨sa, 0, none⟩) m.length sc, .int .i64 (s : Int), v55, v56, .slice (some ⟨sb, 0, none⟩) m.length sd, .slice (some ⟨sb, 0, none⟩) m.length sd, .int .i64 (i0 : Int), .pointer (some ⟨sb, i0, none⟩), .string u, .int .i64 (a1 : Int), .int .i64 (97 + (a1 : Int)), .int .u8 (97 + (a1 : Int)), v65, v66, v67, v68, v69, v70, v71], dd⟩) (hml : m.length ≤ 4194304) (hbase : P ≤ w5.heap.size) (hcv : ∀ (W : World) (g : Nat), W.cell? ⟨g, 0, none⟩ = some (.int .u8 (97 + (a1 : Int))) → (convert 64 9 (.slice (some ⟨g, 0, none⟩) 1 1)).run Try.prog W = .ok (.string X) W) (hcc : ∀ W : World, (Op.stringOp .add u X).run Try.prog W = .ok (.string (u ++ X)) W) (ops7 : Array Oper) (Q7 : Exit → Act → World → Prop) : lD (StepOk Try.prog .any ops7 Q7 (acc13I P sa sb sc sd s a1 i0 m ws u X F w5 a0)) 0 (regionOps Try.f82 13).toList := by
 refine ⟨?s0, ?s1, ?s2, ?s3, ?s4, ?s5, ?s6, ?s7, ?s8, ?s9, ?s10, ?s11, ?s12, ?s13, ?s14, ?s15, ?s16, ?s17, ?s18, trivial⟩
 case s0 =>
  exact fun l a w h hun => absurd (tR h 0 (by simp)) (by rw [hun]; simp)
 case s1 =>
  exact fun l a w h hun => absurd (tR h 1 (by simp)) (by rw [hun]; simp)
 case s2 =>
  intro l a w h hun hdep K hK
  obtain ⟨x55, x56, x65, x66, x67, x68, x69, x4, x5, vA, nA, xA, vB, nB, xB, ls, ha, HR, H2, H3n, H3, H12, H13, H14, H15, H16n, H16, H17, H18, HM⟩ := h
  subst ha
  rw [ha0]
  simp only [xP, List.foldl_cons, List.foldl_nil, Act.put, sPa, sPb, sPc]
  go_simp
  refine hK.out _ _ ?_
  refine ⟨(.slice (some ⟨w.heap.size, 0, none⟩) 1 1), x56, x65, x66, x67, x68, x69, x4, x5, vA, nA, xA, vB, nB, xB, ((w.heap.size, Obj.cells #[Value.int .i64 (s : Int)] 3 (0, 0)) :: ls), ?fa2, fun j hj => zS (HR j hj), Kh (fun _ => ⟨w.heap.size, rfl, List.Mem.head _⟩), Kh (fun h => H3n.out (yE h)), Kh (fun h => H3.out (zF (by decide) h)), Kh (fun h => let ⟨g, h1, h2⟩ := H12.out (zF (by decide) h); ⟨g, h1, List.Mem.tail _ h2⟩), Kh (fun h => H13.out (zF (by decide) h)), Kh (fun h => H14.out (zF (by decide) h)), Kh (fun h => let ⟨g, h1, h2⟩ := H15.out (zF (by decide) h); ⟨g, h1, List.Mem.tail _ h2⟩), Kh (fun h => H16n.out (yE h)), Kh (fun h => ⟨zS (H16.out (zF (by decide) h)).1, (H16.out (zF (by decide) h)).2⟩), Kh (fun h => ⟨zS (H17.out (zF (by decide) h)).1, (H17.out (zF (by decide) h)).2⟩), Kh (fun h => ⟨zS (H18.out (zF (by decide) h)).1, (H18.out (zF (by decide) h)).2⟩), HM.alloc (.cells #[Value.int .i64 (s : Int)] 3)⟩
  case fa2 => rw [ha0]; simp only [xP, List.foldl_cons, List.foldl_nil, Act.put, sPa, sPb, sPc]
 case s3 =>
  intro l a w h hun hdep K hK
  obtain ⟨x55, x56, x65, x66, x67, x68, x69, x4, x5, vA, nA, xA, vB, nB, xB, ls, ha, HR, H2, H3n, H3, H12, H13, H14, H15, H16n, H16, H17, H18, HM⟩ := h
  have DH2 := H2.out (vC (hdep ⟨2, .data⟩ (by simp) rfl))
  obtain ⟨g5, rfl, hg5⟩ := DH2
  obtain ⟨rfl, rfl, rfl⟩ := H3n.out hun
  subst ha
  rw [ha0]
  simp only [xP, List.foldl_cons, List.foldl_nil, Act.put, sPa, sPb, sPc]
  refine lI (by simp [Region.wanted]) (.tmp 53) (.tmp 55) 30 rfl xI 0 g5 1 rfl HM rfl rfl rfl rfl ?g13 ?g23 ?g33 hg5 rfl ?_
  case g13 => show m.length + 1 ≤ maxLen; unfold maxLen; omega
  case g23 => show (m.length + 1) * 8 ≤ 140737488355328; omega
  case g33 => exact hbase
  intro sa2 sc2 w6 hM6 hg6
  refine hK.out _ _ ?_
  refine ⟨(.slice (some ⟨g5, 0, none⟩) 1 1), (.slice sa2 (m.length + 1) sc2), x65, x66, x67, x68, x69, x4, x5, (.slice sa2 (m.length + 1) sc2), (m.length + 1), (nats m ++ [Value.int .i64 (s : Int)]), vB, nB, xB, ls, ?fa3, fun j hj => zS (HR j hj), Kh (fun _ => ⟨g5, rfl, hg5⟩), Kh (fun h => pG h), Kh (fun _ => ⟨sa2, sc2, rfl, rfl, rfl, rfl⟩), Kh (fun h => H12.out (zF (by decide) h)), Kh (fun h => H13.out (zF (by decide) h)), Kh (fun h => H14.out (zF (by decide) h)), Kh (fun h => H15.out (zF (by decide) h)), Kh (fun h => H16n.out (yE h)), Kh (fun h => absurd (H16.out (zF (by decide) h)).1 (by rw [hun]; simp)), Kh (fun h => absurd (H17.out (zF (by decide) h)).1 (by rw [hun]; simp)), Kh (fun h => ⟨zS (H18.out (zF (by decide) h)).1, (H18.out (zF (by decide) h)).2⟩), hM6⟩
  case fa3 => rw [ha0]; simp only [xP, List.foldl_cons, List.foldl_nil, Act.put, sPa, sPb, sPc]
 case s4 =>
  exact fun l a w h hun => absurd (tR h 4 (by simp)) (by rw [hun]; simp)
 case s5 =>
  exact fun l a w h hun => absurd (tR h 5 (by simp)) (by rw [hun]; simp)
 case s6 =>
  exact fun l a w h hun => absurd (tR h 6 (by simp)) (by rw [hun]; simp)
 case s7 =>
  exact fun l a w h hun => absurd (tR h 7 (by simp)) (by rw [hun]; simp)
 case s8 =>
  exact fun l a w h hun => absurd (tR h 8 (by simp)) (by rw [hun]; simp)
 case s9 =>
  exact fun l a w h hun => absurd (tR h 9 (by simp)) (by rw [hun]; simp)
 case s10 =>
  exact fun l a w h hun => absurd (tR h 10 (by simp)) (by rw [hun]; simp)
 case s11 =>
  exact fun l a w h hun => absurd (tR h 11 (by simp)) (by rw [hun]; simp)
 case s12 =>
  intro l a w h hun hdep K hK
  obtain ⟨x55, x56, x65, x66, x67, x68, x69, x4, x5, vA, nA, xA, vB, nB, xB, ls, ha, HR, H2, H3n, H3, H12, H13, H14, H15, H16n, H16, H17, H18, HM⟩ := h
  subst ha
  rw [ha0]
  simp only [xP, List.foldl_cons, List.foldl_nil, Act.put, sPa, sPb, sPc]
  go_simp
  refine hK.out _ _ ?_
  refine ⟨x55, x56, (.slice (some ⟨w.heap.size, 0, none⟩) 1 1), x66, x67, x68, x69, x4, x5, vA, nA, xA, vB, nB, xB, ((w.heap.size, Obj.cells #[Value.int .u8 (97 + (a1 : Int))] 5 (0, 0)) :: ls), ?fa12, fun j hj => zS (HR j hj), Kh (fun h => let ⟨g, h1, h2⟩ := H2.out (zF (by decide) h); ⟨g, h1, List.Mem.tail _ h2⟩), Kh (fun h => H3n.out (yE h)), Kh (fun h => H3.out (zF (by decide) h)), Kh (fun _ => ⟨w.heap.size, rfl, List.Mem.head _⟩), Kh (fun h => H13.out (zF (by decide) h)), Kh (fun h => H14.out (zF (by decide) h)), Kh (fun h => let ⟨g, h1, h2⟩ := H15.out (zF (by decide) h); ⟨g, h1, List.Mem.tail _ h2⟩), Kh (fun h => H16n.out (yE h)), Kh (fun h => ⟨zS (H16.out (zF (by decide) h)).1, (H16.out (zF (by decide) h)).2⟩), Kh (fun h => ⟨zS (H17.out (zF (by decide) h)).1, (H17.out (zF (by decide) h)).2⟩), Kh (fun h => ⟨zS (H18.out (zF (by decide) h)).1, (H18.out (zF (by decide) h)).2⟩), HM.alloc (.cells #[Value.int .u8 (97 + (a1 : Int))] 5)⟩
  case fa12 => rw [ha0]; simp only [xP, List.foldl_cons, List.foldl_nil, Act.put, sPa, sPb, sPc]
 case s13 =>
  intro l a w h hun hdep K hK
  obtain ⟨x55, x56, x65, x66, x67, x68, x69, x4, x5, vA, nA, xA, vB, nB, xB, ls, ha, HR, H2, H3n, H3, H12, H13, H14, H15, H16n, H16, H17, H18, HM⟩ := h
  have DH12 := H12.out (vC (hdep ⟨12, .data⟩ (by simp) rfl))
  obtain ⟨g5, rfl, hg5⟩ := DH12
  subst ha
  rw [ha0]
  simp only [xP, List.foldl_cons, List.foldl_nil, Act.put, sPa, sPb, sPc]
  have hq := hcv w g5 (HM.litcell hg5)
  go_simp
  refine hK.out _ _ ?_
  refine ⟨x55, x56, (.slice (some ⟨g5, 0, none⟩) 1 1), (.string X), x67, x68, x69, x4, x5, vA, nA, xA, vB, nB, xB, ls, ?fa13, fun j hj => zS (HR j hj), Kh (fun h => H2.out (zF (by decide) h)), Kh (fun h => H3n.out (yE h)), Kh (fun h => H3.out (zF (by decide) h)), Kh (fun _ => ⟨g5, rfl, hg5⟩), Kh (fun _ => rfl), Kh (fun h => H14.out (zF (by decide) h)), Kh (fun h => H15.out (zF (by decide) h)), Kh (fun h => H16n.out (yE h)), Kh (fun h => ⟨zS (H16.out (zF (by decide) h)).1, (H16.out (zF (by decide) h)).2⟩), Kh (fun h => ⟨zS (H17.out (zF (by decide) h)).1, (H17.out (zF (by decide) h)).2⟩), Kh (fun h => ⟨zS (H18.out (zF (by decide) h)).1, (H18.out (zF (by decide) h)).2⟩), HM⟩
  case fa13 => rw [ha0]; simp only [xP, List.foldl_cons, List.foldl_nil, Act.put, sPa, sPb, sPc]
 case s14 =>
  intro l a w h hun hdep K hK
  obtain ⟨x55, x56, x65, x66, x67, x68, x69, x4, x5, vA, nA, xA, vB, nB, xB, ls, ha, HR, H2, H3n, H3, H12, H13, H14, H15, H16n, H16, H17, H18, HM⟩ := h
  have DH13 := H13.out (vC (hdep ⟨13, .data⟩ (by simp) rfl))
  subst DH13
  subst ha
  rw [ha0]
  simp only [xP, List.foldl_cons, List.foldl_nil, Act.put, sPa, sPb, sPc]
  go_simp
  refine hK.out _ _ ?_
  refine ⟨x55, x56, x65, (.string X), (.string (u ++ X)), x68, x69, x4, x5, vA, nA, xA, vB, nB, xB, ls, ?fa14, fun j hj => zS (HR j hj), Kh (fun h => H2.out (zF (by decide) h)), Kh (fun h => H3n.out (yE h)), Kh (fun h => H3.out (zF (by decide) h)), Kh (fun h => H12.out (zF (by decide) h)), Kh (fun _ => rfl), Kh (fun _ => rfl), Kh (fun h => H15.out (zF (by decide) h)), Kh (fun h => H16n.out (yE h)), Kh (fun h => ⟨zS (H16.out (zF (by decide) h)).1, (H16.out (zF (by decide) h)).2⟩), Kh (fun h => ⟨zS (H17.out (zF (by decide) h)).1, (H17.out (zF (by decide) h)).2⟩), Kh (fun h => ⟨zS (H18.out (zF (by decide) h)).1, (H18.out (zF (by decide) h)).2⟩), HM⟩
  case fa14 => rw [ha0]; simp only [xP, List.foldl_cons, List.foldl_nil, Act.put, sPa, sPb, sPc]
 case s15 =>
  intro l a w h hun hdep K hK
  obtain ⟨x55, x56, x65, x66, x67, x68, x69, x4, x5, vA, nA, xA, vB, nB, xB, ls, ha, HR, H2, H3n, H3, H12, H13, H14, H15, H16n, H16, H17, H18, HM⟩ := h
  have DH14 := H14.out (vC (hdep ⟨14, .data⟩ (by simp) rfl))
  subst DH14
  subst ha
  rw [ha0]
  simp only [xP, List.foldl_cons, List.foldl_nil, Act.put, sPa, sPb, sPc]
  go_simp
  refine hK.out _ _ ?_
  refine ⟨x55, x56, x65, x66, (.string (u ++ X)), (.slice (some ⟨w.heap.size, 0, none⟩) 1 1), x69, x4, x5, vA, nA, xA, vB, nB, xB, ((w.heap.size, Obj.cells #[Value.string (u ++ X)] 9 (0, 0)) :: ls), ?fa15, fun j hj => zS (HR j hj), Kh (fun h => let ⟨g, h1, h2⟩ := H2.out (zF (by decide) h); ⟨g, h1, List.Mem.tail _ h2⟩), Kh (fun h => H3n.out (yE h)), Kh (fun h => H3.out (zF (by decide) h)), Kh (fun h => let ⟨g, h1, h2⟩ := H12.out (zF (by decide) h); ⟨g, h1, List.Mem.tail _ h2⟩), Kh (fun h => H13.out (zF (by decide) h)), Kh (fun _ => rfl), Kh (fun _ => ⟨w.heap.size, rfl, List.Mem.head _⟩), Kh (fun h => H16n.out (yE h)), Kh (fun h => ⟨zS (H16.out (zF (by decide) h)).1, (H16.out (zF (by decide) h)).2⟩), Kh (fun h => ⟨zS (H17.out (zF (by decide) h)).1, (H17.out (zF (by decide) h)).2⟩), Kh (fun h => ⟨zS (H18.out (zF (by decide) h)).1, (H18.out (zF (by decide) h)).2⟩), HM.alloc (.cells #[Value.string (u ++ X)] 9)⟩
  case fa15 => rw [ha0]; simp only [xP, List.foldl_cons, List.foldl_nil, Act.put, sPa, sPb, sPc]
 case s16 =>
  intro l a w h hun hdep K hK
  obtain ⟨x55, x56, x65, x66, x67, x68, x69, x4, x5, vA, nA, xA, vB, nB, xB, ls, ha, HR, H2, H3n, H3, H12, H13, H14, H15, H16n, H16, H17, H18, HM⟩ := h
  have DH15 := H15.out (vC (hdep ⟨15, .data⟩ (by simp) rfl))
  obtain ⟨g5, rfl, hg5⟩ := DH15
  obtain ⟨rfl, rfl, rfl⟩ := H16n.out hun
  have hdc := vC (hdep ⟨3, .chain⟩ (by simp) rfl)
  subst ha
  rw [ha0]
  simp only [xP, List.foldl_cons, List.foldl_nil, Act.put, sPa, sPb, sPc]
  refine lI (by simp [Region.wanted]) (.tmp 57) (.tmp 68) 34 rfl elem_string 1 g5 1 rfl HM rfl rfl rfl rfl ?g116 ?g216 ?g316 hg5 rfl ?_
  case g116 => show m.length + 1 ≤ maxLen; unfold maxLen; omega
  case g216 => show (m.length + 1) * 16 ≤ 140737488355328; omega
  case g316 => exact hbase
  intro sa2 sc2 w6 hM6 hg6
  refine hK.out _ _ ?_
  refine ⟨x55, x56, x65, x66, x67, (.slice (some ⟨g5, 0, none⟩) 1 1), (.slice sa2 (m.length + 1) sc2), x4, x5, vA, nA, xA, (.slice sa2 (m.length + 1) sc2), (m.length + 1), (strV ws ++ [Value.string (u ++ X)]), ls, ?fa16, fun j hj => zS (HR j hj), Kh (fun h => H2.out (zF (by decide) h)), Kh (fun h => H3n.out (yE h)), Kh (fun h => H3.out (zF (by decide) h)), Kh (fun h => H12.out (zF (by decide) h)), Kh (fun h => H13.out (zF (by decide) h)), Kh (fun h => H14.out (zF (by decide) h)), Kh (fun _ => ⟨g5, rfl, hg5⟩), Kh (fun h => pG h), Kh (fun _ => ⟨zS hdc, sa2, sc2, rfl, rfl, rfl, rfl⟩), Kh (fun h => ⟨zS (H17.out (zF (by decide) h)).1, (H17.out (zF (by decide) h)).2⟩), Kh (fun h => absurd (H18.out (zF (by decide) h)).1 (by rw [hun]; simp)), hM6⟩
  case fa16 => rw [ha0]; simp only [xP, List.foldl_cons, List.foldl_nil, Act.put, sPa, sPb, sPc]
 case s17 =>
  intro l a w h hun hdep K hK
  obtain ⟨x55, x56, x65, x66, x67, x68, x69, x4, x5, vA, nA, xA, vB, nB, xB, ls, ha, HR, H2, H3n, H3, H12, H13, H14, H15, H16n, H16, H17, H18, HM⟩ := h
  have DH3 := H3.out (vC (hdep ⟨3, .data⟩ (by simp) rfl))
  obtain ⟨ra, rc, rfl, rfl, rfl, rfl⟩ := DH3
  have hd6 := vC (hdep ⟨3, .data⟩ (by simp) rfl)
  subst ha
  rw [ha0]
  simp only [xP, List.foldl_cons, List.foldl_nil, Act.put, sPa, sPb, sPc]
  go_simp
  refine hK.out _ _ ?_
  refine ⟨x55, (.slice ra (m.length + 1) rc), x65, x66, x67, x68, x69, (.slice ra (m.length + 1) rc), x5, (.slice ra (m.length + 1) rc), (m.length + 1), (nats m ++ [Value.int .i64 (s : Int)]), vB, nB, xB, ls, ?fa17, fun j hj => zS (HR j hj), Kh (fun h => H2.out (zF (by decide) h)), Kh (fun h => absurd (zS hd6) (by rw [h]; simp)), Kh (fun _ => ⟨ra, rc, rfl, rfl, rfl, rfl⟩), Kh (fun h => H12.out (zF (by decide) h)), Kh (fun h => H13.out (zF (by decide) h)), Kh (fun h => H14.out (zF (by decide) h)), Kh (fun h => H15.out (zF (by decide) h)), Kh (fun h => H16n.out (yE h)), Kh (fun h => ⟨zS (H16.out (zF (by decide) h)).1, (H16.out (zF (by decide) h)).2⟩), Kh (fun _ => ⟨zS hd6, rfl⟩), Kh (fun h => ⟨zS (H18.out (zF (by decide) h)).1, (H18.out (zF (by decide) h)).2⟩), HM⟩
  case fa17 => rw [ha0]; simp only [xP, List.foldl_cons, List.foldl_nil, Act.put, sPa, sPb, sPc]
 case s18 =>
  intro l a w h hun hdep K hK
  obtain ⟨x55, x56, x65, x66, x67, x68, x69, x4, x5, vA, nA, xA, vB, nB, xB, ls, ha, HR, H2, H3n, H3, H12, H13, H14, H15, H16n, H16, H17, H18, HM⟩ := h
  have DH16 := H16.out (vC (hdep ⟨16, .data⟩ (by simp) rfl))
  obtain ⟨hdr, ra, rc, rfl, rfl, rfl, rfl⟩ := DH16
  have hd6 := vC (hdep ⟨16, .data⟩ (by simp) rfl)
  subst ha
  rw [ha0]
  simp only [xP, List.foldl_cons, List.foldl_nil, Act.put, sPa, sPb, sPc]
  go_simp
  refine hK.out _ _ ?_
  refine ⟨x55, x56, x65, x66, x67, x68, (.slice ra (m.length + 1) rc), x4, (.slice ra (m.length + 1) rc), vA, nA, xA, (.slice ra (m.length + 1) rc), (m.length + 1), (strV ws ++ [Value.string (u ++ X)]), ls, ?fa18, fun j hj => zS (HR j hj), Kh (fun h => H2.out (zF (by decide) h)), Kh (fun h => H3n.out (yE h)), Kh (fun h => H3.out (zF (by decide) h)), Kh (fun h => H12.out (zF (by decide) h)), Kh (fun h => H13.out (zF (by decide) h)), Kh (fun h => H14.out (zF (by decide) h)), Kh (fun h => H15.out (zF (by decide) h)), Kh (fun h => absurd (zS hd6) (by rw [h]; simp)), Kh (fun _ => ⟨zS hdr, ra, rc, rfl, rfl, rfl, rfl⟩), Kh (fun h => ⟨zS (H17.out (zF (by decide) h)).1, (H17.out (zF (by decide) h)).2⟩), Kh (fun _ => ⟨zS hd6, rfl⟩), HM⟩
  case fa18 => rw [ha0]; simp only [xP, List.foldl_cons, List.foldl_nil, Act.put, sPa, sPb, sPc]
set_option maxRecDepth 100000 in
set_option maxHeartbeats 1000000 in
theorem access_any (B : Nat) (w : World) (v : Value) (d : DfaV) (n k : Nat) (hB : B ≤ w.heap.size) (h : vR B w v d) (hd : VD d n k) :
  Calls Try.prog 82 #[v] w (AccOk w (zP d k)) := by
 obtain ⟨fb, fo, fc, b, off, cap, RB, RO, RC, rfl, hat⟩ := h.at hd
 have hn := hd.hn
 have hn1 := hd.n1
 have hnbig := hd.nbig
 have hk6 := hd.k6
 have hk1 := hd.k1
 have hfc := hat.fcap.1
 have hfc2 := hat.fcap.2
 have hcp := hat.cap.1
 have hcp2 := hat.cap.2
 have hmx1 : fc ≤ 9223372036854775807 := by unfold maxLen at hfc2; omega
 have hmx2 : cap ≤ 9223372036854775807 := by unfold maxLen at hcp2; omega
 obtain ⟨S, hS⟩ : ∃ S, S = st0 d := ⟨_, rfl⟩
 have hSn : S < n := by rw [hS]; exact pI hd
 have HSE := Kh hS
 rw [← hS]
 obtain ⟨wA, hWA⟩ : ∃ wA, wA = w.alloc (.cells #[.int .i64 (k : Int), .int .i64 (S : Int), .slice (some ⟨fb, fo, none⟩) n fc, .slice (some ⟨b, off, none⟩) n cap] 49) := ⟨_, rfl⟩
 have hbox : wA.heap[w.heap.size]? = some (.cells #[.int .i64 (k : Int), .int .i64 (S : Int), .slice (some ⟨fb, fo, none⟩) n fc, .slice (some ⟨b, off, none⟩) n cap] 49 (0, 0)) := by rw [hWA]; exact heap_alloc_new w _
 have hgA : w.grownBy wA none := by rw [hWA]; exact World.grownBy_alloc w _ none
 have hzA : wA.heap.size = w.heap.size + 1 := by rw [hWA, zL]
 obtain ⟨c0, c1, c2, c3⟩ := zG hbox
 obtain ⟨P, hP⟩ : ∃ P, P = w.heap.size := ⟨_, rfl⟩
 have HPE := Kh hP
 rw [← hP] at hbox c0 c1 c2 c3 hzA hB
 have HBX := Kh hbox; have HGA := Kh hgA; have HWA := Kh hWA; have HAT := Kh (hat.kept hgA (by simp)); have HN := Kh hn; have HD := Kh hd
 unfold dAgg
 clear hbox hgA hWA hat hn hd h hfc2 hcp2 hS
 go_enter Try.func82, Try.ntmps82
 go_upto_region 1 with fail
 rw [← HWA.out, ← HPE.out]
 clear hP
 obtain ⟨wB, hWB⟩ : ∃ wB, wB = (wA.alloc (.cells #[.int .i64 (S : Int)] 3)).alloc (.cells #[.string ⟨#[]⟩] 9) := ⟨_, rfl⟩
 have hownS : wB.ownsRow (P + 1) 3 1 (.slice (some ⟨P + 1, 0, none⟩) 1 1) 1 (nats [S]) := by
  rw [hWB]
  have := uA (World.ownsRow_lit wA #[.int .i64 (S : Int)] 1 (e := 3) (size := 1) (Nat.le_refl _) (by unfold maxLen; omega) (by simp)) (Nat.le_of_eq hzA.symm)
  rw [hzA] at this
  exact this.alloc _
 have hownW : wB.ownsRow (P + 1) 9 1 (.slice (some ⟨P + 1 + 1, 0, none⟩) 1 1) 1 (strV [⟨#[]⟩]) := by
  rw [hWB]
  have := uA (World.ownsRow_lit (wA.alloc (.cells #[.int .i64 (S : Int)] 3)) #[.string ⟨#[]⟩] 1 (e := 9) (size := 1) (Nat.le_refl _) (by unfold maxLen; omega) (by simp)) (base' := P + 1) (by rw [zL, hzA]; omega)
  rw [zL, hzA] at this
  exact this
 have hgB : wA.grownBy wB none := by rw [hWB]; exact yV (World.grownBy_alloc wA _ none) _
 have HWB := Kh hWB; have HOS := Kh hownS; have HOW := Kh hownW; have HGB := Kh hgB
 have hzB : wB.heap.size = P + 1 + 1 + 1 := by rw [hWB, zL, zL, hzA]
 clear hWB hownS hownW hgB
 go_upto_region 2 with fail
 rw [← HWB.out]
 obtain ⟨d0, d1, d2, d3⟩ := zG (zA HBX.out HGB.out (by simp))
 go_upto_region 3 with (first | (at_make; refine pV rfl _ _ _ rfl wL rfl .i64 .i64 _ _ n rfl rfl rfl rfl ?b1 ?b2 ?_; (case b1 => omega); (case b2 => (unfold maxLen; omega)); intro w2 harr hg2 hlt2) | fail)
 clear d0 d1 d2 d3
 obtain ⟨d0, d1, d2, d3⟩ := zG (zA HBX.out (zE HGB.out hg2) (by simp))
 obtain ⟨G, hG⟩ : ∃ G, G = P + 1 + 1 + 1 := ⟨_, rfl⟩
 have hGB : wB.heap.size = G := by omega
 rw [hGB] at harr
 rw [← hG]
 have hGP : P + 2 < G := by omega
 clear hG hzB hlt2
 rw [← sJ, ← metL_nil] at harr
 have fS := harr.frozen S
 have cS := harr.bool S (by rw [uX]; exact hSn)
 have hA3 := harr.bool_set S (by rw [uX]; exact hSn) true
 rw [metL_set, List.nil_append] at hA3
 have hg3 : wB.grownBy (w2.setCell ⟨G, S, none⟩ (.bool true)) none := zB hg2 (zC w2 ⟨G, S, none⟩ _) (fun q e => by have h7 : G = q := Option.some.inj e; have := hg2.size; omega)
 have hne1 : G ≠ P + 1 := by omega
 have hne2 : G ≠ P + 1 + 1 := by omega
 have hAcc : AccI d n k 0 [S] := by have := AccI.start HD.out; rw [← HSE.out] at this; exact this
 have hgo : uI d k (n - 0) 0 [S] = zP d k := by rw [zP, HN.out, ← HSE.out]; rfl
 have HACC := Kh hAcc; have HGO := Kh hgo
 have HA3 := Kh hA3; have HG3 := Kh (zE HGB.out hg3)
 have HO3 := Kh (yQ HOS.out hg3 (by simp)); have HW3 := Kh (yQ HOW.out hg3 (by simp))
 have HSH : Hid (lB [⟨#[]⟩]) := Kh (fun j hj => by simp at hj; subst hj; simp [List.getD]; rfl)
 clear harr hg2 hA3 hg3 hAcc hgo hGB
 have hSn' : (S : Int) < n := by omega
 go_wp2
 clear d0 d1 d2 d3 fS cS c0 c1 c2 c3
 go_loopg [4, 5, 7] n (fun gh v4 v5 i wr => ∃ (i' : Nat) (l : List Nat) (ws : List ByteArray) (sa sb : Nat) (sc sd : Nat), gh + i' = n ∧ i = .int .i64 i' ∧ v4 = .slice (some ⟨sa, 0, none⟩) l.length sc ∧ v5 = .slice (some ⟨sb, 0, none⟩) l.length sd ∧
  wr.ownsRow (P + 1) 3 1 (.slice (some ⟨sa, 0, none⟩) l.length sc) l.length (nats l) ∧ wr.ownsRow (P + 1) 9 1 (.slice (some ⟨sb, 0, none⟩) l.length sd) l.length (strV ws) ∧ Arr wr G 4 (bls (metL n l)) ∧ AccI d n k i' l ∧ uI d k (n - i') i' l = zP d k ∧ i' ≤ l.length ∧ lB ws ∧ wA.grownBy wr none)
 case atStart => exact ⟨0, [S], [⟨#[]⟩], P + 1, P + 1 + 1, 1, 1, rfl, rfl, rfl, rfl, HO3.out, HW3.out, HA3.out, HACC.out, HGO.out, by simp, HSH.out, HG3.out⟩
 case round =>
  clear HO3 HW3 HA3 HACC HGO HSH HG3 HOS HOW
  obtain ⟨i', l, ws, sa, sb, sc, sd, hg, rfl, rfl, rfl, hown, howw, harr, hacc, hgo, hil, hsh, hgr⟩ := hrel
  have hll := rV hacc.nd hacc.lt
  have HG := Kh hg; have HO := Kh hown; have HW := Kh howw; have HA := Kh harr; have HACC := Kh hacc; have HGO := Kh hgo; have HSH := Kh hsh; have HGR := Kh hgr
  clear hg hown howw harr hacc hgo hsh hgr
  by_cases hi : i' < l.length
  ·have hi' : (i' : Int) < l.length := by omega
   have hin : i' < n := by omega
   have hq0 : l.getD i' 0 < n := HACC.out.lt _ (by rw [zI hi]; exact List.getElem_mem _)
   obtain ⟨q0, hq0e⟩ : ∃ q0, q0 = l.getD i' 0 := ⟨_, rfl⟩
   rw [← hq0e] at hq0
   have HQ0 := Kh hq0e
   clear hq0e
   go_wp2
   go_loopg [4, 5, 8] k (fun gh v4 v5 i wr => ∃ (a : Nat) (m : List Nat) (ws : List ByteArray) (sa sb : Nat) (sc sd : Nat), gh + a = k ∧ i = .int .i64 a ∧ m = xO d l i' a ∧ v4 = .slice (some ⟨sa, 0, none⟩) m.length sc ∧ v5 = .slice (some ⟨sb, 0, none⟩) m.length sd ∧
    wr.ownsRow (P + 1) 3 1 (.slice (some ⟨sa, 0, none⟩) m.length sc) m.length (nats m) ∧ wr.ownsRow (P + 1) 9 1 (.slice (some ⟨sb, 0, none⟩) m.length sd) m.length (strV ws) ∧ Arr wr G 4 (bls (metL n m)) ∧ lB ws ∧ wA.grownBy wr none)
   case atStart => exact ⟨0, l, ws, sa, sb, sc, sd, rfl, rfl, rfl, rfl, rfl, HO.out, HW.out, HA.out, HSH.out, HGR.out⟩
   case round =>
    clear HO HW HA HSH HGR
    obtain ⟨a, m, ws, sa, sb, sc, sd, hg, rfl, hm, rfl, rfl, hown, howw, harr, hsh, hgr⟩ := hrel
    have HGA2 := Kh hg; have HM := Kh hm
    have hpre := wV d l i' a
    rw [← hm] at hpre
    have hlm := hpre.length_le
    clear hg hm
    by_cases ha : a < k
    ·have ha' : (a : Int) < k := by omega
     have hmnd : m.Nodup := by rw [HM.out]; exact rQ HACC.out.nd i' a
     have hmlt : ∀ q ∈ m, q < n := by
      intro q hq
      rw [HM.out] at hq
      rcases vK.1 hq with hq | ⟨b, hb, rfl⟩
      ·exact HACC.out.lt q hq
      ·rw [← HQ0.out]; exact qI HD.out hq0 (by omega)
     have hml := rV hmnd hmlt
     have hat2 := HAT.out.kept hgr (by simp)
     obtain ⟨d0, d1, d2, d3⟩ := zG (zA HBX.out hgr (by simp))
     have cq := (Arr.of_owns hown).nat i' (by omega)
     rw [uZ hpre hi, ← HQ0.out] at cq
     have ch := hat2.hd q0 hq0
     have ce := hat2.el q0 a hq0 ha
     have hrc := (hat2.rcap q0 hq0).1
     have hrc2 := (hat2.rcap q0 hq0).2
     have hs := qI HD.out hq0 ha
     obtain ⟨s, hse⟩ : ∃ s, s = nx d q0 a := ⟨_, rfl⟩
     rw [← hse] at ce hs
     have hs' : (s : Int) < n := by omega
     have hq0' : (q0 : Int) < n := by omega
     have hrc3 : RC q0 ≤ 9223372036854775807 := by unfold maxLen at hrc2; omega
     have cm := harr.bool s (by rw [uX]; exact hs)
     rw [metL_get hs] at cm
     have HSE2 : Hid (xO d l i' (a + 1) = yS m s) := Kh (by rw [xO, ← HQ0.out, ← hse, ← HM.out])
     clear hse hrc2 hat2
     by_cases hin2 : s ∈ m
     ·rw [decide_eq_true hin2] at cm
      have HM2 : Hid (m = xO d l i' (a + 1)) := Kh (by rw [HSE2.out, wU hin2])
      have HO := Kh hown; have HW := Kh howw; have HA := Kh harr; have HSH := Kh hsh; have HGR := Kh hgr
      clear hin2 hown howw harr hsh hgr hmnd hmlt hpre
      go_wp2
      go_quiet (fail)
      go_wp2
      go_roundg (k - (a + 1))
      case measure => have := HGA2.out; omega
      case rel =>
       have hgd := zJ wr 1 none
       exact ⟨a + 1, m, ws, sa, sb, sc, sd, by omega, by go_num, HM2.out, rfl, rfl, yQ HO.out (zJ wr _ none) (by simp), yQ HW.out (zJ wr _ none) (by simp), HA.out.kept (zJ wr _ none) (by simp), HSH.out, zE HGR.out (zJ wr _ _)⟩
     ·rw [decide_eq_false hin2] at cm
      have HM2 : Hid (m ++ [s] = xO d l i' (a + 1)) := Kh (by rw [HSE2.out, xR hin2])
      have HIN := Kh hin2; have HSH := Kh hsh; have HGR := Kh hgr
      have fm : wr.frozen? ⟨G, s, none⟩ = false := harr.frozen s
      have hown' := Kh hown; have howw' := Kh howw; have harr' := Kh harr
      clear hin2 hown howw harr hsh hgr hmnd hmlt hpre
      go_upto_region 10 with fail
      go_quiet (fail)
      go_upto_region 13 with fail
      obtain ⟨w5, hw5⟩ : ∃ w5, w5 = ((wr.drewN nq).setCell ⟨G, s, none⟩ (.bool true)).drew := ⟨_, rfl⟩
      have HW5 := Kh hw5
      have hg5 : wr.grownBy w5 (some G) := by rw [hw5]; exact yZ (zC wr ⟨G, s, none⟩ (.bool true)) rfl rfl rfl rfl
      have ha5 : Arr w5 G 4 (bls (metL n (m ++ [s]))) := by
       have h1 := harr'.out.bool_set s (by rw [uX]; exact hs) true
       rw [metL_set] at h1
       rw [hw5]; exact h1.of_heap rfl
      have ho5 : w5.ownsRow (P + 1) 3 1 (.slice (some ⟨sa, 0, none⟩) m.length sc) m.length (nats m) := hown'.out.kept hg5 (.inr (by obtain ⟨cur, rest, hq, _⟩ := harr'.out; exact zM hown'.out hq (by decide)))
      have hw5o : w5.ownsRow (P + 1) 9 1 (.slice (some ⟨sb, 0, none⟩) m.length sd) m.length (strV ws) := howw'.out.kept hg5 (.inr (by obtain ⟨cur, rest, hq, _⟩ := harr'.out; exact zM howw'.out hq (by decide)))
      have hne5 : ∀ q, (Value.slice (some ⟨sa, 0, none⟩) m.length sc).ownBlock = some q → (Value.slice (some ⟨sb, 0, none⟩) m.length sd).ownBlock ≠ some q := by
       intro q hq e
       have : q = sb := by simpa [Value.ownBlock] using e.symm
       subst this
       obtain ⟨cur, rest, hq2, _⟩ := Arr.of_owns hw5o
       exact zM ho5 hq2 (by decide) hq
      have hwl : ws.length = m.length := by have := hw5o.1; simpa [strV] using this
      obtain ⟨u, hu⟩ : ∃ u, u = ws.getD i' ⟨#[]⟩ := ⟨_, rfl⟩
      have hus : u.size ≤ i' := by rw [hu]; exact HSH.out i' (by omega)
      obtain ⟨F, hF⟩ : ∃ F : Nat → Prop, F = fun q => (Value.slice (some ⟨sa, 0, none⟩) m.length sc).ownBlock = some q ∨ (Value.slice (some ⟨sb, 0, none⟩) m.length sd).ownBlock = some q := ⟨_, rfl⟩
      have HFF := Kh hF
      have hM : Many w5 F w5 [⟨P + 1, 3, .slice (some ⟨sa, 0, none⟩) m.length sc, m.length, nats m, 1⟩, ⟨P + 1, 9, .slice (some ⟨sb, 0, none⟩) m.length sd, m.length, strV ws, 1⟩] [] [(sb, 9, strV ws)] := by
       rw [hF]
       exact ((Many.two (r := ⟨P + 1, 3, .slice (some ⟨sa, 0, none⟩) m.length sc, m.length, nats m, 1⟩) (s := ⟨P + 1, 9, .slice (some ⟨sb, 0, none⟩) m.length sd, m.length, strV ws, 1⟩) ho5 hw5o hne5).see (j := 1) rfl rfl rfl)
      have HPRE : Hid (∀ W rs ls, Many w5 F W rs ls [(sb, 9, strV ws)] → W.cell? ⟨sb, i', none⟩ = some (.string u)) := Kh (fun W rs ls h => by
       have := h.precell (List.Mem.head _) i' (by simp [strV]; omega)
       rw [this, hu, zI (by omega)]
       simp [strV])
      have hz5 : P + 1 ≤ w5.heap.size := by have := hg5.size; have := HGR.out.size; omega
      have HG5 := Kh hg5; have HA5 := Kh ha5; have HWL := Kh hwl
      have hby0 : IntKind.i64.wrap (97 + (a : Int)) = 97 + (a : Int) := IntWalk.i64_in _ (by omega)
      have hby : IntKind.u8.wrap (97 + (a : Int)) = 97 + (a : Int) := IntWalk.u8_in _ (by omega)
      obtain ⟨X, hX⟩ : ∃ X, X = strOfNums [97 + (a : Int)] := ⟨_, rfl⟩
      have hXs : X.size = 1 := by rw [hX]; rfl
      have hcv : ∀ (W : World) (g : Nat), W.cell? ⟨g, 0, none⟩ = some (.int .u8 (97 + (a : Int))) → (convert 64 9 (.slice (some ⟨g, 0, none⟩) 1 1)).run Try.prog W = .ok (.string X) W := fun W g h => by rw [hX]; exact run_byte1 64 5 Try.underlying64 Try.underlying5 9 Try.underlying9 h
      have hcc : ∀ W : World, (Op.stringOp .add u X).run Try.prog W = .ok (.string (u ++ X)) W := fun W => run_string_add_sum W u X (by omega)
      have HNE1 : Hid ((Value.slice (some ⟨sa, 0, none⟩) m.length sc).ownBlock ≠ some G) := Kh (by obtain ⟨cur, rest, hq, _⟩ := ha5; exact zM ho5 hq (by decide))
      have HNE2 : Hid ((Value.slice (some ⟨sb, 0, none⟩) m.length sd).ownBlock ≠ some G) := Kh (by obtain ⟨cur, rest, hq, _⟩ := ha5; exact zM hw5o hq (by decide))
      have HLT1 : Hid (∀ q, (Value.slice (some ⟨sa, 0, none⟩) m.length sc).ownBlock = some q → P + 1 ≤ q) := Kh (fun q hq => (ho5.lt q hq).1)
      have HLT2 : Hid (∀ q, (Value.slice (some ⟨sb, 0, none⟩) m.length sd).ownBlock = some q → P + 1 ≤ q) := Kh (fun q hq => (hw5o.lt q hq).1)
      clear hX
      clear hF hu hw5 hg5 ha5 hne5 ho5 hw5o hwl cq ch ce cm fm d0 d1 d2 d3 hown' howw' harr'
      have hlm' : i' < m.length := by omega
      have hlmi : (i' : Int) < m.length := by omega
      have HAB : Hid (∀ W rs ls, Many w5 F W rs ls [(sb, 9, strV ws)] → W.cell? ⟨sb, i', none⟩ = some (.string u) ∧ W.cell? ⟨sb, i', none⟩ = some (.string u)) := Kh (fun W rs ls h => ⟨HPRE.out W rs ls h, HPRE.out W rs ls h⟩)
      refine wp_region_noPanic ?_
      refine oE (G := tY 99 (fun W => W.cell? ⟨sb, i', none⟩ = some (.string u)) (fun W => W.cell? ⟨sb, i', none⟩ = some (.string u))) (by kernel_rfl) ?_
      rw [← HW5.out]
      have C : Hid (w5.cell? ⟨sb, i', none⟩ = some (.string u)) := Kh (HPRE.out _ _ _ hM)
      refine takeC (i := 0) (v := ?_) rfl rfl (Or.inl ⟨by rfl, ?_⟩) ⟨C.out, fun _ => C.out⟩ ?_
      rotate_left
      ·(intro wz hz; (try dsimp only at hz); go_simp; (try with_reducible rfl))
      try simp only [Act.put, sPa, sPb, sPc]
      refine takeC (i := 1) (v := ?_) rfl rfl (Or.inl ⟨by rfl, ?_⟩) ⟨C.out, fun _ => C.out⟩ ?_
      rotate_left
      ·(intro wz hz; (try dsimp only at hz); go_simp; (try with_reducible rfl))
      try simp only [Act.put, sPa, sPb, sPc]
      refine takeC (i := 4) (v := ?_) rfl rfl (Or.inl ⟨by rfl, ?_⟩) ⟨C.out, fun _ => C.out⟩ ?_
      rotate_left
      ·(intro wz hz; (try dsimp only at hz); go_simp; (try with_reducible rfl))
      try simp only [Act.put, sPa, sPb, sPc]
      refine takeC (i := 5) (v := ?_) rfl rfl (Or.inl ⟨by rfl, ?_⟩) ⟨C.out, fun _ => C.out⟩ ?_
      rotate_left
      ·(intro wz hz; (try dsimp only at hz); go_simp; (try with_reducible rfl))
      try simp only [Act.put, sPa, sPb, sPc]
      refine takeC (i := 6) (v := ?_) rfl rfl (Or.inl ⟨by rfl, ?_⟩) ⟨C.out, fun _ => C.out⟩ ?_
      rotate_left
      ·(intro wz hz; (try dsimp only at hz); go_simp; (try with_reducible rfl))
      try simp only [Act.put, sPa, sPb, sPc]
      refine takeC (i := 7) (v := ?_) rfl rfl (Or.inl ⟨by rfl, ?_⟩) ⟨C.out, fun _ => C.out⟩ ?_
      rotate_left
      ·(intro wz hz; (try dsimp only at hz); go_simp; (try with_reducible rfl))
      try simp only [Act.put, sPa, sPb, sPc]
      refine takeC (i := 8) (v := ?_) rfl rfl (Or.inl ⟨by rfl, ?_⟩) ⟨C.out, fun _ => C.out⟩ ?_
      rotate_left
      ·(intro wz hz; (try dsimp only at hz); go_simp; (try with_reducible rfl))
      try simp only [Act.put, sPa, sPb, sPc]
      refine takeC (i := 9) (v := ?_) rfl rfl (Or.inl ⟨by rfl, ?_⟩) ⟨C.out, fun _ => C.out⟩ ?_
      rotate_left
      ·(intro wz hz; (try dsimp only at hz); go_simp; (try with_reducible rfl))
      try simp only [Act.put, sPa, sPb, sPc]
      refine takeC (i := 10) (v := ?_) rfl rfl (Or.inl ⟨by rfl, ?_⟩) ⟨C.out, fun _ => C.out⟩ ?_
      rotate_left
      ·(intro wz hz; (try dsimp only at hz); go_simp; (try with_reducible rfl))
      try simp only [Act.put, sPa, sPb, sPc]
      refine takeC (i := 11) (v := ?_) rfl rfl (Or.inl ⟨by rfl, ?_⟩) ⟨C.out, fun _ => C.out⟩ ?_
      rotate_left
      ·(intro wz hz; (try dsimp only at hz); go_simp; (try with_reducible rfl))
      try simp only [Act.put, sPa, sPb, sPc]
      refine wpAnyG_named (fun Wp hWp a0 ha0 => ?_)
      subst hWp
      simp only [Act.put, List.getElem_toArray, List.getElem_cons_zero, List.getElem_cons_succ, sPa, sPb, sPc] at ha0
      have HA0 := Kh ha0
      refine wpAnyG_steps (I := acc13I (P + 1) sa sb sc sd s a i' m ws u X F w5 a0) (fun l a w h => acc13_G HPRE.out h) (acc13_steps ha0 (by omega) hz5 hcv hcc) (by kernel_rfl) ?hend (by decide +kernel) ?hinit
      case hinit =>
       clear ha0
       refine ⟨a0.tmps.getD 55 undef, a0.tmps.getD 56 undef, a0.tmps.getD 65 undef, a0.tmps.getD 66 undef, a0.tmps.getD 67 undef, a0.tmps.getD 68 undef, a0.tmps.getD 69 undef, a0.tmps.getD 4 undef, a0.tmps.getD 5 undef, .slice (some ⟨sa, 0, none⟩) m.length sc, m.length, nats m, .slice (some ⟨sb, 0, none⟩) m.length sd, m.length, strV ws, [], (oX (by simp)).symm, by decide +kernel, Kh (fun h => absurd h (by decide +kernel)), Kh (fun _ => ⟨rfl, rfl, rfl⟩), Kh (fun h => absurd h (by decide +kernel)), Kh (fun h => absurd h (by decide +kernel)), Kh (fun h => absurd h (by decide +kernel)), Kh (fun h => absurd h (by decide +kernel)), Kh (fun h => absurd h (by decide +kernel)), Kh (fun _ => ⟨rfl, rfl, rfl⟩), Kh (fun h => absurd h (by decide +kernel)), Kh (fun h => absurd h (by decide +kernel)), Kh (fun h => absurd h (by decide +kernel)), hM⟩
      case hend =>
       clear ha0
       intro l1 a2 w6 h hall
       obtain ⟨x55, x56, x65, x66, x67, x68, x69, x4, x5, vA, nA, xA, vB, nB, xB, ls, ha, HR, H2, H3n, H3, H12, H13, H14, H15, H16n, H16, H17, H18, HM⟩ := h
       obtain ⟨r3, c3, rfl, rfl, rfl, rfl⟩ := H3.out (hall 3 (by decide))
       obtain ⟨_, r16, c16, rfl, rfl, rfl, rfl⟩ := H16.out (hall 16 (by decide))
       obtain ⟨_, rfl⟩ := H17.out (hall 17 (by decide))
       obtain ⟨_, rfl⟩ := H18.out (hall 18 (by decide))
       clear H2 H3n H3 H12 H13 H14 H15 H16n H16 H17 H18 HR
       subst ha
       rw [HA0.out]
       simp only [xP, List.foldl_cons, List.foldl_nil, Act.put, sPa, sPb, sPc]
       refine NoPanic.normal ?_
       have hbt : ∀ q, F q → q ≠ G := fun q hq => by
        rw [HFF.out] at hq
        have h1 := HM.own
        rintro rfl
        rcases hq with hq | hq
        ·exact HNE1.out hq
        ·exact HNE2.out hq
       have hown7 := HM.own 0 _ rfl
       have howw7 := HM.own 1 _ rfl
       have hg7 : wA.grownBy w6 none := GrownBut.grown HM.but (zB HGR.out HG5.out (fun q e => by have h7 : G = q := Option.some.inj e; omega)) (fun q hq => by
        rw [HFF.out] at hq
        rcases hq with hq | hq
        ·exact .inr (by have := HLT1.out q hq; omega)
        ·exact .inr (by have := HLT2.out q hq; omega))
       have ha7 : Arr w6 G 4 (bls (metL n (m ++ [s]))) := by
        obtain ⟨cur, rest, hq, hc⟩ := HA5.out
        exact ⟨cur, rest, HM.but.heap hq (fun hf => hbt G hf rfl), hc⟩
       have hsh7 : lB (ws ++ [u ++ X]) := HSH.out.snoc (by rw [ByteArray.size_append]; have := HWL.out; omega)
       simp only [] at hown7 howw7
       rw [← rE] at hown7
       rw [← strV_snoc] at howw7
       have hml7 : (m ++ [s]).length = m.length + 1 := by simp
       obtain ⟨ka, rfl, _, _, _⟩ := tV hown7 (by omega)
       obtain ⟨kb, rfl, _, _, _⟩ := tV howw7 (by omega)
       have HO7 := Kh hown7; have HW7 := Kh howw7; have HG7 := Kh hg7; have HA7 := Kh ha7; have HSH7 := Kh hsh7; have HML := Kh hml7
       clear HM hown7 howw7 hg7 ha7 hsh7 hbt hml7 hcv hcc
       go_wp2
       go_roundg (k - (a + 1))
       case measure => have := HGA2.out; omega
       case rel => exact ⟨a + 1, m ++ [s], ws ++ [u ++ X], ka, kb, _, _, by omega, by go_num, HM2.out, by rw [HML.out], by rw [HML.out], by rw [HML.out]; exact HO7.out, by rw [HML.out]; exact HW7.out, HA7.out, HSH7.out, HG7.out⟩
    ·have hak : a = k := by have := HGA2.out; omega
     have HMK : Hid (m = xO d l i' k) := Kh (by rw [HM.out, hak])
     have HACC2 := Kh (HACC.out.row HD.out hi)
     have HGO2 : Hid (uI d k (n - (i' + 1)) (i' + 1) (xO d l i' k) = zP d k) := Kh (by
      have h1 := HGO.out
      rw [show n - i' = (n - (i' + 1)) + 1 by omega, uI, if_pos hi] at h1
      exact h1)
     have HO := Kh hown; have HW := Kh howw; have HA := Kh harr; have HSH := Kh hsh; have HGR := Kh hgr
     clear hak hown howw harr hsh hgr hpre
     obtain ⟨d0, d1, d2, d3⟩ := zG (zA HBX.out HGR.out (by simp))
     go_wp2
     go_roundg (n - (i' + 1))
     case measure => have := HG.out; omega
     case rel => exact ⟨i' + 1, m, ws, sa, sb, sc, sd, by omega, by go_num, rfl, rfl, HO.out, HW.out, HA.out, by rw [HMK.out]; exact HACC2.out, by rw [HMK.out]; exact HGO2.out, by omega, HSH.out, HGR.out⟩
  ·have HEND : Hid (zP d k = l) := Kh (by rw [← HGO.out, lA hi])
   go_wp2
   refine bodyPost_ret (v := .tuple #[.slice (some ⟨sa, 0, none⟩) l.length sc, .slice (some ⟨sb, 0, none⟩) l.length sd]) (by simp [results, Try.results82, go_sem]) rfl ?_
   rw [HEND.out]
   exact ⟨_, _, _, rfl, uA HO.out (by have := HPE.out; omega), zE HGA.out HGR.out⟩
end Go.Proofs.Ytgbfaggnnfoamaa
