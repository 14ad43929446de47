/- Part 9 of the proof: Mat, Make, AppR, Extend. -/
import Derived.Test.YtgbfaggnnfoamaaZf8
import Derived.OwnWalk
import Derived.ArgAppend
import Derived.Deep.RegionHeld3
import Derived.Deep.DrawnRows
set_option linter.unusedVariables false
set_option linter.unusedSimpArgs false
namespace Go.Proofs.Ytgbfaggnnfoamaa
open Go.RowKit
def ints (zs : List Int) : List Value := zs.map (Value.int .i64)
theorem ints_length (zs : List Int) : (ints zs).length = zs.length := by simp [ints]
theorem Row.some_ {B : Nat} {w : World} {v : Value} {xs : List Value} (h : Row B w v xs) (hx : 0 < xs.length) :
  ∃ b off cap, v = .slice (some ⟨b, off, none⟩) xs.length cap ∧ b < B ∧ xs.length ≤ cap ∧ cap ≤ maxLen ∧ RowAt w b off xs := by
 rcases h with ⟨a, c, rfl, rfl⟩ | ⟨b, off, cap, rfl, h0, h1, h2, h3⟩
 ·simp at hx
 ·exact ⟨b, off, cap, rfl, h0, h1, h2, h3⟩
theorem Row.shape {B : Nat} {w : World} {v : Value} {xs : List Value} (h : Row B w v xs) : ∃ a cap, v = .slice a xs.length cap := by
 rcases h with ⟨a, c, rfl, rfl⟩ | ⟨b, off, cap, rfl, h0, h1, h2, h3⟩
 ·exact ⟨a, c, rfl⟩
 ·exact ⟨_, _, rfl⟩
theorem Row.len_le {B : Nat} {w : World} {v : Value} {xs : List Value} (h : Row B w v xs) : xs.length ≤ maxLen := by
 rcases h with ⟨a, c, rfl, rfl⟩ | ⟨b, off, cap, rfl, h0, h1, h2, h3⟩
 ·simp
 ·omega
theorem RowAt.int {w : World} {b off : Nat} {zs : List Int} (h : RowAt w b off (ints zs)) (i : Nat) (hi : i < zs.length) : w.cell? ⟨b, off + i, none⟩ = some (.int .i64 (zs.getD i 0)) := by
 rw [RowAt.map h i hi]
 simp [List.getD, List.getElem?_eq_getElem hi]
section
variable {B B' : Nat} {w w' : World} {v : Value} {t : List (List Int)} {row : Option Nat}
end
theorem owns_some {w : World} {base e n sc : Nat} {sa : Option Addr} {xs : List Value} (h : w.ownsRow base e 1 (.slice sa n sc) n xs) (hn : 0 < n) : ∃ kb, sa = some ⟨kb, 0, none⟩ ∧ n ≤ sc ∧ sc ≤ maxLen ∧ Arr w kb e xs := by
 rcases h.2 with ⟨h', h0⟩ | ⟨g, cap, cur, h1, hb, hg, hnc, hcm, _⟩
 ·omega
 ·simp only [Value.slice.injEq] at h1
  obtain ⟨rfl, -, rfl⟩ := h1
  exact ⟨g, rfl, hnc, hcm, Arr.of_owns h⟩
def bls (bs : List Bool) : List Value := bs.map Value.bool
theorem bls_length (bs : List Bool) : (bls bs).length = bs.length := by simp [bls]
theorem Arr.bool {w : World} {g : Nat} {e : TypeId} {bs : List Bool} (h : Arr w g e (bls bs)) (i : Nat) (hi : i < bs.length) : w.cell? ⟨g, i, none⟩ = some (.bool (bs.getD i false)) := by
 rw [h.cell i (by rw [bls_length]; exact hi)]
 simp [bls, List.getD, List.getElem?_eq_getElem hi]
theorem Arr.int {w : World} {g : Nat} {e : TypeId} {zs : List Int} (h : Arr w g e (ints zs)) (i : Nat) (hi : i < zs.length) : w.cell? ⟨g, i, none⟩ = some (.int .i64 (zs.getD i 0)) := by
 rw [h.cell i (by rw [ints_length]; exact hi)]
 simp [ints, List.getD, List.getElem?_eq_getElem hi]
theorem getD_set_ne {α : Type} (l : List α) (i j : Nat) (c d : α) (hne : i ≠ j) : (l.set i c).getD j d = l.getD j d := by simp [List.getD, List.getElem?_set_ne hne]
theorem run_append_of_nil {P : Program} {w : World} (base : Nat) (t ty e : TypeId) (i : TypeInfo) (size : Nat) (ht : P.underlying t = some (.slice e)) (hi : P.info? e = some i)
  (v : Value) (n : Nat) (xs : List Value) (hown : w.ownsRow base e size v n xs) (c : Nat) : (Builtin.append_ #[t, t] ty #[v, .slice none 0 c]).run P w = .ok v w := by
 rcases hown.2 with ⟨rfl, rfl⟩ | ⟨g, cap, cur, rfl, _, _, hnc, _⟩
 ·simp [Builtin.append_, run_underlying ht, sizeOf, typeInfo, hi, Builtin.lenOf, Builtin.firstCells]
 ·simp [Builtin.append_, run_underlying ht, sizeOf, typeInfo, hi, Builtin.lenOf, Builtin.firstCells, hnc, storeCells]
theorem owns_shape_n {w : World} {base e size n : Nat} {v : Value} {xs : List Value} (h : w.ownsRow base e size v n xs) : ∃ sa sc, v = .slice sa n sc := by
 rcases h.2 with ⟨rfl, rfl⟩ | ⟨g, cap, cur, rfl, _⟩
 ·exact ⟨none, 0, rfl⟩
 ·exact ⟨_, _, rfl⟩
theorem wp_appR {P : Program} {w : World} {o : Oper} {a : Act} {K : Act → World → Prop} {Q : Exit → Act → World → Prop} (s x : Operand) (t : TypeId)
  (ho : o.op = .call { callee := .builtin .append, args := #[s, x], argTypes := #[t, t] })
  {e : TypeId} {z : Value} {bytes : Nat} (E : ElemOk P t e z bytes) (base : Nat) (v : Value) (n : Nat) (xs : List Value) (hs : a.eval s = v) (hown : w.ownsRow base e 1 v n xs)
  (sv : Value) (news : List Value) (hx : a.eval x = sv) (hrow : ∃ B, Row B w sv news) (h1 : ∀ u ∈ news, u.oneCell' = true) (N : Nat) (hN : n + news.length = N) (h63 : N ≤ maxLen) (hbytes : N * bytes ≤ 140737488355328) (hbase : base ≤ w.heap.size)
  (h : ∀ sa sc w', w'.ownsRow base e 1 (.slice sa N sc) N (xs ++ news) → w.grownBy w' v.ownBlock → K (a.put o.dst (.slice sa N sc)) w') : o.wp P a w K Q := by
 obtain ⟨i, hi, hz, hsz, hby⟩ := info_parts E.hi
 subst hN
 have fin : ∀ v' w', w'.ownsRow base e 1 v' (n + news.length) (xs ++ news) → w.grownBy w' v.ownBlock → K (a.put o.dst v') w' := by
  intro v' w' h1 h2
  obtain ⟨sa, sc, rfl⟩ := owns_shape_n h1
  exact h sa sc w' h1 h2
 obtain ⟨B, hrow⟩ := hrow
 rcases hrow with ⟨a', cap, rfl, rfl⟩ | ⟨b, off, cap, rfl, _, h2, h3, hra⟩
 ·cases a' with
  | none =>
   have hr := run_append_of_nil (P := P) (w := w) base t o.type e i 1 E.ht hi v n xs hown cap
   unfold Oper.wp execOp
   simp only [ho, resolve, invoke, builtin, Sem.run_bind, Sem.run_pure, Result.andThen_ok, List.map_toArray, List.map_cons, List.map_nil, hs, hx, hr]
   exact fin v w (by simpa using hown) (World.grownBy.refl w _)
  | some ad =>
   refine wp_append_own w s x t ho base e i z 1 bytes E.ht hi hz hsz hby E.hz (by decide) v n xs hs hown ad 0 cap [] hx rfl (fun j u hj => by simp at hj) (fun u hu => by simp at hu) h63 hbytes hbase ?_
   intro v' w' h1 h2 _
   exact fin v' w' h1 h2
 ·refine wp_append_own w s x t ho base e i z 1 bytes E.ht hi hz hsz hby E.hz (by decide) v n xs hs hown ⟨b, off, none⟩ news.length cap news hx (by simp) (fun j u' hj => ?_) h1 h63 hbytes hbase ?_
  ·have hjl : j < news.length := by
    rcases Nat.lt_or_ge j news.length with h | h
    ·exact h
    ·rw [List.getElem?_eq_none h] at hj; cases hj
   have hadd : (⟨b, off, none⟩ : Addr).add j = ⟨b, off + j, none⟩ := by unfold Addr.add; split <;> simp_all
   rw [List.getElem?_eq_getElem hjl] at hj
   rw [hadd, hra.2 j hjl, hj]
  ·intro v' w' h1 h2 _
   exact fin v' w' h1 h2
theorem appR {P : Program} {w : World} {ops : Array Oper} {rest : List Oper} {o : Oper} {a : Act} {Q : Exit → Act → World → Prop} (hgd : o.guard = none) (s x : Operand) (t : TypeId)
  (ho : o.op = .call { callee := .builtin .append, args := #[s, x], argTypes := #[t, t] })
  {e : TypeId} {z : Value} {bytes : Nat} (E : ElemOk P t e z bytes) (base : Nat) (v : Value) (n : Nat) (xs : List Value) (hs : a.eval s = v) (hown : w.ownsRow base e 1 v n xs)
  (sv : Value) (news : List Value) (hx : a.eval x = sv) (hrow : ∃ B, Row B w sv news) (h1 : ∀ u ∈ news, u.oneCell' = true) (N : Nat) (hN : n + news.length = N) (h63 : N ≤ maxLen) (hbytes : N * bytes ≤ 140737488355328) (hbase : base ≤ w.heap.size)
  (h : ∀ sa sc w', w'.ownsRow base e 1 (.slice sa N sc) N (xs ++ news) → w.grownBy w' v.ownBlock → wpList P ops Q rest (a.put o.dst (.slice sa N sc)) w') : wpList P ops Q (o :: rest) a w :=
 wpList_plain hgd fun _ hK => wp_appR s x t ho E base v n xs hs hown sv news hx hrow h1 N hN h63 hbytes hbase fun sa sc w' h2 h3 => hK _ _ (h sa sc w' h2 h3)
theorem vE {W : World} {e base g : Nat} (h : W.heap[g]? = some (.cells #[] e (0, 0))) (hb : base ≤ g) : W.ownsRow base e 1 (.slice (some ⟨g, 0, none⟩) 0 0) 0 [] :=
 ⟨by simp, .inr ⟨g, 0, #[], rfl, hb, h, Nat.le_refl _, Nat.zero_le _, by simp, by simp⟩⟩
theorem RowAt.take {w : World} {b off : Nat} {xs : List Value} (h : RowAt w b off xs) (k : Nat) : RowAt w b off (xs.take k) :=
 ⟨h.1, fun i hi => by rw [List.length_take] at hi; rw [h.2 i (by omega), List.getElem_take]⟩
theorem RowAt.drop {w : World} {b off : Nat} {xs : List Value} (h : RowAt w b off xs) (k : Nat) : RowAt w b (off + k) (xs.drop k) :=
 ⟨h.1, fun i hi => by rw [List.length_drop] at hi; rw [Nat.add_assoc, h.2 (k + i) (by omega), List.getElem_drop]⟩
theorem make0 {P : Program} {w : World} {ops : Array Oper} {rest : List Oper} {o : Oper} {a : Act} {Q : Exit → Act → World → Prop} (hgd : o.guard = none) (l c : Operand) (t : TypeId) (ho : o.op = .makeSlice t l c)
  {e : TypeId} {z : Value} {bytes : Nat} (E : ElemOk P t e z bytes) (kl kc : IntKind) (C : Int) (n : Nat) (hl : a.eval l = .int kl 0) (hc : a.eval c = .int kc C) (hC : C = (n : Int)) (hb : bytes * n ≤ 281474976710656) (h63 : n ≤ maxLen)
  (h : ∀ w', w'.ownsRow w.heap.size e 1 (.slice (some ⟨w.heap.size, 0, none⟩) 0 n) 0 [] → w.grownBy w' none → wpList P ops Q rest (a.put o.dst (.slice (some ⟨w.heap.size, 0, none⟩) 0 n)) w') : wpList P ops Q (o :: rest) a w := by
 obtain ⟨i, hi, hz', hsz, hby⟩ := info_parts E.hi
 exact wpList_make_own w hgd l c t ho w.heap.size e i z 1 E.ht hi hz' hsz kl kc C n hl hc hC (by rw [hby]; exact hb) h63 (Nat.le_refl _) h
theorem vD (bs : List (List Int)) (u : List Int) : strs bs ++ [Value.string (strOfNums u)] = strs (bs ++ [u]) := by rw [yN]; rfl
def vB (w : World) (bs : List (List Int)) (u : List Int) (e : Ending) (w' : World) : Prop :=
 ∃ (sa : Option Addr) (sc : Nat), e = .returned (.slice sa (bs.length + 1) sc) ∧ w'.ownsRow w.heap.size 9 1 (.slice sa (bs.length + 1) sc) (bs.length + 1) (strs (bs ++ [u])) ∧ w.grownBy w' none
set_option maxHeartbeats 800000 in
theorem extended_any (B : Nat) (w : World) (v : Value) (bs : List (List Int)) (u : List Int) (h : Row B w v (strs bs)) (hl : bs.length ≤ 100) :
  Calls Try.prog 53 #[v, .string (strOfNums u)] w (vB w bs u) := by
 have H := Kh h
 obtain ⟨va, vc, rfl⟩ := h.shape
 rw [zK] at H ⊢
 obtain ⟨n, hn⟩ : ∃ n, n = bs.length := ⟨_, rfl⟩
 rw [← hn] at H hl
 have HN := Kh hn
 have hone : ∀ x ∈ strs bs, x.oneCell' = true := fun x hx => by
  obtain ⟨y, _, rfl⟩ := List.mem_map.1 hx; rfl
 have HONE := Kh hone
 unfold vB
 rw [← hn]
 clear h hn hone
 go_enter Try.func53, Try.ntmps53
 go_wp2_with (at_make; refine make0 rfl _ _ _ rfl yK .i64 .i64 _ (n + 1) rfl rfl ?m1 ?m2 ?m3 ?_)
 case m1 => omega
 case m2 => omega
 case m3 => unfold maxLen; omega
 intro w1 hown1 hg1
 have hr1 := H.out.kept hg1 (by simp)
 go_wp2_with (at_builtin; refine appR rfl (.tmp 8) (.tmp 9) _ rfl yK w.heap.size _ 0 [] rfl hown1 _ (strs bs) rfl ⟨_, hr1⟩ HONE.out n ?a1 ?a2 ?a3 ?a4 ?_)
 case a1 => rw [zK, ← HN.out]; omega
 case a2 => unfold maxLen; omega
 case a3 => omega
 case a4 => exact hg1.size
 intro s2 c2 w2 hown2 hg2
 have hb2 := fun q (e : (Value.slice (some ⟨w.heap.size, 0, none⟩) 0 (n + 1)).ownBlock = some q) => (hown1.lt q e).1
 have hg02 := zA hg1 hg2 hb2
 go_wp2_with (at_builtin; refine app1 rfl (.tmp 10) (.tmp 12) _ rfl yK w.heap.size _ n (strs bs) rfl hown2 _ rfl rfl ?c1 ?c2 ?c3 ?_)
 case c1 => unfold maxLen; omega
 case c2 => omega
 case c3 => exact hg02.size
 intro s3 c3 w3 hown3 hg3 _
 have hb3 := fun q (e : (Value.slice s2 n c2).ownBlock = some q) => (hown2.lt q e).1
 rw [vD] at hown3
 have HO3 := Kh hown3; have HG3 := Kh (zA hg02 hg3 hb3)
 clear hown1 hown2 hown3 hg1 hg2 hg3 hb2 hb3 hg02 hr1
 go_wp2
 go_ret
 exact ⟨s3, c3, rfl, HO3.out, HG3.out⟩
end Go.Proofs.Ytgbfaggnnfoamaa
