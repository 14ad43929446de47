/- Part 19 of the proof: Minimal, PMini, DErr, DfaT, PosRow0, DiaIn. -/
import Derived.Test.YtjfdomfendbhfaaQb18
import Derived.Deep.OwnRows
set_option linter.unusedVariables false
set_option linter.unusedSimpArgs false
namespace Go.Proofs.Ytjfdomfendbhfaa
open Go.RowKit
def MinOk (w : World) (m : DfaV) (e : Ending) (w' : World) : Prop := ∃ v, e = .returned v ∧ tQ w w' v m ∧ w.grownBy w' none
set_option maxRecDepth 100000 in
set_option maxHeartbeats 1000000 in
theorem nZ (B : Nat) (w : World) (v : Value) (d : DfaV) (n k : Nat) (hB : B ≤ w.heap.size) (h : sC B w v d) (hd : VD d n k) (h5 : n ≤ 512) :
  Calls Try.prog 58 #[v] w (MinOk w (minD d k)) := by
 have hdok := h
 obtain ⟨fb, fo, fc, b, off, cap, RB, RO, RC, rfl, hat⟩ := h.at hd
 obtain ⟨S, hS⟩ : ∃ S, S = st0 d := ⟨_, rfl⟩
 have hvd : dAgg k (st0 d) fb fo fc b off cap n = .agg #[.int .i64 (k : Int), .int .i64 (S : Int), .slice (some ⟨fb, fo, none⟩) n fc, .slice (some ⟨b, off, none⟩) n cap] := by rw [hS]; rfl
 rw [hvd] at hdok ⊢
 obtain ⟨hb1, hb2, hgA, hzA⟩ := rY w #[.int .i64 (k : Int), .int .i64 (S : Int), .slice (some ⟨fb, fo, none⟩) n fc, .slice (some ⟨b, off, none⟩) n cap] #[.int .i64 0, .int .i64 0, .slice none 0 0, .slice none 0 0] 42
 obtain ⟨wA, hWA⟩ : ∃ wA, wA = (w.alloc (.cells #[.int .i64 (k : Int), .int .i64 (S : Int), .slice (some ⟨fb, fo, none⟩) n fc, .slice (some ⟨b, off, none⟩) n cap] 42)).alloc (.cells #[.int .i64 0, .int .i64 0, .slice none 0 0, .slice none 0 0] 42) := ⟨_, rfl⟩
 rw [← hWA] at hb1 hb2 hgA hzA
 obtain ⟨c0, c1, c2, c3⟩ := zG hb1
 obtain ⟨P, hP⟩ : ∃ P, P = w.heap.size := ⟨_, rfl⟩
 obtain ⟨Q, hQ⟩ : ∃ Q, Q = w.heap.size + 1 := ⟨_, rfl⟩
 have HPE := Kh hP; have HQE : Hid (Q = P + 1) := Kh (by omega)
 have hPQ : P < Q := by omega
 have hQw : Q < wA.heap.size := by omega
 have hPw : w.heap.size ≤ P := by omega
 have hBA : B ≤ wA.heap.size := by omega
 rw [← hQ] at hb2
 rw [← hP] at hb1 c0 c1 c2 c3 hB
 have HB1 := Kh hb1; have HB2 := Kh hb2; have HGA := Kh hgA; have HWA := Kh hWA; have HD := Kh hd
 have HDO := Kh (hdok.kept hgA (by simp))
 have HVA := Kh (uF B wA _ d hBA HDO.out)
 have HV0 := Kh (nQ hd h5)
 clear hb1 hb2 hgA hWA hat hd h hdok hvd hS hzA hP hQ
 go_enter Try.func58, Try.ntmps58
 go_upto_region 1 with fail
 rw [← HWA.out, ← HPE.out, ← HQE.out]
 go_wp2_with fail
 refine HVA.out.mono ?_
 rintro e w1 ⟨rfl, hg1⟩
 rw [HV0.out]
 have hz1 := hg1.size
 have HG1 := Kh hg1
 have HB11 := Kh (zB HB1.out hg1 (by simp)); have HB21 := Kh (zB HB2.out hg1 (by simp))
 have HMI := Kh (pminimal_any B w1 _ d n k (by omega) (HDO.out.kept hg1 (by simp)) HD.out h5)
 obtain ⟨d0, d1, d2, d3⟩ := zG HB11.out
 clear hg1 HVA c0 c1 c2 c3
 go_wp2_with fail
 refine HMI.out.mono ?_
 rintro e w2 ⟨v2, sv, rfl, ⟨o, hs, sf, cf, sn, cn, rfl, ho, hbt⟩, hg2⟩
 rw [min_trim HD.out] at hbt ⊢
 obtain ⟨R, hR⟩ : ∃ R, R = minD d k := ⟨_, rfl⟩
 rw [← hR] at hbt ⊢
 have hRk : R.letters = k := by rw [hR]; exact (lQ HD.out).hk
 have hRs : R.start = 0 := by rw [hR]; rfl
 obtain ⟨FL, hFL⟩ : ∃ FL, FL = R.final.length := ⟨_, rfl⟩
 obtain ⟨NL, hNL⟩ : ∃ NL, NL = R.next.length := ⟨_, rfl⟩
 rw [hRk, hRs, ← hFL, ← hNL]
 have HRE := Kh hR; have HRK := Kh hRk; have HRS := Kh hRs; have HFLE := Kh hFL; have HNLE := Kh hNL; have HBT := Kh hbt
 have HG2 := Kh hg2
 obtain ⟨T3, hT3⟩ : ∃ T3, T3 = w2.heap.size := ⟨_, rfl⟩
 obtain ⟨w3, hw3⟩ : ∃ w3, w3 = w2.alloc (.cells #[.int .i64 (k : Int), .int .i64 0, .slice sf FL cf, .slice sn NL cn] 42) := ⟨_, rfl⟩
 have hg3 := World.grownBy_alloc w2 (.cells #[.int .i64 (k : Int), .int .i64 0, .slice sf FL cf, .slice sn NL cn] 42) none
 have hb3 := heap_alloc_new w2 (.cells #[.int .i64 (k : Int), .int .i64 0, .slice sf FL cf, .slice sn NL cn] 42)
 rw [← hw3] at hg3 hb3
 rw [← hT3] at hb3
 have hz2 := hg2.size
 have hz3 := hg3.size
 have HW3 := Kh hw3; have HT3 := Kh hT3; have HG3 := Kh hg3
 have hbQ := zB (zB HB21.out hg2 (by simp)) hg3 (by simp)
 have HBQ := Kh hbQ
 obtain ⟨e0, e1, e2, e3⟩ := zG hb3
 obtain ⟨q0, q1, q2, q3⟩ := zG hbQ
 have f0 := zE hbQ 0
 have f1 := zE hbQ 1
 have f2 := zE hbQ 2
 have f3 := zE hbQ 3
 have hQ3 : Q < T3 := by omega
 clear hR hRk hRs hFL hNL hbt hg2 hw3 hT3 hg3 hb3 hbQ d0 d1 d2 d3 HMI HDO
 go_upto_region 4 with fail
 rw [← HW3.out, ← HT3.out]
 go_wp2
 obtain ⟨hbz, hgz⟩ := vD HBQ.out (.int .i64 (k : Int)) (.int .i64 0) (.slice sf FL cf) (.slice sn NL cn)
 obtain ⟨wz, hwz⟩ : ∃ wz, wz = (((w3.setCell ⟨Q, 0, none⟩ (.int .i64 (k : Int))).setCell ⟨Q, 1, none⟩ (.int .i64 0)).setCell ⟨Q, 2, none⟩ (.slice sf FL cf)).setCell ⟨Q, 3, none⟩ (.slice sn NL cn) := ⟨_, rfl⟩
 rw [← hwz] at hbz hgz ⊢
 clear hwz
 obtain ⟨r0, r1, r2, r3⟩ := zG hbz
 clear e0 e1 e2 e3 q0 q1 q2 q3 f0 f1 f2 f3
 refine bodyPost_ret (v := .agg #[.int .i64 (k : Int), .int .i64 0, .slice sf FL cf, .slice sn NL cn]) (by simp [results, Try.results58, go_sem, r0, r1, r2, r3]) rfl ?_
 have hgW : w.grownBy wz none := zA (zA (zA (zA HGA.out HG1.out (by simp)) HG2.out (by simp)) HG3.out (by simp)) hgz (fun k e => by have h7 : Q = k := Option.some.inj e; omega)
 have hbw := (HBT.out.grow HG3.out).far hgz HBQ.out (by omega)
 refine ⟨_, rfl, ⟨o, hs, sf, cf, sn, cn, ?_, by omega, by rw [← HRE.out]; exact hbw⟩, hgW⟩
 rw [← HRE.out, HRS.out, HRK.out, HFLE.out, HNLE.out]
theorem mk_bool (n : Nat) (h : n ≤ 4096) : ∀ w : World, (Instr.makeSlice 39 (.int .i64 (n : Int)) (.int .i64 (n : Int))).run Try.prog w = .ok (.slice (some ⟨w.heap.size, 0, none⟩) n n) (w.alloc (.cells (madeCells #[.bool false] n) 4)) :=
 fun w => run_make_row' 39 4 (.bool false) 1 Try.underlying39 (by kernel_rfl) rfl .i64 .i64 n (by omega) (by omega) w
theorem made_bool (n : Nat) : (madeCells #[.bool false] n).toList = bls (List.replicate n false) := by
 have := pN (z := .bool false) rfl n
 rw [Nat.mul_one] at this
 rw [show bls (List.replicate n false) = List.replicate n (.bool false) by simp [bls]]; exact this
def zeroD : DfaV := ⟨0, 0, [], []⟩
theorem tV {x : Int} (h : -9223372036854775808 ≤ x ∧ x ≤ 9223372036854775807) : IntKind.i64.wrap x = x := by
 unfold IntKind.wrap; simp [IntKind.bits, IntKind.signed]; omega
theorem RowT.len_le {B e : Nat} {w : World} {v : Value} {xs : List Value} (h : RowT B e w v xs) : xs.length ≤ maxLen := h.row.len_le
theorem Mat.of_rowT {w : World} {B e : Nat} {v : Value} {hs : List Value} {t : List (List Int)} (h : RowT B e w v hs) (hr : wL B 3 ints w hs t) (hB : B ≤ w.heap.size) : Mat w.heap.size w v t := by
 have hht := hr.1
 rcases h with ⟨rfl, rfl⟩ | ⟨b, off, cap, cur, m, rfl, hb, hc1, hc2, hg, hcell⟩
 ·exact .inl ⟨_, _, rfl, List.eq_nil_of_length_eq_zero (by simpa using hht.symm)⟩
 ·have hsh : ∀ x, ∃ a c, x < t.length → hs.getD x (.int .i64 0) = .slice a (t.getD x []).length c := by
   intro x
   by_cases hx : x < t.length
   ·have h1 := hr.2 x (by omega) hx
    obtain ⟨a, c, e⟩ := h1.shape
    refine ⟨a, c, fun _ => ?_⟩
    rw [zI (by omega), e, yW, zI hx]
   ·exact ⟨none, 0, fun h => absurd h hx⟩
  obtain ⟨A, hA⟩ := Classical.axiomOfChoice hsh
  obtain ⟨C, hC⟩ := Classical.axiomOfChoice hA
  refine .inr ⟨b, off, cap, A, C, by rw [hht], by omega, hc2, zN hg, zN hg, fun x hx => ?_, fun x hx => ?_⟩
  ·rw [cell_of_row w b (off + x) _ _ _ hg, hcell x (by omega), ← hC x hx, zI (show x < hs.length by omega)]
  ·have h1 := hr.2 x (by omega) hx
   have h2 := hC x hx
   rw [zI (show x < hs.length by omega)] at h2
   rw [← h2, zI hx]
   exact h1.row.mono hB
def DfaT (w : World) (f nx : Value) (d : DfaV) : Prop := ∃ hs, RowT w.heap.size 4 w f (bls d.final) ∧ RowT w.heap.size 34 w nx hs ∧ wL w.heap.size 3 ints w hs d.next
section
variable {w w' : World} {f nx : Value} {d : DfaV}
theorem DfaT.kept {row : Option Nat} (h : DfaT w f nx d) (hg : w.grownBy w' row) (h1 : ∀ k, row = some k → zY w 4 k ∧ zY w 34 k ∧ zY w 3 k) : DfaT w' f nx d := by
 obtain ⟨hs, a, b, c⟩ := h
 exact ⟨hs, (a.kept hg (fun k hk => .inr (h1 k hk).1)).mono hg.size, (b.kept hg (fun k hk => .inr (h1 k hk).2.1)).mono hg.size, (c.kept hg (fun k hk => .inr (h1 k hk).2.2)).mono hg.size⟩
theorem DfaT.grow (h : DfaT w f nx d) (hg : w.grownBy w' none) : DfaT w' f nx d := h.kept hg (by simp)
theorem DfaT.zero (w : World) : DfaT w (.slice none 0 0) (.slice none 0 0) zeroD := ⟨[], .inl ⟨rfl, rfl⟩, .inl ⟨rfl, rfl⟩, wL.nil⟩
theorem DfaT.ok (h : DfaT w f nx d) : sC w.heap.size w (.agg #[.int .i64 d.letters, .int .i64 d.start, f, nx]) d := by
 obtain ⟨hs, a, b, c⟩ := h
 exact ⟨_, _, rfl, a.row, Mat.of_rowT b c (Nat.le_refl _)⟩
end
theorem tQ.t {w w' : World} {v : Value} {m : DfaV} (h : tQ w w' v m) : ∃ f nx, v = .agg #[.int .i64 m.letters, .int .i64 m.start, f, nx] ∧ DfaT w' f nx m := by
 obtain ⟨o, hs, sf, cf, sn, cn, rfl, _, hb⟩ := h
 exact ⟨_, _, rfl, hs, RowT.of_owns hb.ownF, RowT.of_owns hb.ownN, hb.rows⟩
def DfaErrT (w : World) (E : Int) (m : DfaV) (e : Ending) (w' : World) : Prop := ∃ f nx, e = .returned (.tuple #[.agg #[.int .i64 m.letters, .int .i64 m.start, f, nx], .int .i64 E]) ∧ DfaT w' f nx m ∧ w.grownBy w' none
theorem wp_appM {P : Program} {w : World} {o : Oper} {a : Act} {K : Act → World → Prop} {Q : Exit → Act → World → Prop} (s x : Operand) (t : TypeId)
  (ho : o.op = .call { callee := .builtin .append, args := #[s, x], argTypes := #[t, t] })
  {e : TypeId} {sz : Nat} {z : Value} {bytes : Nat} (E : ElemN P t e sz z bytes) (base : Nat) (v : Value) (n : Nat) (xs : List Value) (hs : a.eval s = v) (hown : w.ownsRow base e sz v n xs)
  (us : List Value) (g : Nat) (hx : a.eval x = .slice (some ⟨g, 0, none⟩) 1 1) (m : Nat × Nat) (hus : us.length = sz) (hg : w.heap[g]? = some (.cells us.toArray e m)) (h1 : ∀ u ∈ us, u.oneCell' = true) (h63 : n + 1 ≤ maxLen) (hbytes : (n + 1) * bytes ≤ 140737488355328) (hbase : base ≤ w.heap.size)
  (h : ∀ sa sc w', w'.ownsRow base e sz (.slice sa (n + 1) sc) (n + 1) (xs ++ us) → w.grownBy w' v.ownBlock → nM w w' v (.slice sa (n + 1) sc) → K (a.put o.dst (.slice sa (n + 1) sc)) w') : o.wp P a w K Q := by
 have hadd : ∀ j, (⟨g, 0, none⟩ : Addr).add j = ⟨g, j, none⟩ := fun j => by unfold Addr.add; split <;> simp_all
 have hra : SrcRow w sz (.slice (some ⟨g, 0, none⟩) 1 1) 1 us := .inr ⟨g, 0, 1, rfl, by omega, by unfold maxLen; omega, fun i u hi => by
  obtain ⟨hl, e⟩ := List.getElem?_eq_some_iff.1 hi
  have := zO hg i (by simpa using hl)
  rw [Nat.zero_add, this]; simpa using e⟩
 obtain ⟨v', w', hr, h2, h3, h4⟩ := run_append_movedR (P := P) base t o.type E v n xs hown _ 1 us hra h1 h63 hbytes hbase
 obtain ⟨sa, sc, rfl⟩ := rG h2
 unfold Oper.wp execOp
 simp only [ho, resolve, invoke, builtin, Sem.run_bind, Sem.run_pure, Result.andThen_ok, List.map_toArray, List.map_cons, List.map_nil, hs, hx, hr]
 exact h sa sc w' h2 h3 h4
theorem jB {P : Program} {ops : Array Oper} {w : World} {o : Oper} {a : Act} {K : Act → World → Prop} {Q : Exit → Act → World → Prop} {R : Prop} (hgd : o.guard = none) (s x : Operand) (t : TypeId)
  (ho : o.op = .call { callee := .builtin .append, args := #[s, x], argTypes := #[t, t] })
  {e : TypeId} {sz : Nat} {z : Value} {bytes : Nat} (E : ElemN P t e sz z bytes) (base : Nat) (v : Value) (n : Nat) (xs : List Value) (hs : a.eval s = v) (hown : w.ownsRow base e sz v n xs)
  (us : List Value) (g : Nat) (hx : a.eval x = .slice (some ⟨g, 0, none⟩) 1 1) (m : Nat × Nat) (hus : us.length = sz) (hg : w.heap[g]? = some (.cells us.toArray e m)) (h1 : ∀ u ∈ us, u.oneCell' = true) (h63 : n + 1 ≤ maxLen) (hbytes : (n + 1) * bytes ≤ 140737488355328) (hbase : base ≤ w.heap.size)
  (h : ∀ sa sc w', w'.ownsRow base e sz (.slice sa (n + 1) sc) (n + 1) (xs ++ us) → w.grownBy w' v.ownBlock → nM w w' v (.slice sa (n + 1) sc) → K (a.put o.dst (.slice sa (n + 1) sc)) w') : if Region.wanted o (yielded ops a.tmps) = true then Oper.wp P o a w K Q else R := by
 have hw : Region.wanted o (yielded ops a.tmps) = true := by simp [Region.wanted, hgd]
 rw [if_pos hw]
 exact wp_appM s x t ho E base v n xs hs hown us g hx m hus hg h1 h63 hbytes hbase h
theorem app_lit {P : Program} {w : World} {ops : Array Oper} {rest : List Oper} {o : Oper} {a : Act} {Q : Exit → Act → World → Prop} (hgd : o.guard = none) (s x : Operand) (t : TypeId)
  (ho : o.op = .call { callee := .builtin .append, args := #[s, x], argTypes := #[t, t] })
  {e : TypeId} {sz : Nat} {z : Value} {bytes : Nat} (E : ElemN P t e sz z bytes) (base : Nat) (v : Value) (n : Nat) (xs : List Value) (hs : a.eval s = v) (hown : w.ownsRow base e sz v n xs)
  (us : List Value) (hx : a.eval x = .slice (some ⟨w.heap.size, 0, none⟩) 1 1) (hus : us.length = sz) (h1 : ∀ u ∈ us, u.oneCell' = true) (h63 : n + 1 ≤ maxLen) (hbytes : (n + 1) * bytes ≤ 140737488355328) (hbase : base ≤ w.heap.size)
  (h : ∀ sa sc w', w'.ownsRow base e sz (.slice sa (n + 1) sc) (n + 1) (xs ++ us) → w.grownBy w' v.ownBlock → wpList P ops Q rest (a.put o.dst (.slice sa (n + 1) sc)) w') :
  wpList P ops Q (o :: rest) a (w.alloc (.cells us.toArray e)) :=
 wpList_plain hgd fun _ hK => wp_appM s x t ho E base v n xs hs (hown.alloc _) us w.heap.size hx (0, 0) hus (heap_alloc_new w _) h1 h63 hbytes (by simp; omega) fun sa sc w' h2 h3 _ => hK _ _ (h sa sc w' h2 (zF (World.grownBy_alloc w _ _) h3))
theorem rQ {P : Program} {w : World} {ops : Array Oper} {rest : List Oper} {o : Oper} {a : Act} {Q : Exit → Act → World → Prop} (hgd : o.guard = none) (s x : Operand) (t : TypeId)
  (ho : o.op = .call { callee := .builtin .append, args := #[s, x], argTypes := #[t, t] })
  {e : TypeId} {sz : Nat} {z : Value} {bytes : Nat} (E : ElemN P t e sz z bytes) (base : Nat) (v : Value) (n : Nat) (xs : List Value) (hs : a.eval s = v) (hown : w.ownsRow base e sz v n xs)
  (us : List Value) (hx : a.eval x = .slice (some ⟨w.heap.size, 0, none⟩) 1 1) (hus : us.length = sz) (h1 : ∀ u ∈ us, u.oneCell' = true) (h63 : n + 1 ≤ maxLen) (hbytes : (n + 1) * bytes ≤ 140737488355328) (hbase : base ≤ w.heap.size)
  (h : ∀ sa sc w', w'.ownsRow base e sz (.slice sa (n + 1) sc) (n + 1) (xs ++ us) → w.grownBy w' v.ownBlock → nM w w' v (.slice sa (n + 1) sc) → wpList P ops Q rest (a.put o.dst (.slice sa (n + 1) sc)) w') :
  wpList P ops Q (o :: rest) a (w.alloc (.cells us.toArray e)) :=
 wpList_plain hgd fun _ hK => wp_appM s x t ho E base v n xs hs (hown.alloc _) us w.heap.size hx (0, 0) hus (heap_alloc_new w _) h1 h63 hbytes (by simp; omega) fun sa sc w' h2 h3 h4 => hK _ _ (h sa sc w' h2 (zF (World.grownBy_alloc w _ _) h3) (by
  rcases h4 with h4 | ⟨h4, h5⟩
  ·exact .inl h4
  ·exact .inr ⟨zF (World.grownBy_alloc w _ none) h4, fun k hk => by have := h5 k hk; rw [zJ] at this; omega⟩))
theorem wB {w w' : World} {p : Addr} {u : Value} (h : w.cell? p = some u) (hg : w.grownBy w' none) : w'.cell? p = some u := (World.cell?_of_block (hg.block p.block (World.block_lt_of_cell? w p h) (by simp))).trans h
def vJ (B : Nat) (w : World) (v : Value) (ps : List (List ByteArray)) : Prop :=
 ∃ svs, Row B w v svs ∧ svs.length = ps.length ∧ ∀ i (h1 : i < svs.length) (h2 : i < ps.length), Row B w svs[i] (txtV ps[i]) ∧ ∀ j (hj : j < ps[i].length), ps[i][j].size ≤ maxLen
section
variable {B : Nat} {w : World} {v : Value} {ps : List (List ByteArray)}
theorem vJ.kept {w' : World} {row : Option Nat} (h : vJ B w v ps) (hg : w.grownBy w' row) (hr : ∀ k, row = some k → B ≤ k) : vJ B w' v ps := by
 obtain ⟨svs, h1, h2, h3⟩ := h
 exact ⟨svs, h1.kept hg hr, h2, fun i h4 h5 => ⟨(h3 i h4 h5).1.kept hg hr, (h3 i h4 h5).2⟩⟩
theorem vJ.mono {B' : Nat} (h : vJ B w v ps) (hB : B ≤ B') : vJ B' w v ps := by
 obtain ⟨svs, h1, h2, h3⟩ := h
 exact ⟨svs, h1.mono hB, h2, fun i h4 h5 => ⟨(h3 i h4 h5).1.mono hB, (h3 i h4 h5).2⟩⟩
theorem vJ.shape (h : vJ B w v ps) : ∃ a c, v = .slice a ps.length c := by
 obtain ⟨svs, h1, h2, h3⟩ := h
 obtain ⟨a, c, rfl⟩ := h1.shape
 exact ⟨a, c, by rw [h2]⟩
theorem vJ.len_le (h : vJ B w v ps) : ps.length ≤ maxLen := by
 obtain ⟨svs, h1, h2, h3⟩ := h
 rw [← h2]; exact h1.len_le
theorem vJ.nil (a : Option Addr) (c : Nat) : vJ B w (.slice a 0 c) [] := ⟨[], .inl ⟨a, c, rfl, rfl⟩, rfl, fun i h => by simp at h⟩
theorem vJ.at_ (h : vJ B w v ps) (h0 : 0 < ps.length) : ∃ b off cap, v = .slice (some ⟨b, off, none⟩) ps.length cap ∧ b < B ∧ ps.length ≤ cap ∧ cap ≤ maxLen ∧
  ∀ i, i < ps.length → ∃ sa sc, w.cell? ⟨b, off + i, none⟩ = some (.slice sa (ps.getD i []).length sc) ∧ Row B w (.slice sa (ps.getD i []).length sc) (txtV (ps.getD i [])) ∧ ∀ j (hj : j < (ps.getD i []).length), (ps.getD i [])[j].size ≤ maxLen := by
 obtain ⟨svs, h1, h2, h3⟩ := h
 obtain ⟨b, off, cap, rfl, hb, hc, hm, hra⟩ := h1.some_ (by omega)
 refine ⟨b, off, cap, by rw [h2], hb, by omega, hm, fun i hi => ?_⟩
 have hi' : i < svs.length := by omega
 obtain ⟨h4, h5⟩ := h3 i hi' hi
 obtain ⟨sa, sc, e⟩ := h4.shape
 rw [yA] at e
 have hc := hra.2 i hi'
 have e2 : ps.getD i [] = ps[i] := zI hi
 rw [e2]
 refine ⟨sa, sc, by rw [hc, e], by rw [← e]; exact h4, h5⟩
end
structure ChosO (w : World) (g off : Nat) (cs : List ChoV) : Prop where
 lt : g < w.heap.size
 p : ∀ i, i < cs.length → w.cell? ⟨g, off + i * 3, none⟩ = some (.int .i64 (cs.getD i default).p)
 y : ∀ i, i < cs.length → w.cell? ⟨g, off + i * 3 + 1, none⟩ = some (.int .i64 (cs.getD i default).y)
 n : ∀ i, i < cs.length → w.cell? ⟨g, off + i * 3 + 2, none⟩ = some (.int .i64 (cs.getD i default).n)
theorem ChosO.kept {w w' : World} {g off : Nat} {cs : List ChoV} {row : Option Nat} (h : ChosO w g off cs) (hg : w.grownBy w' row) (hr : row ≠ some g) : ChosO w' g off cs := by
 have hb := hg.block g h.lt (fun e => hr e.symm)
 exact ⟨Nat.lt_of_lt_of_le h.lt hg.size, fun i hi => (World.cell?_of_block hb).trans (h.p i hi), fun i hi => (World.cell?_of_block hb).trans (h.y i hi), fun i hi => (World.cell?_of_block hb).trans (h.n i hi)⟩
def sY (B : Nat) (w : World) (v : Value) (cs : List ChoV) : Prop :=
 (∃ a cap, v = .slice a 0 cap ∧ cs = []) ∨ ∃ b off cap, v = .slice (some ⟨b, off, none⟩) cs.length cap ∧ b < B ∧ cs.length ≤ cap ∧ cap ≤ maxLen ∧ ChosO w b off cs
section
variable {B : Nat} {w : World} {v : Value} {cs : List ChoV}
theorem sY.kept {w' : World} {row : Option Nat} (h : sY B w v cs) (hg : w.grownBy w' row) (hr : ∀ k, row = some k → B ≤ k) : sY B w' v cs := by
 rcases h with h | ⟨b, off, cap, h1, h2, h3, h4, h5⟩
 ·exact .inl h
 ·exact .inr ⟨b, off, cap, h1, h2, h3, h4, h5.kept hg (fun e => by have := hr b e; omega)⟩
theorem sY.mono {B' : Nat} (h : sY B w v cs) (hB : B ≤ B') : sY B' w v cs := by
 rcases h with h | ⟨b, off, cap, h1, h2, h3⟩
 ·exact .inl h
 ·exact .inr ⟨b, off, cap, h1, by omega, h3⟩
theorem sY.shape (h : sY B w v cs) : ∃ a c, v = .slice a cs.length c := by
 rcases h with ⟨a, c, rfl, rfl⟩ | ⟨b, off, cap, rfl, _⟩
 ·exact ⟨a, c, rfl⟩
 ·exact ⟨_, _, rfl⟩
theorem sY.len_le (h : sY B w v cs) : cs.length ≤ maxLen := by
 rcases h with ⟨a, c, rfl, rfl⟩ | ⟨b, off, cap, rfl, h1, h2, h3, _⟩
 ·exact Nat.zero_le _
 ·omega
theorem sY.at_ (h : sY B w v cs) (h0 : 0 < cs.length) : ∃ b off cap, v = .slice (some ⟨b, off, none⟩) cs.length cap ∧ b < B ∧ cs.length ≤ cap ∧ cap ≤ maxLen ∧ ChosO w b off cs := by
 rcases h with ⟨a, c, rfl, rfl⟩ | h
 ·simp at h0
 ·exact h
end
def lH (B : Nat) (w : World) (v : Value) (g : DiaV) : Prop := ∃ pv cv, v = .agg #[pv, cv, .int .i64 g.root] ∧ vJ B w pv g.pats ∧ sY B w cv g.chos
theorem lH.kept {B : Nat} {w w' : World} {v : Value} {g : DiaV} {row : Option Nat} (h : lH B w v g) (hg : w.grownBy w' row) (hr : ∀ k, row = some k → B ≤ k) : lH B w' v g := by
 obtain ⟨pv, cv, h1, h2, h3⟩ := h
 exact ⟨pv, cv, h1, h2.kept hg hr, h3.kept hg hr⟩
theorem lH.mono {B B' : Nat} {w : World} {v : Value} {g : DiaV} (h : lH B w v g) (hB : B ≤ B') : lH B' w v g := by
 obtain ⟨pv, cv, h1, h2, h3⟩ := h
 exact ⟨pv, cv, h1, h2.mono hB, h3.mono hB⟩
theorem zW {w : World} {p e : Nat} {x0 x1 x2 : Value} {m : Nat × Nat} (h : w.heap[p]? = some (.cells #[x0, x1, x2] e m)) :
  w.cell? ⟨p, 0, none⟩ = some x0 ∧ w.cell? ⟨p, 1, none⟩ = some x1 ∧ w.cell? ⟨p, 2, none⟩ = some x2 := by
 have c0 := zO h 0 (by simp)
 have c1 := zO h 1 (by simp)
 have c2 := zO h 2 (by simp)
 exact ⟨by simpa using c0, by simpa using c1, by simpa using c2⟩
end Go.Proofs.Ytjfdomfendbhfaa
