/- Part 38 of the proof: CDia, CAcc. -/
import Derived.Test.YtjfdomfendbhfaaQb37
set_option linter.unusedVariables false
set_option linter.unusedSimpArgs false
namespace Go.Proofs.Ytjfdomfendbhfaa
open Go.RowKit Go.Maps
def DiaRet (w : World) (ps : List (List ByteArray)) (l : List ClaV) (e : Ending) (w' : World) : Prop :=
 ∃ v g, e = .returned v ∧ (∀ w2 row, w'.grownBy w2 row → (∀ j, row = some j → j < w.heap.size) → lH w2.heap.size w2 v g) ∧ g.pats = ps ∧ wF ps.length g.chos g.chos.length ∧ 0 ≤ g.root ∧ g.root ≤ 1 + (g.chos.length : Int) ∧ (∀ c ∈ l, decG g.chos (fun i => c.m.getD i false) g.root = c.b) ∧ g.chos.length + 1 ≤ l.length ∧ w.grownBy w' none
theorem jI {w w' : World} {base e sz n : Nat} {v : Value} {xs : List Value} {row : Option Nat} (h : w.ownsRow base e sz v n xs) (hg : w.grownBy w' row) (hr : ∀ j, row = some j → j < base) : w'.ownsRow base e sz v n xs := by
 rcases hv : v.ownBlock with _ | k
 ·exact h.kept hg (.inl hv)
 ·exact h.kept hg (.inr (fun e => by have h1 := (h.lt k hv).1; have := hr k (by rw [← e, hv]); omega))
theorem elem_pat1 : ElemN Try.prog 22 28 1 (.agg #[.slice none 0 0]) 24 := ⟨by kernel_rfl, by kernel_rfl, by rfl, by decide⟩
theorem sclone_any (B : Nat) (w : World) (v : Value) (p : List ByteArray) (h : Row B w v (txtV p)) (hl : p.length ≤ 100000) :
  Calls Try.prog 87 #[v] w fun e w' => ∃ sa sc, e = .returned (.slice sa p.length sc) ∧ w'.ownsRow w.heap.size 9 1 (.slice sa p.length sc) p.length (txtV p) ∧ w.grownBy w' none := by
 rcases h with ⟨a, c, rfl, hx⟩ | ⟨b, off, cap, rfl, _, hc1, hc2, hra⟩
 ·have hp : p = [] := by simpa [txtV] using hx
  subst hp
  rcases a with _ | a
  ·exact (Try.slices_Clone_string_nil 0 c w).mono fun e w' ⟨h1, h2⟩ => ⟨none, 0, h1, by rw [h2]; exact World.ownsRow_nil _ _ _ _, by rw [h2]; exact zL _ _⟩
  ·exact (Try.slices_Clone_string_zero a c w).mono fun e w' ⟨v', h1, h2, _, h3⟩ => by
    obtain ⟨sa, sc, rfl⟩ := rG h2
    exact ⟨sa, sc, h1, h2, oP h3⟩
 ·rw [yA]
  refine (Try.slices_Clone_string b off p.length cap p w (Nat.le_refl _) (by omega) (fun j hj => ?_)).mono ?_
  ·exact uH hra j hj
  ·rintro e w' ⟨v', rfl, hown, _, hbel⟩
   rw [List.take_of_length_le (Nat.le_refl _)] at hown
   obtain ⟨sa, sc, rfl⟩ := rG hown
   exact ⟨sa, sc, rfl, hown, oP hbel⟩
theorem clsok_of {M : Nat → List Bool} {A : Nat → Bool} {s np : Nat} {l : List ClaV} (h : ClsI M A s s l) (hM : ∀ i, (M i).length = np) : ClsOk np l := ⟨fun c hc => by obtain ⟨i, _, e⟩ := h.met c hc; rw [← e]; exact hM i, h.nd⟩
set_option maxRecDepth 100000 in
set_option maxHeartbeats 3200000 in
theorem diagram_any (Bd : Nat) (w : World) (pv lv : Value) (ps : List (List ByteArray)) (l : List ClaV) (hBd : Bd ≤ w.heap.size) (hp : vJ Bd w pv ps) (hl : ClsX (fun k => k < w.heap.size) w lv l) (h0 : 0 < l.length) (h4 : l.length ≤ 4000) (hcl : ClsOk ps.length l) (h3 : ps.length ≤ 300) (h8 : ∀ p ∈ ps, p.length ≤ 100000) :
  Calls Try.prog 61 #[pv, lv] w (DiaRet w ps l) := by
 obtain ⟨pa, pc, rfl⟩ := hp.shape
 obtain ⟨la, lc, rfl⟩ := hl.shape
 obtain ⟨np, hnp⟩ : ∃ n, n = ps.length := ⟨_, rfl⟩
 have HNP := Kh hnp; have HP := Kh hp
 rw [← hnp] at hcl h3 HP ⊢
 obtain ⟨n, hn⟩ : ∃ n, n = l.length := ⟨_, rfl⟩
 have HN := Kh hn
 have HL := Kh hl; have H0 := Kh h0; have H4 := Kh h4; have HCL := Kh hcl; have H8 := Kh h8
 rw [← hn] at HL ⊢
 have hmm := @run_makeMap Try.prog
 clear hp hl hnp hn h0 h4 hcl h8
 go_enter Try.func61, Try.ntmps61
 go_upto_region 1 with fail
 obtain ⟨wA, hwA⟩ : ∃ wA, wA = w.alloc (.cells #[.slice none 0 0, .slice none 0 0, .int .i64 0] 25) := ⟨_, rfl⟩
 have hgA := World.grownBy_alloc w (.cells #[.slice none 0 0, .slice none 0 0, .int .i64 0] 25) none
 have hbA := heap_alloc_new w (.cells #[.slice none 0 0, .slice none 0 0, .int .i64 0] 25)
 have hzA : wA.heap.size = w.heap.size + 1 := by rw [hwA, zJ]
 obtain ⟨P, hP⟩ : ∃ P, P = w.heap.size := ⟨_, rfl⟩
 rw [← hwA] at hgA hbA ⊢
 rw [← hP] at hbA ⊢
 have HPE := Kh hP
 obtain ⟨mb, hmb⟩ : ∃ b, b = wA.heap.size := ⟨_, rfl⟩
 obtain ⟨w1, hw1⟩ : ∃ w1, w1 = wA.alloc (.map #[] 0) := ⟨_, rfl⟩
 have hmade := MapK.made 45 ChoOk choW wA
 have hg1 := World.grownBy_alloc wA (.map #[] 0) none
 have hz1 : w1.heap.size = mb + 1 := by rw [hw1, zJ, hmb]
 rw [← hw1] at hmade hg1
 rw [← hmb] at hmade
 have hb2 := heap_alloc_new w1 (.cells #[.slice none 0 0, .map (some mb)] 137)
 have hg2 := World.grownBy_alloc w1 (.cells #[.slice none 0 0, .map (some mb)] 137) none
 obtain ⟨w2, hw2⟩ : ∃ w2, w2 = w1.alloc (.cells #[.slice none 0 0, .map (some mb)] 137) := ⟨_, rfl⟩
 have hz2 : w2.heap.size = mb + 2 := by rw [hw2, zJ, hz1]
 obtain ⟨o, ho⟩ : ∃ o, o = w1.heap.size := ⟨_, rfl⟩
 rw [← hw2] at hb2 hg2
 rw [← ho] at hb2
 have HBA2 := Kh (zB (zB hbA hg1 (by simp)) hg2 (by simp))
 have hgA2 : wA.grownBy w2 none := zA hg1 hg2 (by simp)
 have HZ02 : Hid (w.heap.size ≤ w2.heap.size) := Kh (by omega)
 have hg02 : w.grownBy w2 none := zA hgA hgA2 (by simp)
 have hty1 : (45 : Nat) ≠ 137 := by decide
 have hty3 : (45 : Nat) ≠ 25 := by decide
 have hty2 : (28 : Nat) ≠ 25 := by decide
 have HB2 : Hid (BldS wA w2.heap.size (fun k => k < w.heap.size) o mb w2 [] w2) := Kh ⟨none, 0, 0, 0, ⟨⟨fun r hr => by simp at hr; subst hr; exact World.ownsRow_nil _ _ _ _, List.pairwise_singleton _ _, fun r hr k hk => by simp at hr; subst hr; simp [Value.ownBlock] at hk, fun k hk => Nat.lt_of_lt_of_le hk hg02.size⟩, fun r hr => by simp at hr; subst hr; exact ⟨rfl, hty1⟩, hb2, fun e => by have e : o < w.heap.size := e; omega, by omega, by omega, Nat.le_refl _, hgA2, vA.refl _ _, Nat.le_refl _⟩, hmade.kept hg2 (by simp), fun e => by have e : mb < w.heap.size := e; omega, by omega, Nat.le_refl _⟩
 have HCALL : Hid (Calls Try.prog 86 #[.pointer (some ⟨o, 0, none⟩), .slice la n lc, .int .i64 0] w2 (BdRet wA w2.heap.size (fun k => k < w.heap.size) o mb np w2 [] l 0)) := Kh (bdecide_any wA w2.heap.size o mb np (by omega) l.length (fun k => k < w.heap.size) w2 _ l [] 0 (Nat.le_refl _) H0.out (HL.out.grow hg02) HB2.out HCL.out (fun c _ c' _ q hq => by omega) (Nat.zero_le _) (fun i hi => by simp at hi) List.nodup_nil (by have := H4.out; simp; omega))
 have HW1 := Kh hw1; have HW2 := Kh hw2; have HMB := Kh hmb; have HOE : Hid (o = mb + 1) := Kh (by omega)
 have HBA := Kh hbA; have HGA := Kh hgA
 have hzw := hgA.size
 clear hbA hgA hzA hP hmb hw1 hmade hg1 hz1 hb2 hg2 hw2 hz2 ho hg02 hgA2 hwA HB2
 go_upto_region 2 with fail
 rw [← HMB.out, ← HW1.out, ← HOE.out, ← HW2.out]
 clear hmm
 go_wp2_with fail
 refine HCALL.out.mono ?_
 rintro e w3 ⟨cs, r, rfl, hb3, hd3⟩
 have HD3 := Kh hd3
 have HG3 := Kh (zA HGA.out hb3.facts.1 (by simp))
 have HBA3 := Kh (zB HBA.out hb3.facts.1 (by simp))
 obtain ⟨sa, cap, u, c, hbx, hown, _, _⟩ := hb3.cells
 obtain ⟨b0, b1⟩ := lE hbx
 have HOC := Kh hown
 have hlo := hd3.lo
 obtain ⟨q, rfl⟩ : ∃ q : Nat, r = (q : Int) := ⟨r.toNat, by omega⟩
 obtain ⟨m, hm⟩ : ∃ m, m = cs.length := ⟨_, rfl⟩
 rw [← hm] at b0 HOC
 have HM := Kh hm
 have hb4 := heap_alloc_new w3 (.cells #[.slice none 0 0, .slice sa m cap, .int .i64 (q : Int)] 25)
 have hg4 := World.grownBy_alloc w3 (.cells #[.slice none 0 0, .slice sa m cap, .int .i64 (q : Int)] 25) none
 obtain ⟨w4, hw4⟩ : ∃ w4, w4 = w3.alloc (.cells #[.slice none 0 0, .slice sa m cap, .int .i64 (q : Int)] 25) := ⟨_, rfl⟩
 have hz4 : w4.heap.size = w3.heap.size + 1 := by rw [hw4, zJ]
 obtain ⟨od, hod⟩ : ∃ o, o = w3.heap.size := ⟨_, rfl⟩
 rw [← hw4] at hb4 hg4
 rw [← hod] at hb4
 have HW4 := Kh hw4; have HOD := Kh hod
 have HS4 : Hid (BoxS w4.heap.size (fun _ => False) od 25 w3 w4 (⟨w4.heap.size, 28, .slice none 0 0, 0, [], 1⟩ :: []) #[.slice none 0 0, .slice sa m cap, .int .i64 (q : Int)] w4) := Kh ⟨⟨fun r hr => by simp at hr; subst hr; exact World.ownsRow_nil _ _ _ _, List.pairwise_singleton _ _, fun r hr k hk => by simp at hr; subst hr; simp [Value.ownBlock] at hk, fun k hk => hk.elim⟩, fun r hr => by simp at hr; subst hr; exact ⟨rfl, hty2⟩, hb4, fun e => e, by omega, by omega, Nat.le_refl _, hg4, vA.refl _ _, Nat.le_refl _⟩
 have HZ34 : Hid (w3.heap.size ≤ w4.heap.size) := Kh hg4.size
 have HZW : Hid (w.heap.size ≤ w2.heap.size ∧ w.heap.size ≤ w4.heap.size) := Kh ⟨HZ02.out, Nat.le_trans HG3.out.size hg4.size⟩
 have HPL : Hid (P < w3.heap.size) := Kh (zN HBA3.out)
 have HZ3 : Hid (Bd ≤ w3.heap.size) := Kh (Nat.le_trans hBd HG3.out.size)
 clear hb3 hd3 hbx hown hm hw4 hod hg4 hz4 hb4 HCALL HBA HGA b1
 go_upto_region 4 with fail
 rw [← HOD.out, ← HW4.out]
 clear b0
 go_wp2
 go_loopg [24] np (fun gh v24 wr => ∃ (k : Nat) (sp : Option Addr) (cp : Nat) (svs : List Value) (X : Nat → Prop), gh + k = np ∧ v24 = .int .i64 k ∧ BoxS w4.heap.size X od 25 w3 wr (⟨w4.heap.size, 28, .slice sp k cp, k, svs, 1⟩ :: []) #[.slice sp k cp, .slice sa m cap, .int .i64 (q : Int)] wr ∧ vX X 9 txtV wr svs (ps.take k) ∧ (∀ j, X j → w4.heap.size ≤ j))
 case atStart => exact ⟨0, none, 0, [], fun _ => False, rfl, rfl, HS4.out, vX.nil, fun _ h => h.elim⟩
 case round =>
  clear HS4
  obtain ⟨k, sp, cp, svs, X, hgk, rfl, hbs, hrx, hxl⟩ := hrel
  have HXL := Kh hxl
  have HGK := Kh hgk; have HBS := Kh hbs; have HRX := Kh hrx
  have hgr := hbs.grown
  clear hgk hbs hrx hxl
  by_cases hk : k < np
  ·have hk' : (k : Int) < np := by omega
   obtain ⟨b, off, pcap, e, hbB, hc1, hc2, hall⟩ := ((HP.out.kept HG3.out (by simp)).kept hgr (by simp)).at_ (by rw [← HNP.out]; omega)
   rw [← HNP.out] at e hc1 hall
   simp only [Value.slice.injEq, true_and] at e
   obtain ⟨rfl, rfl⟩ := e
   have hmx : pc ≤ 9223372036854775807 := by unfold maxLen at hc2; omega
   obtain ⟨ea, ec, c1, hrow, hsz⟩ := hall k hk
   obtain ⟨p, hp⟩ : ∃ p, p = ps.getD k [] := ⟨_, rfl⟩
   have hp8 : p.length ≤ 100000 := H8.out p (by rw [hp, zI (by rw [← HNP.out]; exact hk)]; exact List.getElem_mem _)
   rw [← hp] at c1 hrow
   have HPK := Kh hp
   have HSC : Hid (∀ W : World, wr.grownBy W none → Calls Try.prog 87 #[.slice ea p.length ec] W fun e w' => ∃ sa sc, e = .returned (.slice sa p.length sc) ∧ w'.ownsRow W.heap.size 9 1 (.slice sa p.length sc) p.length (txtV p) ∧ W.grownBy w' none) := Kh (fun W hW => sclone_any Bd W _ p (hrow.kept hW (by simp)) hp8)
   obtain ⟨pl, hpl⟩ : ∃ n, n = p.length := ⟨_, rfl⟩
   rw [← hpl] at c1 HSC
   have hbR := heap_alloc_new wr (.cells #[.slice ea pl ec] 28)
   have hgR := World.grownBy_alloc wr (.cells #[.slice ea pl ec] 28) none
   obtain ⟨wR, hwR⟩ : ∃ wR, wR = wr.alloc (.cells #[.slice ea pl ec] 28) := ⟨_, rfl⟩
   obtain ⟨R, hR⟩ : ∃ R, R = wr.heap.size := ⟨_, rfl⟩
   rw [← hwR] at hbR hgR
   rw [← hR] at hbR
   have HWR := Kh hwR; have HRE := Kh hR; have HGRR := Kh hgR; have HBR := Kh hbR
   clear hall hrow hsz hp hpl hwR hR hgR hbR hc1 hc2 hgr
   go_upto_region 7 with fail
   rw [← HWR.out, ← HRE.out]
   clear c1
   obtain ⟨w5, hw5⟩ : ∃ w5, w5 = wR.drew := ⟨_, rfl⟩
   have hg5 : wr.grownBy w5 none := by rw [hw5]; exact zF HGRR.out (zP wR none)
   have HW5 := Kh hw5; have HG5 := Kh hg5
   have C5 : Hid (w5.cell? ⟨od, 0, none⟩ = some (.slice sp k cp) ∧ w5.cell? ⟨R, 0, none⟩ = some (.slice ea pl ec)) := Kh (by
    have h1 := zO (HBS.out.grow hg5).box 0 (by simp)
    simp only [List.getElem_toArray, List.getElem_cons_zero] at h1
    refine ⟨h1, ?_⟩
    have h2 := zO (zB HBR.out (show wR.grownBy w5 none by rw [hw5]; exact zP wR none) (by simp)) 0 (by simp)
    simpa using h2)
   clear hg5 hw5
   refine wp_region_noPanic ?_
   refine wC (G := uS 7 (fun _ => True) (fun W => W.cell? ⟨od, 0, none⟩ = some (.slice sp k cp) ∧ W.cell? ⟨R, 0, none⟩ = some (.slice ea pl ec))) (by kernel_rfl) ?_
   rw [← HW5.out]
   refine takeC (i := 0) (v := ?_) rfl rfl (Or.inl ⟨by rfl, ?_⟩) ⟨trivial, fun _ => C5.out⟩ ?_
   rotate_left
   ·(intro wz hz; (try dsimp only at hz); go_simp; (try with_reducible rfl))
   try simp only [Act.put, sPa, sPb, sPc]
   refine takeD (i := 1) (v := ?_) rfl rfl (Or.inl ⟨by rfl, ?_⟩) ⟨trivial, fun _ => C5.out⟩ ?_
   rotate_left
   ·(rintro wz ⟨-, hz⟩; obtain ⟨h1, h2⟩ := hz; go_simp; (try with_reducible rfl))
   try simp only [Act.put, sPa, sPb, sPc]
   refine takeC (i := 2) (v := ?_) rfl rfl (Or.inl ⟨by rfl, ?_⟩) ⟨trivial, fun _ => C5.out⟩ ?_
   rotate_left
   ·(intro wz hz; (try dsimp only at hz); go_simp; (try with_reducible rfl))
   try simp only [Act.put, sPa, sPb, sPc]
   obtain ⟨k1, k2⟩ := C5.out
   refine oneG (i := 3) (by kernel_rfl) rfl (fun K hK => ?_)
   go_simp
   refine hK.out _ _ ⟨trivial, fun _ => C5.out⟩ ?_
   clear hK K k1 k2
   try simp only [Act.put, sPa, sPb, sPc]
   refine oneG (i := 4) (by kernel_rfl) rfl (fun K hK => ?_)
   go_simp
   go_at_call 87
   refine (HSC.out w5 HG5.out).mono ?_
   rintro e w8 ⟨s8, c8, rfl, hown8, hg8⟩
   have hg58 := zF HG5.out hg8
   have HFR : Hid (BoxS w4.heap.size (fun j => X j ∨ (Value.slice s8 pl c8).ownBlock = some j) od 25 w3 w8 (⟨w4.heap.size, 28, .slice sp k cp, k, svs, 1⟩ :: []) #[.slice sp k cp, .slice sa m cap, .int .i64 (q : Int)] w8) := Kh (HBS.out.fresh hg58 (fun j hj => ⟨Nat.le_trans HG5.out.size (hown8.lt j hj).1, (hown8.lt j hj).2⟩))
   have HRX8 : Hid (vX (fun j => X j ∨ (Value.slice s8 pl c8).ownBlock = some j) 9 txtV w8 (svs ++ [.slice s8 pl c8]) (ps.take (k + 1))) := Kh (by
    rw [yH (d := []) (by rw [← HNP.out]; exact hk), ← HPK.out]
    exact ((HRX.out.kept (HBS.out.mem.keep hg58) hg58.size).mono (fun j hj => .inl hj)).snoc (RowX.of_owns hown8 (fun j hj => .inr hj)))
   have C8 : Hid (w8.cell? ⟨od, 0, none⟩ = some (.slice sp k cp) ∧ w8.cell? ⟨R, 0, none⟩ = some (.slice ea pl ec)) := Kh ⟨wB C5.out.1 hg8, wB C5.out.2 hg8⟩
   have HXL8 : Hid (∀ j, (X j ∨ (Value.slice s8 pl c8).ownBlock = some j) → w4.heap.size ≤ j) := Kh (fun j hj => by
    rcases hj with hj | hj
    ·exact HXL.out j hj
    ·exact Nat.le_trans (Nat.le_trans HBS.out.base HG5.out.size) (hown8.lt j hj).1)
   refine hK.out _ _ ⟨trivial, fun _ => C8.out⟩ ?_
   clear hK K C5 hown8 hg8 hg58 HSC
   try simp only [Act.put, sPa, sPb, sPc]
   refine oneG (i := 5) (by kernel_rfl) rfl (fun K hK => ?_)
   go_simp
   refine hK.out _ _ ⟨trivial, fun _ => C8.out⟩ ?_
   clear hK K
   try simp only [Act.put, sPa, sPb, sPc]
   refine oneG (i := 6) (by kernel_rfl) rfl (fun K hK => ?_)
   go_simp
   have hgn := heap_alloc_new w8 (.cells #[Value.slice s8 pl c8] 28)
   have hg9 := World.grownBy_alloc w8 (.cells #[Value.slice s8 pl c8] 28) none
   obtain ⟨R9, hR9⟩ : ∃ R9, R9 = w8.heap.size := ⟨_, rfl⟩
   obtain ⟨w9, hw9⟩ : ∃ w9, w9 = w8.alloc (.cells #[Value.slice s8 pl c8] 28) := ⟨_, rfl⟩
   rw [← hw9] at hgn hg9 ⊢
   rw [← hR9] at hgn ⊢
   have HF9 := Kh (HFR.out.grow hg9).rebase
   have HRX9 := Kh (HRX8.out.kept (HFR.out.mem.keep hg9) hg9.size)
   have C9 : Hid (w9.cell? ⟨od, 0, none⟩ = some (.slice sp k cp) ∧ w9.cell? ⟨R, 0, none⟩ = some (.slice ea pl ec)) := Kh ⟨wB C8.out.1 hg9, wB C8.out.2 hg9⟩
   refine hK.out _ _ ⟨trivial, fun _ => C9.out⟩ ?_
   clear hK K C8 hg9 hw9 hR9
   try simp only [Act.put, sPa, sPb, sPc]
   have ho9 := HF9.out.own (r := ⟨w4.heap.size, 28, .slice sp k cp, k, svs, 1⟩) (by simp)
   have hz9 := Nat.le_trans HF9.out.base HF9.out.wk
   refine oneG (i := 7) (by kernel_rfl) rfl (fun K hK => ?_)
   refine jB rfl (.tmp 29) (.tmp 34) 22 rfl elem_pat1 w4.heap.size (.slice sp k cp) k svs rfl ho9 [.slice s8 pl c8] R9 rfl (0, 0) rfl hgn ?z1 ?z2 ?z3 hz9 ?_
   case z1 => intro v hv; simp only [List.mem_cons, List.not_mem_nil, or_false] at hv; subst hv; rfl
   case z2 => unfold maxLen; omega
   case z3 => show (k + 1) * 24 ≤ 140737488355328; omega
   intro sN cN wM hown hgM hmM
   have HAP := Kh (HF9.out.appAt (j := 0) rfl hown hgM hmM)
   have hbM := zO HAP.out.box 0 (by simp)
   simp only [List.getElem_toArray, List.getElem_cons_zero] at hbM
   have hfM := zE HAP.out.box 0
   have hoM := zN HAP.out.box
   refine hK.out _ _ ⟨trivial, fun h => by simp at h⟩ ?_
   clear hK K C9 hown hgM hmM hgn ho9 hz9
   try simp only [Act.put, sPa, sPb, sPc]
   refine oneG (i := 8) (by kernel_rfl) rfl (fun K hK => ?_)
   go_simp
   refine hK.out _ _ ⟨trivial, fun h => by simp at h⟩ ?_
   clear hK K
   try simp only [Act.put, sPa, sPb, sPc]
   refine oneG (i := 9) (by kernel_rfl) rfl (fun K hK => ?_)
   go_simp
   have HEND := Kh (HAP.out.set 0 (.slice sN (k + 1) cN))
   obtain ⟨wZ, hwZ⟩ : ∃ wZ, wZ = wM.setCell ⟨od, 0, none⟩ (.slice sN (k + 1) cN) := ⟨_, rfl⟩
   rw [← hwZ] at HEND ⊢
   have HRXE := Kh (HRX9.out.kept HEND.out.kept HEND.out.wk)
   refine hK.out _ _ ⟨trivial, fun h => by simp at h⟩ ?_
   clear hK K hwZ
   try simp only [Act.put, sPa, sPb, sPc]
   refine kH (by kernel_rfl) ?_ _
   refine NoPanic.normal ?_
   clear hbM hfM hoM HAP HF9 HRX9 HRX8 HFR
   go_wp2
   go_roundg (np - (k + 1))
   case measure => have := HGK.out; omega
   case rel => exact ⟨k + 1, sN, cN, _, _, by have := HGK.out; omega, by go_num, HEND.out.rebase, HRXE.out, HXL8.out⟩
  ·have hkn : k = np := by have := HGK.out; omega
   have hk' : ¬ (k : Int) < np := by omega
   have HTK : Hid (ps.take k = ps) := Kh (List.take_of_length_le (by rw [← HNP.out]; omega))
   have HKN := Kh hkn
   have hbx := HBS.out.box
   obtain ⟨x0, x1, x2⟩ := zW hbx
   have hr4 := zB HBA3.out hgr (by simp)
   have f40 := zE hr4 0
   have f41 := zE hr4 1
   have f42 := zE hr4 2
   have hl4 := zN hr4
   obtain ⟨v0, v1, v2⟩ := zW hr4
   have HR4 := Kh hr4
   have hpo : P ≠ od := by have := HPL.out; have := HOD.out; omega
   clear hkn hbx
   go_wp2
   have g1 := zF (zF (zD wr ⟨P, 0, none⟩ (.slice sp k cp)) (zD _ ⟨P, 1, none⟩ (.slice sa m cap))) (zD _ ⟨P, 2, none⟩ (.int .i64 (q : Int)))
   have z1 := heap_setCell_same _ P 2 _ _ (.int .i64 (q : Int)) (heap_setCell_same _ P 1 _ _ (.slice sa m cap) (heap_setCell_same wr P 0 _ _ (.slice sp k cp) hr4))
   obtain ⟨w9, hw9⟩ : ∃ w9, w9 = ((wr.setCell ⟨P, 0, none⟩ (.slice sp k cp)).setCell ⟨P, 1, none⟩ (.slice sa m cap)).setCell ⟨P, 2, none⟩ (.int .i64 (q : Int)) := ⟨_, rfl⟩
   rw [← hw9] at g1 z1 ⊢
   simp only [Array.setIfInBounds, List.size_toArray, List.length_cons, List.length_nil] at z1
   obtain ⟨q0, q1, q2⟩ := zW z1
   refine bodyPost_ret (v := .agg #[.slice sp k cp, .slice sa m cap, .int .i64 (q : Int)]) (by simp [results, Try.results61, go_sem, q0, q1, q2, Result.andThen]) rfl ?_
   have hX9 : vA X wr w9 := vA.of_grown HBS.out.mem.lt g1 (fun j e hx => by have e : P = j := Option.some.inj e; have := HXL.out j hx; have := HPL.out; have := HZ34.out; omega)
   have hrx9 := HRX.out.kept hX9 g1.size
   rw [HTK.out] at hrx9
   have hxlt : ∀ j, X j → j < w9.heap.size := fun j hj => Nat.lt_of_lt_of_le (HBS.out.mem.lt j hj) g1.size
   have ho := HBS.out.own (r := ⟨w4.heap.size, 28, .slice sp k cp, k, svs, 1⟩) (by simp)
   have ho9 := ho.kept g1 (.inr (zS ho HR4.out hty2))
   have hc := zV HOC.out hgr
   have hc9 := hc.kept g1 (.inr (zS hc HR4.out hty3))
   have hsl : svs.length = k := by have := HRX.out.1; rw [HTK.out, ← HNP.out] at this; have := HKN.out; omega
   have hzw2 := HZW.out
   have hz34 := HZ34.out
   refine ⟨_, ⟨ps, cs, (q : Int)⟩, rfl, fun w2' row hg2 hrow => ?_, rfl, ?_, by show (0 : Int) ≤ q; omega, HD3.out.hi, HD3.out.dec, by have := HD3.out.few; simp at this; omega, ?_⟩
   ·have hXk : vA X w9 w2' := vA.of_grown hxlt hg2 (fun j e hx => by have := hrow j e; have := HXL.out j hx; omega)
    have hrt := (hrx9.kept hXk hg2.size).rowsT
    have ho2 := jI (base := w4.heap.size) ho9 hg2 (fun j e => by have := hrow j e; omega)
    have hc2 := jI (base := w2.heap.size) hc9 hg2 (fun j e => by have := hrow j e; omega)
    refine ⟨_, _, rfl, ⟨svs, (RowT.of_owns ho2).row, ?_, ?_⟩, ?_⟩
    ·show svs.length = ps.length
     rw [hsl, HKN.out, HNP.out]
    ·intro i h1 h2
     refine ⟨(hrt.2 i h1 h2).row, fun j hj => ?_⟩
     have h2' : i < ps.length := h2
     obtain ⟨pb, po, pcap, e, hbB, hc1, hc2, hall⟩ := HP.out.at_ (by omega)
     obtain ⟨ea, ec, c1, hrow, hsz⟩ := hall i h2'
     have e5 : ps.getD i [] = ps[i] := zI h2'
     rw [e5] at hsz
     exact hsz j hj
    ·rw [HM.out] at hc2
     have e9 := chos_of_owns hc2 (Nat.le_refl w2'.heap.size)
     rw [← HM.out] at e9
     exact e9
   ·show wF ps.length cs cs.length
    rw [← HNP.out]; exact HD3.out.ok
   ·exact zA (zA HG3.out hgr (by simp)) g1 (fun j e => by have e : P = j := Option.some.inj e; have := HPE.out; omega)
end Go.Proofs.Ytjfdomfendbhfaa
namespace Go.Proofs.Ytjfdomfendbhfaa
open Go.RowKit Go.Maps
set_option maxRecDepth 100000 in
set_option maxHeartbeats 800000 in
theorem paccepts_any (Bd : Nat) (w : World) (o k : Nat) (pv : Value) (ds : List DfaV) (L : List (List Nat)) (nxl fr bl : List Nat) (sb sc nb nc fb fc bb bc s i : Nat) (h : ProdV w o k pv L nxl fr bl sb sc nb nc fb fc bb bc) (hd : DsIn Bd w pv ds) (hok : OkT ds k) (hs : s < L.length) (hi : i < ds.length) (hin : InT ds (L.getD s [])) (hl : ds.length ≤ 400) (hL : L.length ≤ 4000) :
  Calls Try.prog 69 #[.pointer (some ⟨o, 0, none⟩), .int .i64 (s : Int), .int .i64 (i : Int)] w fun e w' => e = .returned (.bool (accT ds (L.getD s []) i)) ∧ w.grownBy w' none := by
 obtain ⟨b, off, cap, rfl, hc1, hc2, hd⟩ := hd.head (by omega)
 obtain ⟨n, gb, go, gc, nb2, no2, nc2, RB, RO, RC, hv, h5, c1, c2, c3, c4, hat⟩ := hd.dfa hok hi
 obtain ⟨x0, x1, x2, x3, x4, x5⟩ := h.cells
 have hne : L.getD s [] ≠ [] := fun e => by have := hin.1; rw [e] at this; simp at this; omega
 obtain ⟨g, ro, rc, r1, r2, r3, r4⟩ := h.row s hs hne
 have hcp := h.caps
 rw [hin.1] at r1 r2 r4
 have r5 := r4 i hi
 have hq := hin.2 i hi
 rw [hv.hn] at hq
 obtain ⟨q, hqq⟩ : ∃ q, q = (L.getD s []).getD i 0 := ⟨_, rfl⟩
 have c5 := hat.fin (q := q) (by rw [hqq]; exact hq)
 have hfc := hat.fcap
 have hA : accT ds (L.getD s []) i = (ds.getD i dN).final.getD q false := by rw [accT, hqq]
 rw [hA]
 rw [← hqq] at r5 hq
 obtain ⟨np, hnp⟩ : ∃ n, n = ds.length := ⟨_, rfl⟩
 obtain ⟨m, hm⟩ : ∃ m, m = L.length := ⟨_, rfl⟩
 obtain ⟨bo, hbo⟩ : ∃ x, x = (ds.getD i dN).final.getD q false := ⟨_, rfl⟩
 rw [← hnp] at x1 r1 r2 hi hc1 hl
 rw [← hm] at x2 x4 x5 hs hL hcp
 rw [← hbo] at c5 ⊢
 have k1 : cap ≤ 9223372036854775807 := by unfold maxLen at hc2; omega
 have k2 : sc ≤ 9223372036854775807 := by have := hcp.2.1; unfold maxLen at this; omega
 have k3 : rc ≤ 9223372036854775807 := by unfold maxLen at r3; omega
 have k4 : gc ≤ 9223372036854775807 := by have := hfc.2; unfold maxLen at this; omega
 have hs' : (s : Int) < m := by omega
 have hi' : (i : Int) < np := by omega
 have hq' : (q : Int) < n := by omega
 clear h hd hv hat hA hqq hnp hm hbo r4 hin hne x0 x3 x4 x5 c1 c2 c4 hcp hfc hc2 r3 hok
 go_enter Try.func69, Try.ntmps69
 go_upto_region 1 with fail
 go_quiet (fail)
 go_wp2
 go_ret
 first | exact ⟨rfl, zT _ _ _⟩ | exact ⟨rfl, zP _ _⟩
end Go.Proofs.Ytjfdomfendbhfaa
