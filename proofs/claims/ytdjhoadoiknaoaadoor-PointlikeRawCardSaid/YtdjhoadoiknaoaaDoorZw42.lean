/- Part 42 of the proof: Needed. -/
import Derived.Test.YtdjhoadoiknaoaaDoorZw41
set_option linter.unusedVariables false
set_option linter.unusedSimpArgs false
namespace Go.Proofs.YtdjhoadoiknaoaaDoor
open Go.RowKit
theorem app5n {P : Program} {w : World} {ops : Array Oper} {rest : List Oper} {o : Oper} {a : Act} {Q : Exit → Act → World → Prop} (hgd : o.guard = none) (s x : Operand) (t : TypeId)
    (ho : o.op = .call { callee := .builtin .append, args := #[s, x], argTypes := #[t, t] })
    {e : TypeId} {z : Value} {bytes : Nat} (E : Elem5 P t e z bytes) (base : Nat) (v : Value) (n : Nat) (xs : List Value) (hs : a.eval s = v) (hown : w.ownsRow base e 5 v n xs)
    (st : StepV) (hx : a.eval x = .slice (some ⟨w.heap.size, 0, none⟩) 1 1) (h63 : n + 1 ≤ maxLen) (hbytes : (n + 1) * bytes ≤ 140737488355328) (hbase : base ≤ w.heap.size)
    (h : ∀ sa sc w', w'.ownsRow base e 5 (.slice sa (n + 1) sc) (n + 1) (xs ++ st.vals) → w.grownBy w' v.ownBlock → wpList P ops Q rest (a.put o.dst (.slice sa (n + 1) sc)) w') :
    wpList P ops Q (o :: rest) a (w.alloc (.cells #[.int .i64 st.op, .int .i64 st.a, .int .i64 st.b, .string st.word, .int .i64 st.set] e)) :=
  wpList_plain hgd fun _ hK => wp_app5 s x t ho E base v n xs hs (hown.alloc _) st w.heap.size hx (0, 0) (heap_alloc_new w _) h63 hbytes (by simp; omega) fun sa sc w' h2 h3 => hK _ _ (h sa sc w' h2 (grownBy_trans' (World.grownBy_alloc w _ _) h3))
theorem getD_set_true {bs : List Bool} {a j : Nat} (h : bs.getD j false = true) : (bs.set a true).getD j false = true := by
  by_cases e : a = j
  · subst e
    by_cases hl : a < bs.length
    · rw [getD_set_eq _ _ _ _ hl]
    · rw [List.set_eq_of_length_le (by omega)]; exact h
  · rw [getD_set_ne _ _ _ _ _ e]; exact h
theorem getD_set_self_true {bs : List Bool} {a : Nat} (h : a < bs.length) : (bs.set a true).getD a false = true := getD_set_eq _ _ _ _ h
theorem MarksOk.set {ss : List StepV} {bs : List Bool} {k a : Nat} (h : MarksOk ss bs k) (ha : a < k) : MarksOk ss (bs.set a true) k where
  len := by rw [List.length_set]; exact h.len
  last := getD_set_true h.last
  a := fun i hk hi hb hop => getD_set_true (h.a i hk hi (by rw [getD_set_ne _ _ _ _ _ (by omega)] at hb; exact hb) hop)
  b := fun i hk hi hb hop => getD_set_true (h.b i hk hi (by rw [getD_set_ne _ _ _ _ _ (by omega)] at hb; exact hb) hop)
theorem MarksOk.close {ss : List StepV} {bs : List Bool} {k : Nat} (h : MarksOk ss bs (k + 1)) (ha : bs.getD k false = true → (ss.getD k default).op ≠ 1 → bs.getD (ss.getD k default).a.toNat false = true) (hb : bs.getD k false = true → (ss.getD k default).op = 2 → bs.getD (ss.getD k default).b.toNat false = true) : MarksOk ss bs k where
  len := h.len
  last := h.last
  a := fun i hk hi hbi hop => by
    rcases Nat.eq_or_lt_of_le hk with rfl | hk
    · exact ha hbi hop
    · exact h.a i hk hi hbi hop
  b := fun i hk hi hbi hop => by
    rcases Nat.eq_or_lt_of_le hk with rfl | hk
    · exact hb hbi hop
    · exact h.b i hk hi hbi hop
theorem marks_start {ss : List StepV} {m n : Nat} (hl : ss.length = m) (hm : m = n + 1) : MarksOk ss ((List.replicate m false).set n true) m where
  len := by simp [hl]
  last := by
    rw [show ss.length - 1 = n by omega]
    exact getD_set_self_true (by simp; omega)
  a := fun i hk hi => by omega
  b := fun i hk hi => by omega
theorem step_ops {t : List (List Int)} {im : List Int} {ss : List StepV} {k : Nat} {st : StepV} (e : st = ss.getD k default) (h : stepB t im ss k = true) : st.op = 1 ∨ (st.op = 2 ∧ (0 ≤ st.a ∧ st.a < k) ∧ 0 ≤ st.b ∧ st.b < k) ∨ (st.op = 3 ∧ 0 ≤ st.a ∧ st.a < k) := by
  by_cases h1 : st.op = 1
  · exact .inl h1
  by_cases h2 : st.op = 2
  · rw [stepB_prod e h2] at h
    simp only [Bool.and_eq_true] at h
    exact .inr (.inl ⟨h2, befB_iff.1 h.1.1.2, befB_iff.1 h.1.2⟩)
  by_cases h3 : st.op = 3
  · rw [stepB_om e h3] at h
    simp only [Bool.and_eq_true] at h
    exact .inr (.inr ⟨h3, befB_iff.1 h.1.1.2⟩)
  · rw [stepB_op e h1 h2 h3] at h; cases h
def NeededOk (w : World) (t : List (List Int)) (im : List Int) (ss : List StepV) (e : Ending) (w' : World) : Prop :=
  w.grownBy w' none ∧ ∃ (sa : Option Addr) (sc : Nat) (l : List StepV), e = .returned (.slice sa l.length sc) ∧ w'.ownsRow w.heap.size 60 5 (.slice sa l.length sc) l.length (stepVals l) ∧ stepsTo t im l l.length ∧ 0 < l.length ∧ l.length ≤ ss.length ∧ (l.getD (l.length - 1) default).set = (ss.getD (ss.length - 1) default).set ∧ ∀ i, i < l.length → (l.getD i default).word.size ≤ maxLen
set_option maxRecDepth 100000 in
set_option maxHeartbeats 1000000 in
theorem needed_any (w : World) (g cap m n : Nat) (t : List (List Int)) (im : List Int) (ss : List StepV) (hl : ss.length = m) (hm : m = n + 1) (hm4 : m ≤ 4096) (hs : StepsAt w g ss) (hok : stepsTo t im ss ss.length) (hwz : ∀ i, i < ss.length → (ss.getD i default).word.size ≤ maxLen) :
    Calls Tryd.prog 77 #[.slice (some ⟨g, 0, none⟩) m cap] w (NeededOk w t im ss) := by
  have hgl := hs.lt
  have hnm : n < m := by omega
  have hmn : m ≤ n + 1 := by omega
  have hm1 : 1 ≤ m := by omega
  have hn1 : m - 1 = n := by omega
  have HMS : Hid (MarksOk ss ((List.replicate m false).set (m - 1) true) m) := Lib.hid (by rw [hn1]; exact marks_start hl hm)
  clear hn1
  have HL := Lib.hid hl; have HM := Lib.hid hm; have HS := Lib.hid hs; have HOK := Lib.hid hok; have HWZ := Lib.hid hwz
  obtain ⟨z5, by5, hE5, hby5⟩ := elem_step
  have HE5 := Lib.hid hE5
  clear hl hm hs hok hwz hE5
  go_enter Tryd.func77, Tryd.ntmps77
  go_wp2_with (at_make; refine make1 rfl _ _ _ rfl elem_bool rfl _ _ _ _ m rfl rfl rfl rfl ?b1 ?b2 ?_; (case b1 => omega); (case b2 => (unfold maxLen; omega)); intro w1 ha1 hg1 hz1; rw [← bls_replicate] at ha1; have c1 := ha1.bool (m - 1) (by simp; omega); have f1 := ha1.frozen (m - 1); have hA1 := ha1.bool_set (m - 1) (by simp; omega) true; have hG1 := grown_far hg1 (grownBy_setCell w1 ⟨w.heap.size, m - 1, none⟩ (.bool true)) (fun j e => by have e : w.heap.size = j := Option.some.inj e; omega))
  have HA1 := Lib.hid hA1; have HG1 := Lib.hid hG1
  clear ha1 hg1 c1 f1 hA1 hG1 hz1
  go_loopg [4] m (fun gh i wr => ∃ (k : Nat) (bs : List Bool) (z : Int), gh = k ∧ k ≤ m ∧ i = .int .i64 z ∧ Hid (z = (k : Int) - 1) ∧ Hid (Arr wr w.heap.size 4 (bls bs)) ∧ Hid (w.grownBy wr none) ∧ Hid (MarksOk ss bs k))
  case atStart => exact ⟨m, _, (m : Int) - 1, rfl, Nat.le_refl _, rfl, Lib.hid rfl, HA1, HG1, HMS⟩
  case round =>
    clear HA1 HG1 HMS
    obtain ⟨k, bs, z, hgk, hkm, rfl, HZ, HA, HG, HMK⟩ := hrel
    have HGK := Lib.hid hgk
    clear hgk
    have hmb := HA.out.lt
    by_cases hk0 : k = 0
    · have hz : z < 0 := by have := HZ.out; omega
      have hz' : ¬ 0 ≤ z := by omega
      have HMF : Hid (MarksOk ss bs 0) := Lib.hid (by have := HMK.out; rw [hk0] at this; exact this)
      obtain ⟨wz, rfl⟩ : ∃ wz : World, wz = wr := ⟨_, rfl⟩
      clear hk0 HZ HMK
      go_wp2_with (at_make; refine make1 rfl _ _ _ rfl elem_int rfl _ _ _ _ m rfl rfl rfl rfl ?b3 ?b4 ?_; (case b3 => omega); (case b4 => (unfold maxLen; omega)); intro w2 ha2 hg2 hz2; rw [← nats_replicate] at ha2)
      have HA2 := Lib.hid ha2; have HB2 := Lib.hid (HA.out.kept hg2 (by simp)); have HG2 := Lib.hid (grown_far HG.out hg2 (by simp))
      obtain ⟨nb, hnb⟩ : ∃ nb, nb = wz.heap.size := ⟨_, rfl⟩
      rw [← hnb] at HA2 ⊢
      have hbn : w.heap.size < nb := by omega
      have HLS : Hid (ListOk t im ss bs (List.replicate m 0) 0 []) := Lib.hid ⟨by simp [HL.out], fun i hi => absurd hi (by simp), Nat.zero_le _, fun i hi => absurd hi (by omega), fun i hi => absurd hi (by simp), fun h => absurd h (by omega)⟩
      clear ha2 hg2 hz2 hnb HA HG hmb
      go_loopg [6, 61] m (fun gh v6 i wr => ∃ (k : Nat) (no : List Nat) (l : List StepV) (sa : Option Addr) (sc : Nat), gh + k = m ∧ i = .int .i64 k ∧ v6 = .slice sa l.length sc ∧ Hid (ListOk t im ss bs no k l) ∧ Hid (Arr wr nb 3 (nats no)) ∧ Hid (Arr wr w.heap.size 4 (bls bs)) ∧ Hid (wr.ownsRow w.heap.size 60 5 (.slice sa l.length sc) l.length (stepVals l)) ∧ Hid (w.grownBy wr none))
      case atStart => exact ⟨0, _, [], none, 0, rfl, rfl, rfl, HLS, HA2, HB2, Lib.hid (World.ownsRow_nil _ _ _ _), HG2⟩
      case round =>
        clear HLS HA2 HB2 HG2
        obtain ⟨k, no, l, sa, sc, hgh, rfl, rfl, HLO, HN, HB, HO, HG⟩ := hrel
        have HGH := Lib.hid hgh
        clear hgh
        by_cases hk : ¬ k < m
        · have hk' : ¬ (k : Int) < m := by omega
          have HKM : Hid (k = m) := Lib.hid (by have := HGH.out; omega)
          go_wp2
          go_ret
          have hlo := HLO.out
          rw [HKM.out] at hlo
          have hlast := HMF.out.last
          rw [HL.out] at hlast
          obtain ⟨h0, h1⟩ := hlo.lastn (by omega) hlast
          have h2 := hlo.nos (m - 1) (by omega) hlast
          rw [h1] at h2
          exact ⟨HG.out, sa, sc, l, rfl, HO.out, hlo.ok, h0, by rw [HL.out]; exact hlo.le, by rw [HL.out]; exact h2.2.1, hlo.wz⟩
        replace hk : k < m := by omega
        have hk' : (k : Int) < m := by omega
        have hst := HS.out.kept HG.out (by simp)
        have hks : k < ss.length := by rw [HL.out]; exact hk
        have c0 := hst.op k hks
        have c1 := hst.a k hks
        have c2 := hst.b k hks
        have c3 := hst.word k hks
        have c4 := hst.set k hks
        have hsb := HOK.out k hks
        obtain ⟨st, est⟩ : ∃ st, st = ss.getD k default := ⟨_, rfl⟩
        rw [← est] at c0 c1 c2 c3 c4
        have HEST := Lib.hid est
        have hops := step_ops est hsb
        have hllk := HLO.out.le
        obtain ⟨wb, hwb⟩ : ∃ W, W = wr.alloc (.cells #[.int .i64 st.op, .int .i64 st.a, .int .i64 st.b, .string st.word, .int .i64 st.set] 60) := ⟨_, rfl⟩
        have hgb : wr.grownBy wb none := by rw [hwb]; exact World.grownBy_alloc wr _ none
        have hbb := heap_alloc_new wr (.cells #[.int .i64 st.op, .int .i64 st.a, .int .i64 st.b, .string st.word, .int .i64 st.set] 60)
        rw [← hwb] at hbb
        obtain ⟨o, ho⟩ : ∃ o, o = wr.heap.size := ⟨_, rfl⟩
        rw [← ho] at hbb
        have hno := HN.out.lt
        have hwr := HG.out.size
        have hnbo : nb ≠ o := by omega
        have hmbo : w.heap.size ≠ o := by omega
        have HWB := Lib.hid hwb; have HOE := Lib.hid ho; have HBB := Lib.hid hbb
        have HNB := Lib.hid (HN.out.kept hgb (by simp)); have HMB := Lib.hid (HB.out.kept hgb (by simp)); have HOB := Lib.hid (ownsRow_keptN HO.out hgb); have HGB := Lib.hid (grown_far HG.out hgb (by simp))
        have HOLT : Hid (∀ q, (Value.slice sa l.length sc).ownBlock = some q → q < o) := Lib.hid (fun q e => by rw [ho]; exact own_lt HO.out e)
        clear hwb hgb hbb ho est hst hsb HN HB HO HG
        go_upto_region 15 with fail
        rw [← HWB.out, ← HOE.out]
        have cm := HMB.out.bool k (by rw [HMF.out.len]; exact hks)
        cases hbk : bs.getD k false with
        | false =>
          rw [hbk] at cm
          have HSK := Lib.hid (HLO.out.skip hbk)
          clear hbk c0 c1 c2 c3 c4
          go_wp2
          go_roundg (m - (k + 1))
          case measure => have := HGH.out; omega
          case rel => exact ⟨k + 1, no, l, sa, sc, by have := HGH.out; omega, by go_num, rfl, HSK, HNB, HMB, HOB, HGB⟩
        | true =>
          rw [hbk] at cm
          have HPU := Lib.hid (HLO.out.push hks hbk HMF.out (HOK.out k hks) (HWZ.out k hks))
          rw [← HEST.out] at HPU
          have hnl : no.length = m := by rw [HLO.out.len, HL.out]
          have HNL := Lib.hid hnl
          obtain ⟨r, hr⟩ : ∃ r, r = renum no st := ⟨_, rfl⟩
          rw [← hr] at HPU
          have HR := Lib.hid hr
          clear hbk hnl hr c0 c1 c2 c3 c4
          obtain ⟨b0, b1, b2, b3, b4⟩ := box5_cells HBB.out
          have f1 := frozen_block HBB.out 1
          have f2 := frozen_block HBB.out 2
          rcases hops with h1 | ⟨h2, ⟨ha0, ha1⟩, hb0, hb1⟩ | ⟨h3, ha0, ha1⟩
          · have q1 : (st.op != 1) = false := by rw [h1]; rfl
            have q2 : (st.op == 2) = false := by rw [h1]; rfl
            have HBC : Hid (wb.heap[o]? = some (.cells #[.int .i64 r.op, .int .i64 r.a, .int .i64 r.b, .string r.word, .int .i64 r.set] 60 (0, 0))) := Lib.hid (by
              have e : r = st := by rw [HR.out]; unfold renum; rw [if_pos h1]
              rw [e]; exact HBB.out)
            have HGC : Hid (wb.grownBy wb (some o)) := Lib.hid (grownBy_refl _ _)
            clear h1
            go_upto_region 20 with fail
            obtain ⟨wc, hwc⟩ : ∃ W : World, W = wb := ⟨_, rfl⟩
            rw [← hwc] at HBC ⊢
            have HGC : Hid (wb.grownBy wc (some o)) := Lib.hid (by rw [hwc]; exact grownBy_refl _ _)
            clear hwc b0 b1 b2 b3 b4 f1 f2 cm q1 q2
            have HNC := Lib.hid (HNB.out.kept HGC.out (fun e => hnbo (Option.some.inj e).symm)); have HMC := Lib.hid (HMB.out.kept HGC.out (fun e => hmbo (Option.some.inj e).symm))
            have HOC : Hid (wc.ownsRow w.heap.size 60 5 (.slice sa l.length sc) l.length (stepVals l)) := Lib.hid (HOB.out.kept HGC.out (by
              rcases hv : (Value.slice sa l.length sc).ownBlock with _ | q
              · exact .inl rfl
              · exact .inr (fun e => by have e : q = o := Option.some.inj e; have := HOLT.out q hv; omega)))
            have HGW := Lib.hid (grown_far HGB.out HGC.out (fun q e => by have e : o = q := Option.some.inj e; have := HOE.out; omega))
            have cn := HNC.out.nat k (by rw [HNL.out]; exact hk)
            have fn := HNC.out.frozen k
            have gd := grownBy_setCell wc ⟨nb, k, none⟩ (.int .i64 (l.length : Int))
            have ad := HNC.out.nat_set k (by rw [HNL.out]; exact hk) l.length
            obtain ⟨wd, hwd⟩ : ∃ W, W = wc.setCell ⟨nb, k, none⟩ (.int .i64 (l.length : Int)) := ⟨_, rfl⟩
            rw [← hwd] at gd ad
            have hbd := block_kept HBC.out gd (fun e => hnbo (Option.some.inj e))
            have HMD := Lib.hid (HMC.out.kept gd (fun e => by have e : nb = w.heap.size := Option.some.inj e; omega))
            have HND := Lib.hid ad
            have HOD : Hid (wd.ownsRow w.heap.size 60 5 (.slice sa l.length sc) l.length (stepVals l)) := Lib.hid (HOC.out.kept gd (.inr (by
              obtain ⟨cur, rest, hh, _⟩ := HNC.out
              exact owns_ne HOC.out hh (by decide))))
            have HGD := Lib.hid (grown_far HGW.out gd (fun q e => by have e : nb = q := Option.some.inj e; omega))
            have HWD := Lib.hid hwd
            have HBD := Lib.hid hbd
            have hwdz := HGD.out.size
            have hod : o < wd.heap.size := lt_of_block hbd
            clear gd ad hwd hbd
            go_upto_region 21 with fail
            rw [← HWD.out]
            clear cn fn
            obtain ⟨r0, r1, r2, r3, r4⟩ := box5_cells HBD.out
            have hbyn : (l.length + 1) * by5 ≤ 4097 * 64 := Nat.mul_le_mul (by omega) hby5
            go_wp2_with (at_builtin; refine app5n rfl _ _ _ rfl HE5.out w.heap.size _ l.length (stepVals l) rfl HOD.out r rfl ?c1 ?c2 ?c3 ?_; (case c1 => (unfold maxLen; omega)); (case c2 => omega); (case c3 => omega); intro sa8 sc8 w8 hown8 hg8)
            rw [← stepVals_snoc] at hown8
            have HO8 : Hid (w8.ownsRow w.heap.size 60 5 (.slice sa8 (l ++ [r]).length sc8) (l ++ [r]).length (stepVals (l ++ [r]))) := Lib.hid (by rw [List.length_append, List.length_singleton]; exact hown8)
            have hlow := fun q e => (HOD.out.lt q e).1
            have HG8 := Lib.hid (grown_far HGD.out hg8 (fun q e => hlow q e))
            have HN8 := Lib.hid (HND.out.kept hg8 (by
              obtain ⟨cur, rest, hh, _⟩ := HND.out
              exact owns_ne HOD.out hh (by decide)))
            have HM8 := Lib.hid (HMD.out.kept hg8 (by
              obtain ⟨cur, rest, hh, _⟩ := HMD.out
              exact owns_ne HOD.out hh (by decide)))
            have HEL : Hid ((l ++ [r]).length = l.length + 1) := Lib.hid (by simp)
            clear hown8 hg8 hlow r0 r1 r2 r3 r4
            go_wp2
            go_roundg (m - (k + 1))
            case measure => have := HGH.out; omega
            case rel => exact ⟨k + 1, _, l ++ [r], sa8, sc8, by have := HGH.out; omega, by go_num, by rw [HEL.out], HPU, HN8, HM8, HO8, HG8⟩
          · have q1 : (st.op != 1) = true := by rw [h2]; rfl
            have q2 : (st.op == 2) = true := by rw [h2]; rfl
            obtain ⟨xa, hxa⟩ : ∃ xa : Nat, (xa : Int) = st.a := ⟨st.a.toNat, by omega⟩
            obtain ⟨xb, hxb⟩ : ∃ xb : Nat, (xb : Int) = st.b := ⟨st.b.toNat, by omega⟩
            have hxam : (xa : Int) < m := by omega
            have hxbm : (xb : Int) < m := by omega
            have na := HNB.out.nat xa (by rw [HNL.out]; omega)
            have nbb := HNB.out.nat xb (by rw [HNL.out]; omega)
            obtain ⟨A, hA⟩ : ∃ A, A = no.getD xa 0 := ⟨_, rfl⟩
            obtain ⟨B, hB⟩ : ∃ B, B = no.getD xb 0 := ⟨_, rfl⟩
            rw [← hA] at na
            rw [← hB] at nbb
            rw [← hxa] at b1
            rw [← hxb] at b2
            have s1 := heap_setCell_same wb o 1 _ _ (.int .i64 (A : Int)) HBB.out
            have g1 := grownBy_setCell wb ⟨o, 1, none⟩ (.int .i64 (A : Int))
            obtain ⟨we, hwe⟩ : ∃ W, W = wb.setCell ⟨o, 1, none⟩ (.int .i64 (A : Int)) := ⟨_, rfl⟩
            have s1z := s1
            have g1z := g1
            rw [← hwe] at s1 g1
            have s1' : we.heap[o]? = some (.cells #[.int .i64 st.op, .int .i64 (A : Int), .int .i64 st.b, .string st.word, .int .i64 st.set] 60 (0, 0)) := by rw [s1]; simp
            have s2 := heap_setCell_same we o 2 _ _ (.int .i64 (B : Int)) s1'
            have g2 := grownBy_setCell we ⟨o, 2, none⟩ (.int .i64 (B : Int))
            have s1w := s1'
            rw [hwe] at s1w
            obtain ⟨e0, e1, e2, e3, e4⟩ := box5_cells s1w
            have k2 := frozen_block s1w 2
            rw [← hxb] at e2
            have nb2 := (HNB.out.kept g1z (fun e => hnbo (Option.some.inj e).symm)).nat xb (by rw [HNL.out]; omega)
            rw [← hB] at nb2
            obtain ⟨wc, hwc⟩ : ∃ W, W = we.setCell ⟨o, 2, none⟩ (.int .i64 (B : Int)) := ⟨_, rfl⟩
            rw [← hwc] at s2 g2
            have HBC : Hid (wc.heap[o]? = some (.cells #[.int .i64 r.op, .int .i64 r.a, .int .i64 r.b, .string r.word, .int .i64 r.set] 60 (0, 0))) := Lib.hid (by
              have e : r = { st with a := (A : Int), b := (B : Int) } := by
                rw [HR.out, hA, hB]; unfold renum; rw [if_neg (by omega), if_pos h2, ← hxa, ← hxb, Int.toNat_natCast, Int.toNat_natCast]
              rw [e, s2]; simp)
            have HGC : Hid (wb.grownBy wc (some o)) := Lib.hid (grownBy_trans' g1 g2)
            have HWE := Lib.hid hwe; have HWC := Lib.hid hwc
            clear h2 hA hB s1 s1' s2 g1 g2 s1z g1z s1w hwe hwc hxa hxb
            go_upto_region 20 with fail
            rw [← HWE.out, ← HWC.out]
            clear b0 b1 b2 b3 b4 f1 f2 cm q1 q2 na nbb nb2 e0 e1 e2 e3 e4 k2
            have HNC := Lib.hid (HNB.out.kept HGC.out (fun e => hnbo (Option.some.inj e).symm)); have HMC := Lib.hid (HMB.out.kept HGC.out (fun e => hmbo (Option.some.inj e).symm))
            have HOC : Hid (wc.ownsRow w.heap.size 60 5 (.slice sa l.length sc) l.length (stepVals l)) := Lib.hid (HOB.out.kept HGC.out (by
              rcases hv : (Value.slice sa l.length sc).ownBlock with _ | q
              · exact .inl rfl
              · exact .inr (fun e => by have e : q = o := Option.some.inj e; have := HOLT.out q hv; omega)))
            have HGW := Lib.hid (grown_far HGB.out HGC.out (fun q e => by have e : o = q := Option.some.inj e; have := HOE.out; omega))
            have cn := HNC.out.nat k (by rw [HNL.out]; exact hk)
            have fn := HNC.out.frozen k
            have gd := grownBy_setCell wc ⟨nb, k, none⟩ (.int .i64 (l.length : Int))
            have ad := HNC.out.nat_set k (by rw [HNL.out]; exact hk) l.length
            obtain ⟨wd, hwd⟩ : ∃ W, W = wc.setCell ⟨nb, k, none⟩ (.int .i64 (l.length : Int)) := ⟨_, rfl⟩
            rw [← hwd] at gd ad
            have hbd := block_kept HBC.out gd (fun e => hnbo (Option.some.inj e))
            have HMD := Lib.hid (HMC.out.kept gd (fun e => by have e : nb = w.heap.size := Option.some.inj e; omega))
            have HND := Lib.hid ad
            have HOD : Hid (wd.ownsRow w.heap.size 60 5 (.slice sa l.length sc) l.length (stepVals l)) := Lib.hid (HOC.out.kept gd (.inr (by
              obtain ⟨cur, rest, hh, _⟩ := HNC.out
              exact owns_ne HOC.out hh (by decide))))
            have HGD := Lib.hid (grown_far HGW.out gd (fun q e => by have e : nb = q := Option.some.inj e; omega))
            have HWD := Lib.hid hwd
            have HBD := Lib.hid hbd
            have hwdz := HGD.out.size
            have hod : o < wd.heap.size := lt_of_block hbd
            clear gd ad hwd hbd
            go_upto_region 21 with fail
            rw [← HWD.out]
            clear cn fn
            obtain ⟨r0, r1, r2, r3, r4⟩ := box5_cells HBD.out
            have hbyn : (l.length + 1) * by5 ≤ 4097 * 64 := Nat.mul_le_mul (by omega) hby5
            go_wp2_with (at_builtin; refine app5n rfl _ _ _ rfl HE5.out w.heap.size _ l.length (stepVals l) rfl HOD.out r rfl ?c1 ?c2 ?c3 ?_; (case c1 => (unfold maxLen; omega)); (case c2 => omega); (case c3 => omega); intro sa8 sc8 w8 hown8 hg8)
            rw [← stepVals_snoc] at hown8
            have HO8 : Hid (w8.ownsRow w.heap.size 60 5 (.slice sa8 (l ++ [r]).length sc8) (l ++ [r]).length (stepVals (l ++ [r]))) := Lib.hid (by rw [List.length_append, List.length_singleton]; exact hown8)
            have hlow := fun q e => (HOD.out.lt q e).1
            have HG8 := Lib.hid (grown_far HGD.out hg8 (fun q e => hlow q e))
            have HN8 := Lib.hid (HND.out.kept hg8 (by
              obtain ⟨cur, rest, hh, _⟩ := HND.out
              exact owns_ne HOD.out hh (by decide)))
            have HM8 := Lib.hid (HMD.out.kept hg8 (by
              obtain ⟨cur, rest, hh, _⟩ := HMD.out
              exact owns_ne HOD.out hh (by decide)))
            have HEL : Hid ((l ++ [r]).length = l.length + 1) := Lib.hid (by simp)
            clear hown8 hg8 hlow r0 r1 r2 r3 r4
            go_wp2
            go_roundg (m - (k + 1))
            case measure => have := HGH.out; omega
            case rel => exact ⟨k + 1, _, l ++ [r], sa8, sc8, by have := HGH.out; omega, by go_num, by rw [HEL.out], HPU, HN8, HM8, HO8, HG8⟩
          · have q1 : (st.op != 1) = true := by rw [h3]; rfl
            have q2 : (st.op == 2) = false := by rw [h3]; rfl
            obtain ⟨xa, hxa⟩ : ∃ xa : Nat, (xa : Int) = st.a := ⟨st.a.toNat, by omega⟩
            have hxam : (xa : Int) < m := by omega
            have na := HNB.out.nat xa (by rw [HNL.out]; omega)
            obtain ⟨A, hA⟩ : ∃ A, A = no.getD xa 0 := ⟨_, rfl⟩
            rw [← hA] at na
            rw [← hxa] at b1
            have s1 := heap_setCell_same wb o 1 _ _ (.int .i64 (A : Int)) HBB.out
            have g1 := grownBy_setCell wb ⟨o, 1, none⟩ (.int .i64 (A : Int))
            obtain ⟨wc, hwc⟩ : ∃ W, W = wb.setCell ⟨o, 1, none⟩ (.int .i64 (A : Int)) := ⟨_, rfl⟩
            rw [← hwc] at s1 g1
            have s1' : wc.heap[o]? = some (.cells #[.int .i64 st.op, .int .i64 (A : Int), .int .i64 st.b, .string st.word, .int .i64 st.set] 60 (0, 0)) := by rw [s1]; simp
            have s1w := s1'
            rw [hwc] at s1w
            obtain ⟨e0, e1, e2, e3, e4⟩ := box5_cells s1w
            have HBC : Hid (wc.heap[o]? = some (.cells #[.int .i64 r.op, .int .i64 r.a, .int .i64 r.b, .string r.word, .int .i64 r.set] 60 (0, 0))) := Lib.hid (by
              have e : r = { st with a := (A : Int) } := by
                rw [HR.out, hA]; unfold renum; rw [if_neg (by omega), if_neg (by omega), ← hxa, Int.toNat_natCast]
              rw [e]; exact s1')
            have HGC : Hid (wb.grownBy wc (some o)) := Lib.hid g1
            have HWC := Lib.hid hwc
            clear h3 hA s1 s1' s1w g1 hwc hxa
            go_upto_region 20 with fail
            rw [← HWC.out]
            clear b0 b1 b2 b3 b4 f1 f2 cm q1 q2 na e0 e1 e2 e3 e4
            have HNC := Lib.hid (HNB.out.kept HGC.out (fun e => hnbo (Option.some.inj e).symm)); have HMC := Lib.hid (HMB.out.kept HGC.out (fun e => hmbo (Option.some.inj e).symm))
            have HOC : Hid (wc.ownsRow w.heap.size 60 5 (.slice sa l.length sc) l.length (stepVals l)) := Lib.hid (HOB.out.kept HGC.out (by
              rcases hv : (Value.slice sa l.length sc).ownBlock with _ | q
              · exact .inl rfl
              · exact .inr (fun e => by have e : q = o := Option.some.inj e; have := HOLT.out q hv; omega)))
            have HGW := Lib.hid (grown_far HGB.out HGC.out (fun q e => by have e : o = q := Option.some.inj e; have := HOE.out; omega))
            have cn := HNC.out.nat k (by rw [HNL.out]; exact hk)
            have fn := HNC.out.frozen k
            have gd := grownBy_setCell wc ⟨nb, k, none⟩ (.int .i64 (l.length : Int))
            have ad := HNC.out.nat_set k (by rw [HNL.out]; exact hk) l.length
            obtain ⟨wd, hwd⟩ : ∃ W, W = wc.setCell ⟨nb, k, none⟩ (.int .i64 (l.length : Int)) := ⟨_, rfl⟩
            rw [← hwd] at gd ad
            have hbd := block_kept HBC.out gd (fun e => hnbo (Option.some.inj e))
            have HMD := Lib.hid (HMC.out.kept gd (fun e => by have e : nb = w.heap.size := Option.some.inj e; omega))
            have HND := Lib.hid ad
            have HOD : Hid (wd.ownsRow w.heap.size 60 5 (.slice sa l.length sc) l.length (stepVals l)) := Lib.hid (HOC.out.kept gd (.inr (by
              obtain ⟨cur, rest, hh, _⟩ := HNC.out
              exact owns_ne HOC.out hh (by decide))))
            have HGD := Lib.hid (grown_far HGW.out gd (fun q e => by have e : nb = q := Option.some.inj e; omega))
            have HWD := Lib.hid hwd
            have HBD := Lib.hid hbd
            have hwdz := HGD.out.size
            have hod : o < wd.heap.size := lt_of_block hbd
            clear gd ad hwd hbd
            go_upto_region 21 with fail
            rw [← HWD.out]
            clear cn fn
            obtain ⟨r0, r1, r2, r3, r4⟩ := box5_cells HBD.out
            have hbyn : (l.length + 1) * by5 ≤ 4097 * 64 := Nat.mul_le_mul (by omega) hby5
            go_wp2_with (at_builtin; refine app5n rfl _ _ _ rfl HE5.out w.heap.size _ l.length (stepVals l) rfl HOD.out r rfl ?c1 ?c2 ?c3 ?_; (case c1 => (unfold maxLen; omega)); (case c2 => omega); (case c3 => omega); intro sa8 sc8 w8 hown8 hg8)
            rw [← stepVals_snoc] at hown8
            have HO8 : Hid (w8.ownsRow w.heap.size 60 5 (.slice sa8 (l ++ [r]).length sc8) (l ++ [r]).length (stepVals (l ++ [r]))) := Lib.hid (by rw [List.length_append, List.length_singleton]; exact hown8)
            have hlow := fun q e => (HOD.out.lt q e).1
            have HG8 := Lib.hid (grown_far HGD.out hg8 (fun q e => hlow q e))
            have HN8 := Lib.hid (HND.out.kept hg8 (by
              obtain ⟨cur, rest, hh, _⟩ := HND.out
              exact owns_ne HOD.out hh (by decide)))
            have HM8 := Lib.hid (HMD.out.kept hg8 (by
              obtain ⟨cur, rest, hh, _⟩ := HMD.out
              exact owns_ne HOD.out hh (by decide)))
            have HEL : Hid ((l ++ [r]).length = l.length + 1) := Lib.hid (by simp)
            clear hown8 hg8 hlow r0 r1 r2 r3 r4
            go_wp2
            go_roundg (m - (k + 1))
            case measure => have := HGH.out; omega
            case rel => exact ⟨k + 1, _, l ++ [r], sa8, sc8, by have := HGH.out; omega, by go_num, by rw [HEL.out], HPU, HN8, HM8, HO8, HG8⟩
    · obtain ⟨j, hj⟩ : ∃ j, k = j + 1 := ⟨k - 1, by omega⟩
      have hzj : z = (j : Int) := by have := HZ.out; omega
      subst hzj
      have hjm : j < m := by omega
      have hjm' : (j : Int) < m := by omega
      have hjs : j < ss.length := by rw [HL.out]; exact hjm
      have hwj : wrap64 ((j : Int) - 1) = (j : Int) - 1 := IntWalk.wrap64_in _ (by omega)
      have hst := HS.out.kept HG.out (by simp)
      have c0 := hst.op j hjs
      have c1 := hst.a j hjs
      have c2 := hst.b j hjs
      have hsb := HOK.out j hjs
      obtain ⟨st, est⟩ : ∃ st, st = ss.getD j default := ⟨_, rfl⟩
      rw [← est] at c0 c1 c2
      have hops := step_ops est hsb
      have HEST := Lib.hid est
      have HMK1 : Hid (MarksOk ss bs (j + 1)) := Lib.hid (by have := HMK.out; rw [hj] at this; exact this)
      have hbl : bs.length = m := by rw [HMK.out.len, HL.out]
      have cm := HA.out.bool j (by rw [hbl]; exact hjm)
      have HBL := Lib.hid hbl
      have HJ := Lib.hid hj
      clear hj hk0 HZ HMK hbl est hst hsb
      cases hbj : bs.getD j false with
      | false =>
        rw [hbj] at cm
        have HC : Hid (MarksOk ss bs j) := Lib.hid (HMK1.out.close (fun h => by rw [hbj] at h; cases h) (fun h => by rw [hbj] at h; cases h))
        clear hbj
        go_wp2
        go_roundg j
        case measure => have := HJ.out; have := HGK.out; omega
        case rel => exact ⟨j, bs, (j : Int) - 1, rfl, by omega, rfl, Lib.hid rfl, HA, HG, HC⟩
      | true =>
        rw [hbj] at cm
        rcases hops with h1 | ⟨h2, ⟨ha0, ha1⟩, hb0, hb1⟩ | ⟨h3, ha0, ha1⟩
        · have q1 : (st.op != 1) = false := by rw [h1]; rfl
          have HC : Hid (MarksOk ss bs j) := Lib.hid (HMK1.out.close (fun _ h => absurd (by rw [← HEST.out]; exact h1) h) (fun _ h => by rw [← HEST.out, h1] at h; omega))
          clear hbj h1
          go_wp2
          go_roundg j
          case measure => have := HJ.out; have := HGK.out; omega
          case rel => exact ⟨j, bs, (j : Int) - 1, rfl, by omega, rfl, Lib.hid rfl, HA, HG, HC⟩
        · have q1 : (st.op != 1) = true := by rw [h2]; rfl
          have q2 : (st.op == 2) = true := by rw [h2]; rfl
          obtain ⟨xa, hxa⟩ : ∃ xa : Nat, (xa : Int) = st.a := ⟨st.a.toNat, by omega⟩
          obtain ⟨xb, hxb⟩ : ∃ xb : Nat, (xb : Int) = st.b := ⟨st.b.toNat, by omega⟩
          have hxam : (xa : Int) < m := by omega
          have hxbm : (xb : Int) < m := by omega
          have ca := HA.out.bool xa (by rw [HBL.out]; omega)
          have fa := HA.out.frozen xa
          have A1 := HA.out.bool_set xa (by rw [HBL.out]; omega) true
          have g1 := grownBy_setCell wr ⟨w.heap.size, xa, none⟩ (.bool true)
          have hG1 := grown_far HG.out g1 (fun q e => by have e : w.heap.size = q := Option.some.inj e; omega)
          have st1 := HS.out.kept hG1 (by simp)
          have k0 := st1.op j hjs
          have k2 := st1.b j hjs
          rw [← HEST.out] at k0 k2
          rw [← hxb] at k2 c2
          rw [← hxa] at c1
          have cb := A1.bool xb (by rw [List.length_set, HBL.out]; omega)
          have fb := A1.frozen xb
          have A2 := A1.bool_set xb (by rw [List.length_set, HBL.out]; omega) true
          have hG2 := grown_far hG1 (grownBy_setCell (wr.setCell ⟨w.heap.size, xa, none⟩ (.bool true)) ⟨w.heap.size, xb, none⟩ (.bool true)) (fun q e => by have e : w.heap.size = q := Option.some.inj e; omega)
          obtain ⟨wc, hwc⟩ : ∃ W, W = (wr.setCell ⟨w.heap.size, xa, none⟩ (.bool true)).setCell ⟨w.heap.size, xb, none⟩ (.bool true) := ⟨_, rfl⟩
          rw [← hwc] at A2 hG2
          have HC : Hid (MarksOk ss ((bs.set xa true).set xb true) j) := Lib.hid (((HMK1.out.set (by omega)).set (by omega)).close (fun _ _ => by
            rw [← HEST.out, ← hxa, Int.toNat_natCast]; exact getD_set_true (getD_set_self_true (by rw [HBL.out]; omega))) (fun _ _ => by
            rw [← HEST.out, ← hxb, Int.toNat_natCast]; exact getD_set_self_true (by rw [List.length_set, HBL.out]; omega)))
          have HA2 := Lib.hid A2; have HG2 := Lib.hid hG2; have HWC := Lib.hid hwc
          clear hbj h2 A1 A2 g1 hG1 hG2 st1 hwc hxa hxb
          go_upto_region 5 with fail
          rw [← HWC.out]
          clear ca fa cb fb k0 k2 c0 c1 c2 cm
          go_wp2
          go_roundg j
          case measure => have := HJ.out; have := HGK.out; omega
          case rel => exact ⟨j, _, (j : Int) - 1, rfl, by omega, rfl, Lib.hid rfl, HA2, HG2, HC⟩
        · have q1 : (st.op != 1) = true := by rw [h3]; rfl
          have q2 : (st.op == 2) = false := by rw [h3]; rfl
          obtain ⟨xa, hxa⟩ : ∃ xa : Nat, (xa : Int) = st.a := ⟨st.a.toNat, by omega⟩
          have hxam : (xa : Int) < m := by omega
          have ca := HA.out.bool xa (by rw [HBL.out]; omega)
          have fa := HA.out.frozen xa
          have A1 := HA.out.bool_set xa (by rw [HBL.out]; omega) true
          have hG1 := grown_far HG.out (grownBy_setCell wr ⟨w.heap.size, xa, none⟩ (.bool true)) (fun q e => by have e : w.heap.size = q := Option.some.inj e; omega)
          have st1 := HS.out.kept hG1 (by simp)
          have k0 := st1.op j hjs
          rw [← HEST.out] at k0
          obtain ⟨we, hwe⟩ : ∃ W, W = wr.setCell ⟨w.heap.size, xa, none⟩ (.bool true) := ⟨_, rfl⟩
          rw [← hwe] at A1 hG1
          rw [← hxa] at c1
          have HC : Hid (MarksOk ss (bs.set xa true) j) := Lib.hid ((HMK1.out.set (by omega)).close (fun _ _ => by
            rw [← HEST.out, ← hxa, Int.toNat_natCast]; exact getD_set_self_true (by rw [HBL.out]; omega)) (fun _ h => by rw [← HEST.out, h3] at h; omega))
          have HA2 := Lib.hid A1; have HG2 := Lib.hid hG1; have HWE := Lib.hid hwe
          clear hbj h3 A1 hG1 st1 hwe hxa
          go_upto_region 5 with fail
          rw [← HWE.out]
          clear ca fa k0 c0 c1 c2 cm
          go_wp2
          go_roundg j
          case measure => have := HJ.out; have := HGK.out; omega
          case rel => exact ⟨j, _, (j : Int) - 1, rfl, by omega, rfl, Lib.hid rfl, HA2, HG2, HC⟩
end Go.Proofs.YtdjhoadoiknaoaaDoor
