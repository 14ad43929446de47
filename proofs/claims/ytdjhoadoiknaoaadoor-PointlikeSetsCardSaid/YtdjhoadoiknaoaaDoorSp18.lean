/- Part 18 of the proof: Access. -/
import Derived.Test.YtdjhoadoiknaoaaDoorSp17
import Derived.Laws.Concat
set_option linter.unusedVariables false
set_option linter.unusedSimpArgs false
namespace Go.Proofs.YtdjhoadoiknaoaaDoor
open Go.RowKit
theorem elem_string : ElemOk Tryd.prog 31 9 (.string ⟨#[]⟩) 16 := ⟨Tryd.underlying31, by kernel_rfl, rfl⟩
def metL (n : Nat) (l : List Nat) : List Bool := (List.range n).map fun q => decide (q ∈ l)
theorem metL_length (n : Nat) (l : List Nat) : (metL n l).length = n := by simp [metL]
theorem metL_get {n : Nat} {l : List Nat} {q : Nat} (h : q < n) : (metL n l).getD q false = decide (q ∈ l) := by
  rw [getD_eq (by rw [metL_length]; exact h)]; simp [metL]
theorem metL_set {n : Nat} {l : List Nat} {q : Nat} : (metL n l).set q true = metL n (l ++ [q]) := by
  refine List.ext_getElem (by simp [metL]) fun i h1 h2 => ?_
  rw [List.getElem_set]
  simp only [metL, List.getElem_map, List.getElem_range, List.mem_append, List.mem_singleton]
  by_cases e : q = i
  · subst e; simp
  · rw [if_neg e]; congr 1; simp [Ne.symm e]
theorem metL_nil (n : Nat) : metL n [] = List.replicate n false := by
  refine List.ext_getElem (by simp [metL]) fun i h1 h2 => by simp [metL]
def ShortW (ws : List ByteArray) : Prop := ∀ j, j < ws.length → (ws.getD j ⟨#[]⟩).size ≤ j
def strV (ws : List ByteArray) : List Value := ws.map Value.string
theorem ShortW.snoc {ws : List ByteArray} {x : ByteArray} (h : ShortW ws) (hx : x.size ≤ ws.length) : ShortW (ws ++ [x]) := by
  intro j hj
  rw [List.length_append, List.length_singleton] at hj
  by_cases h1 : j < ws.length
  · have := h j h1
    simpa [List.getD, List.getElem?_append_left h1] using this
  · have : j = ws.length := by omega
    subst this
    simpa [List.getD] using hx
theorem strV_snoc (ws : List ByteArray) (x : ByteArray) : strV (ws ++ [x]) = strV ws ++ [.string x] := by simp [strV]
def AccOk (w : World) (l : List Nat) (e : Ending) (w' : World) : Prop :=
  ∃ (sa : Option Addr) (sc : Nat) (v : Value), e = .returned (.tuple #[.slice sa l.length sc, v]) ∧ w'.ownsRow w.heap.size 3 1 (.slice sa l.length sc) l.length (nats l) ∧ w.grownBy w' none
set_option maxRecDepth 100000 in
set_option maxHeartbeats 1000000 in
theorem access_any (B : Nat) (w : World) (v : Value) (d : DfaV) (n k : Nat) (hB : B ≤ w.heap.size) (h : DfaOk B w v d) (hd : VD d n k) :
    Calls Tryd.prog 103 #[v] w (AccOk w (accessD d k)) := by
  obtain ⟨fb, fo, fc, b, off, cap, RB, RO, RC, rfl, hat⟩ := h.at hd
  have hn := hd.hn
  have hn1 := hd.n1
  have hn512 := hd.n512
  have hk6 := hd.k6
  have hk1 := hd.k1
  have hfc := hat.fcap.1
  have hfc2 := hat.fcap.2
  have hcp := hat.cap.1
  have hcp2 := hat.cap.2
  have hmx1 : fc ≤ 9223372036854775807 := by unfold maxLen at hfc2; omega
  have hmx2 : cap ≤ 9223372036854775807 := by unfold maxLen at hcp2; omega
  obtain ⟨S, hS⟩ : ∃ S, S = st0 d := ⟨_, rfl⟩
  have hSn : S < n := by rw [hS]; exact st0_lt hd
  have HSE := Lib.hid hS
  rw [← hS]
  obtain ⟨wA, hWA⟩ : ∃ wA, wA = w.alloc (.cells #[.int .i64 (k : Int), .int .i64 (S : Int), .slice (some ⟨fb, fo, none⟩) n fc, .slice (some ⟨b, off, none⟩) n cap] 28) := ⟨_, rfl⟩
  have hbox : wA.heap[w.heap.size]? = some (.cells #[.int .i64 (k : Int), .int .i64 (S : Int), .slice (some ⟨fb, fo, none⟩) n fc, .slice (some ⟨b, off, none⟩) n cap] 28 (0, 0)) := by rw [hWA]; exact heap_alloc_new w _
  have hgA : w.grownBy wA none := by rw [hWA]; exact World.grownBy_alloc w _ none
  have hzA : wA.heap.size = w.heap.size + 1 := by rw [hWA, alloc_size]
  obtain ⟨c0, c1, c2, c3⟩ := dbox_cells hbox
  obtain ⟨P, hP⟩ : ∃ P, P = w.heap.size := ⟨_, rfl⟩
  have HPE := Lib.hid hP
  rw [← hP] at hbox c0 c1 c2 c3 hzA hB
  have HBX := Lib.hid hbox; have HGA := Lib.hid hgA; have HWA := Lib.hid hWA; have HAT := Lib.hid (hat.kept hgA (by simp)); have HN := Lib.hid hn; have HD := Lib.hid hd
  unfold dAgg
  clear hbox hgA hWA hat hn hd h hfc2 hcp2 hS
  go_enter Tryd.func103, Tryd.ntmps103
  go_upto_region 1 with fail
  rw [← HWA.out, ← HPE.out]
  clear hP
  obtain ⟨wB, hWB⟩ : ∃ wB, wB = (wA.alloc (.cells #[.int .i64 (S : Int)] 3)).alloc (.cells #[.string ⟨#[]⟩] 9) := ⟨_, rfl⟩
  have hownS : wB.ownsRow (P + 1) 3 1 (.slice (some ⟨P + 1, 0, none⟩) 1 1) 1 (nats [S]) := by
    rw [hWB]
    have := ownsRow_base (World.ownsRow_lit wA #[.int .i64 (S : Int)] 1 (e := 3) (size := 1) (Nat.le_refl _) (by unfold maxLen; omega) (by simp)) (Nat.le_of_eq hzA.symm)
    rw [hzA] at this
    exact this.alloc _
  have hownW : wB.ownsRow (P + 1) 9 1 (.slice (some ⟨P + 1 + 1, 0, none⟩) 1 1) 1 (strV [⟨#[]⟩]) := by
    rw [hWB]
    have := ownsRow_base (World.ownsRow_lit (wA.alloc (.cells #[.int .i64 (S : Int)] 3)) #[.string ⟨#[]⟩] 1 (e := 9) (size := 1) (Nat.le_refl _) (by unfold maxLen; omega) (by simp)) (base' := P + 1) (by rw [alloc_size, hzA]; omega)
    rw [alloc_size, hzA] at this
    exact this
  have hgB : wA.grownBy wB none := by rw [hWB]; exact grown_alloc (World.grownBy_alloc wA _ none) _
  have HWB := Lib.hid hWB; have HOS := Lib.hid hownS; have HOW := Lib.hid hownW; have HGB := Lib.hid hgB
  have hzB : wB.heap.size = P + 1 + 1 + 1 := by rw [hWB, alloc_size, alloc_size, hzA]
  clear hWB hownS hownW hgB
  go_upto_region 2 with fail
  rw [← HWB.out]
  obtain ⟨d0, d1, d2, d3⟩ := dbox_cells (block_kept HBX.out HGB.out (by simp))
  go_upto_region 3 with (first | (at_make; refine make1 rfl _ _ _ rfl elem_bool rfl .i64 .i64 _ _ n rfl rfl rfl rfl ?b1 ?b2 ?_; (case b1 => omega); (case b2 => (unfold maxLen; omega)); intro w2 harr hg2 hlt2) | fail)
  clear d0 d1 d2 d3
  obtain ⟨d0, d1, d2, d3⟩ := dbox_cells (block_kept HBX.out (grownBy_trans' HGB.out hg2) (by simp))
  obtain ⟨G, hG⟩ : ∃ G, G = P + 1 + 1 + 1 := ⟨_, rfl⟩
  have hGB : wB.heap.size = G := by omega
  rw [hGB] at harr
  rw [← hG]
  have hGP : P + 2 < G := by omega
  clear hG hzB hlt2
  rw [← bls_replicate, ← metL_nil] at harr
  have fS := harr.frozen S
  have cS := harr.bool S (by rw [metL_length]; exact hSn)
  have hA3 := harr.bool_set S (by rw [metL_length]; exact hSn) true
  rw [metL_set, List.nil_append] at hA3
  have hg3 : wB.grownBy (w2.setCell ⟨G, S, none⟩ (.bool true)) none := grown_far hg2 (grownBy_setCell w2 ⟨G, S, none⟩ _) (fun q e => by have h7 : G = q := Option.some.inj e; have := hg2.size; omega)
  have hne1 : G ≠ P + 1 := by omega
  have hne2 : G ≠ P + 1 + 1 := by omega
  have hAcc : AccI d n k 0 [S] := by have := AccI.start HD.out; rw [← HSE.out] at this; exact this
  have hgo : accGo d k (n - 0) 0 [S] = accessD d k := by rw [accessD, HN.out, ← HSE.out]; rfl
  have HACC := Lib.hid hAcc; have HGO := Lib.hid hgo
  have HA3 := Lib.hid hA3; have HG3 := Lib.hid (grownBy_trans' HGB.out hg3)
  have HO3 := Lib.hid (ownsRow_kept HOS.out hg3 (by simp)); have HW3 := Lib.hid (ownsRow_kept HOW.out hg3 (by simp))
  have HSH : Hid (ShortW [⟨#[]⟩]) := Lib.hid (fun j hj => by simp at hj; subst hj; simp [List.getD]; rfl)
  clear harr hg2 hA3 hg3 hAcc hgo hGB
  have hSn' : (S : Int) < n := by omega
  go_wp2
  clear d0 d1 d2 d3 fS cS c0 c1 c2 c3
  go_loopg [4, 5, 7] n (fun gh v4 v5 i wr => ∃ (i' : Nat) (l : List Nat) (ws : List ByteArray) (sa sb : Nat) (sc sd : Nat), gh + i' = n ∧ i = .int .i64 i' ∧ v4 = .slice (some ⟨sa, 0, none⟩) l.length sc ∧ v5 = .slice (some ⟨sb, 0, none⟩) l.length sd ∧
    wr.ownsRow (P + 1) 3 1 (.slice (some ⟨sa, 0, none⟩) l.length sc) l.length (nats l) ∧ wr.ownsRow (P + 1) 9 1 (.slice (some ⟨sb, 0, none⟩) l.length sd) l.length (strV ws) ∧ Arr wr G 4 (bls (metL n l)) ∧ AccI d n k i' l ∧ accGo d k (n - i') i' l = accessD d k ∧ i' ≤ l.length ∧ ShortW ws ∧ wA.grownBy wr none)
  case atStart => exact ⟨0, [S], [⟨#[]⟩], P + 1, P + 1 + 1, 1, 1, rfl, rfl, rfl, rfl, HO3.out, HW3.out, HA3.out, HACC.out, HGO.out, by simp, HSH.out, HG3.out⟩
  case round =>
    clear HO3 HW3 HA3 HACC HGO HSH HG3 HOS HOW
    obtain ⟨i', l, ws, sa, sb, sc, sd, hg, rfl, rfl, rfl, hown, howw, harr, hacc, hgo, hil, hsh, hgr⟩ := hrel
    have hll := nodup_le hacc.nd hacc.lt
    have HG := Lib.hid hg; have HO := Lib.hid hown; have HW := Lib.hid howw; have HA := Lib.hid harr; have HACC := Lib.hid hacc; have HGO := Lib.hid hgo; have HSH := Lib.hid hsh; have HGR := Lib.hid hgr
    clear hg hown howw harr hacc hgo hsh hgr
    by_cases hi : i' < l.length
    · have hi' : (i' : Int) < l.length := by omega
      have hin : i' < n := by omega
      have hq0 : l.getD i' 0 < n := HACC.out.lt _ (by rw [getD_eq hi]; exact List.getElem_mem _)
      obtain ⟨q0, hq0e⟩ : ∃ q0, q0 = l.getD i' 0 := ⟨_, rfl⟩
      rw [← hq0e] at hq0
      have HQ0 := Lib.hid hq0e
      clear hq0e
      go_wp2
      go_loopg [4, 5, 8] k (fun gh v4 v5 i wr => ∃ (a : Nat) (m : List Nat) (ws : List ByteArray) (sa sb : Nat) (sc sd : Nat), gh + a = k ∧ i = .int .i64 a ∧ m = accRow d l i' a ∧ v4 = .slice (some ⟨sa, 0, none⟩) m.length sc ∧ v5 = .slice (some ⟨sb, 0, none⟩) m.length sd ∧
        wr.ownsRow (P + 1) 3 1 (.slice (some ⟨sa, 0, none⟩) m.length sc) m.length (nats m) ∧ wr.ownsRow (P + 1) 9 1 (.slice (some ⟨sb, 0, none⟩) m.length sd) m.length (strV ws) ∧ Arr wr G 4 (bls (metL n m)) ∧ ShortW ws ∧ wA.grownBy wr none)
      case atStart => exact ⟨0, l, ws, sa, sb, sc, sd, rfl, rfl, rfl, rfl, rfl, HO.out, HW.out, HA.out, HSH.out, HGR.out⟩
      case round =>
        clear HO HW HA HSH HGR
        obtain ⟨a, m, ws, sa, sb, sc, sd, hg, rfl, hm, rfl, rfl, hown, howw, harr, hsh, hgr⟩ := hrel
        have HGA2 := Lib.hid hg; have HM := Lib.hid hm
        have hpre := accRow_prefix d l i' a
        rw [← hm] at hpre
        have hlm := hpre.length_le
        clear hg hm
        by_cases ha : a < k
        · have ha' : (a : Int) < k := by omega
          have hmnd : m.Nodup := by rw [HM.out]; exact accRow_nodup HACC.out.nd i' a
          have hmlt : ∀ q ∈ m, q < n := by
            intro q hq
            rw [HM.out] at hq
            rcases mem_accRow.1 hq with hq | ⟨b, hb, rfl⟩
            · exact HACC.out.lt q hq
            · rw [← HQ0.out]; exact nx_lt HD.out hq0 (by omega)
          have hml := nodup_le hmnd hmlt
          have hat2 := HAT.out.kept hgr (by simp)
          obtain ⟨d0, d1, d2, d3⟩ := dbox_cells (block_kept HBX.out hgr (by simp))
          have cq := (Arr.of_owns hown).nat i' (by omega)
          rw [getD_prefix hpre hi, ← HQ0.out] at cq
          have ch := hat2.hd q0 hq0
          have ce := hat2.el q0 a hq0 ha
          have hrc := (hat2.rcap q0 hq0).1
          have hrc2 := (hat2.rcap q0 hq0).2
          have hs := nx_lt HD.out hq0 ha
          obtain ⟨s, hse⟩ : ∃ s, s = nx d q0 a := ⟨_, rfl⟩
          rw [← hse] at ce hs
          have hs' : (s : Int) < n := by omega
          have hq0' : (q0 : Int) < n := by omega
          have hrc3 : RC q0 ≤ 9223372036854775807 := by unfold maxLen at hrc2; omega
          have cm := harr.bool s (by rw [metL_length]; exact hs)
          rw [metL_get hs] at cm
          have HSE2 : Hid (accRow d l i' (a + 1) = addNew m s) := Lib.hid (by rw [accRow, ← HQ0.out, ← hse, ← HM.out])
          clear hse hrc2 hat2
          by_cases hin2 : s ∈ m
          · rw [decide_eq_true hin2] at cm
            have HM2 : Hid (m = accRow d l i' (a + 1)) := Lib.hid (by rw [HSE2.out, addNew_old hin2])
            have HO := Lib.hid hown; have HW := Lib.hid howw; have HA := Lib.hid harr; have HSH := Lib.hid hsh; have HGR := Lib.hid hgr
            clear hin2 hown howw harr hsh hgr hmnd hmlt hpre
            go_wp2
            go_quiet (fail)
            go_wp2
            go_roundg (k - (a + 1))
            case measure => have := HGA2.out; omega
            case rel =>
              have hgd := grownBy_drewN wr 1 none
              exact ⟨a + 1, m, ws, sa, sb, sc, sd, by omega, by go_num, HM2.out, rfl, rfl, ownsRow_kept HO.out (grownBy_drewN wr _ none) (by simp), ownsRow_kept HW.out (grownBy_drewN wr _ none) (by simp), HA.out.kept (grownBy_drewN wr _ none) (by simp), HSH.out, grownBy_trans' HGR.out (grownBy_drewN wr _ _)⟩
          · rw [decide_eq_false hin2] at cm
            have HM2 : Hid (m ++ [s] = accRow d l i' (a + 1)) := Lib.hid (by rw [HSE2.out, addNew_new hin2])
            have HIN := Lib.hid hin2; have HSH := Lib.hid hsh; have HGR := Lib.hid hgr
            have fm : wr.frozen? ⟨G, s, none⟩ = false := harr.frozen s
            have hown' := Lib.hid hown; have howw' := Lib.hid howw; have harr' := Lib.hid harr
            clear hin2 hown howw harr hsh hgr hmnd hmlt hpre
            go_upto_region 10 with fail
            go_quiet (fail)
            go_upto_region 13 with fail
            obtain ⟨w5, hw5⟩ : ∃ w5, w5 = ((wr.drewN nq).setCell ⟨G, s, none⟩ (.bool true)).drew := ⟨_, rfl⟩
            have HW5 := Lib.hid hw5
            have hg5 : wr.grownBy w5 (some G) := by rw [hw5]; exact grownBy_same (grownBy_setCell wr ⟨G, s, none⟩ (.bool true)) rfl rfl rfl rfl
            have ha5 : Arr w5 G 4 (bls (metL n (m ++ [s]))) := by
              have h1 := harr'.out.bool_set s (by rw [metL_length]; exact hs) true
              rw [metL_set] at h1
              rw [hw5]; exact h1.of_heap rfl
            have ho5 : w5.ownsRow (P + 1) 3 1 (.slice (some ⟨sa, 0, none⟩) m.length sc) m.length (nats m) := hown'.out.kept hg5 (.inr (by obtain ⟨cur, rest, hq, _⟩ := harr'.out; exact owns_ne hown'.out hq (by decide)))
            have hw5o : w5.ownsRow (P + 1) 9 1 (.slice (some ⟨sb, 0, none⟩) m.length sd) m.length (strV ws) := howw'.out.kept hg5 (.inr (by obtain ⟨cur, rest, hq, _⟩ := harr'.out; exact owns_ne howw'.out hq (by decide)))
            have hne5 : ∀ q, (Value.slice (some ⟨sa, 0, none⟩) m.length sc).ownBlock = some q → (Value.slice (some ⟨sb, 0, none⟩) m.length sd).ownBlock ≠ some q := by
              intro q hq e
              have : q = sb := by simpa [Value.ownBlock] using e.symm
              subst this
              obtain ⟨cur, rest, hq2, _⟩ := Arr.of_owns hw5o
              exact owns_ne ho5 hq2 (by decide) hq
            have hwl : ws.length = m.length := by have := hw5o.1; simpa [strV] using this
            obtain ⟨u, hu⟩ : ∃ u, u = ws.getD i' ⟨#[]⟩ := ⟨_, rfl⟩
            have hus : u.size ≤ i' := by rw [hu]; exact HSH.out i' (by omega)
            obtain ⟨F, hF⟩ : ∃ F : Nat → Prop, F = fun q => (Value.slice (some ⟨sa, 0, none⟩) m.length sc).ownBlock = some q ∨ (Value.slice (some ⟨sb, 0, none⟩) m.length sd).ownBlock = some q := ⟨_, rfl⟩
            have HFF := Lib.hid hF
            have hM : Many w5 F w5 [⟨P + 1, 3, .slice (some ⟨sa, 0, none⟩) m.length sc, m.length, nats m, 1⟩, ⟨P + 1, 9, .slice (some ⟨sb, 0, none⟩) m.length sd, m.length, strV ws, 1⟩] [] [(sb, 9, strV ws)] := by
              rw [hF]
              exact ((Many.two (r := ⟨P + 1, 3, .slice (some ⟨sa, 0, none⟩) m.length sc, m.length, nats m, 1⟩) (s := ⟨P + 1, 9, .slice (some ⟨sb, 0, none⟩) m.length sd, m.length, strV ws, 1⟩) ho5 hw5o hne5).see (j := 1) rfl rfl rfl)
            have HPRE : Hid (∀ W rs ls, Many w5 F W rs ls [(sb, 9, strV ws)] → W.cell? ⟨sb, i', none⟩ = some (.string u)) := Lib.hid (fun W rs ls h => by
              have := h.precell (List.Mem.head _) i' (by simp [strV]; omega)
              rw [this, hu, getD_eq (by omega)]
              simp [strV])
            have hz5 : P + 1 ≤ w5.heap.size := by have := hg5.size; have := HGR.out.size; omega
            have HG5 := Lib.hid hg5; have HA5 := Lib.hid ha5; have HWL := Lib.hid hwl
            have hby0 : IntKind.i64.wrap (97 + (a : Int)) = 97 + (a : Int) := IntWalk.i64_in _ (by omega)
            have hby : IntKind.u8.wrap (97 + (a : Int)) = 97 + (a : Int) := IntWalk.u8_in _ (by omega)
            obtain ⟨X, hX⟩ : ∃ X, X = strOfNums [97 + (a : Int)] := ⟨_, rfl⟩
            have hXs : X.size = 1 := by rw [hX]; rfl
            have hcv : ∀ (W : World) (g : Nat), W.cell? ⟨g, 0, none⟩ = some (.int .u8 (97 + (a : Int))) → (convert 89 9 (.slice (some ⟨g, 0, none⟩) 1 1)).run Tryd.prog W = .ok (.string X) W := fun W g h => by rw [hX]; exact run_byte1 89 5 Tryd.underlying89 Tryd.underlying5 9 Tryd.underlying9 h
            have hcc : ∀ W : World, (Op.stringOp .add u X).run Tryd.prog W = .ok (.string (u ++ X)) W := fun W => run_string_add_sum W u X (by omega)
            have HNE1 : Hid ((Value.slice (some ⟨sa, 0, none⟩) m.length sc).ownBlock ≠ some G) := Lib.hid (by obtain ⟨cur, rest, hq, _⟩ := ha5; exact owns_ne ho5 hq (by decide))
            have HNE2 : Hid ((Value.slice (some ⟨sb, 0, none⟩) m.length sd).ownBlock ≠ some G) := Lib.hid (by obtain ⟨cur, rest, hq, _⟩ := ha5; exact owns_ne hw5o hq (by decide))
            have HLT1 : Hid (∀ q, (Value.slice (some ⟨sa, 0, none⟩) m.length sc).ownBlock = some q → P + 1 ≤ q) := Lib.hid (fun q hq => (ho5.lt q hq).1)
            have HLT2 : Hid (∀ q, (Value.slice (some ⟨sb, 0, none⟩) m.length sd).ownBlock = some q → P + 1 ≤ q) := Lib.hid (fun q hq => (hw5o.lt q hq).1)
            clear hX
            clear hF hu hw5 hg5 ha5 hne5 ho5 hw5o hwl cq ch ce cm fm d0 d1 d2 d3 hown' howw' harr'
            have hlm' : i' < m.length := by omega
            have hlmi : (i' : Int) < m.length := by omega
            have HAB : Hid (∀ W rs ls, Many w5 F W rs ls [(sb, 9, strV ws)] → W.cell? ⟨sb, i', none⟩ = some (.string u) ∧ W.cell? ⟨sb, i', none⟩ = some (.string u)) := Lib.hid (fun W rs ls h => ⟨HPRE.out W rs ls h, HPRE.out W rs ls h⟩)
            refine wp_region_noPanic ?_
            refine wp_regionG (G := Until 99 (fun W => W.cell? ⟨sb, i', none⟩ = some (.string u)) (fun W => W.cell? ⟨sb, i', none⟩ = some (.string u))) (by kernel_rfl) ?_
            rw [← HW5.out]
            refine takeA (i := 0) (v := ?_) rfl rfl (by kernel_rfl) (by kernel_rfl) (by kernel_rfl) (fun _ _ _ h => h) (Or.inl ⟨by rfl, ?_⟩) ⟨(HAB.out _ _ _ hM).1, fun _ => (HAB.out _ _ _ hM).2⟩ ?_
            rotate_left
            · (intro wz hz; (try dsimp only at hz); go_simp; (try with_reducible rfl))
            try simp only [Act.put, List.setIfInBounds_toArray, List.set_cons_zero, List.set_cons_succ]
            refine takeA (i := 1) (v := ?_) rfl rfl (by kernel_rfl) (by kernel_rfl) (by kernel_rfl) (fun _ _ _ h => h) (Or.inl ⟨by rfl, ?_⟩) ⟨(HAB.out _ _ _ hM).1, fun _ => (HAB.out _ _ _ hM).2⟩ ?_
            rotate_left
            · (intro wz hz; (try dsimp only at hz); go_simp; (try with_reducible rfl))
            try simp only [Act.put, List.setIfInBounds_toArray, List.set_cons_zero, List.set_cons_succ]
            refine takeA (i := 4) (v := ?_) rfl rfl (by kernel_rfl) (by kernel_rfl) (by kernel_rfl) (fun _ _ _ h => h) (Or.inl ⟨by rfl, ?_⟩) ⟨(HAB.out _ _ _ hM).1, fun _ => (HAB.out _ _ _ hM).2⟩ ?_
            rotate_left
            · (intro wz hz; (try dsimp only at hz); go_simp; (try with_reducible rfl))
            try simp only [Act.put, List.setIfInBounds_toArray, List.set_cons_zero, List.set_cons_succ]
            refine takeA (i := 5) (v := ?_) rfl rfl (by kernel_rfl) (by kernel_rfl) (by kernel_rfl) (fun _ _ _ h => h) (Or.inl ⟨by rfl, ?_⟩) ⟨(HAB.out _ _ _ hM).1, fun _ => (HAB.out _ _ _ hM).2⟩ ?_
            rotate_left
            · (intro wz hz; (try dsimp only at hz); go_simp; (try with_reducible rfl))
            try simp only [Act.put, List.setIfInBounds_toArray, List.set_cons_zero, List.set_cons_succ]
            refine takeA (i := 6) (v := ?_) rfl rfl (by kernel_rfl) (by kernel_rfl) (by kernel_rfl) (fun _ _ _ h => h) (Or.inl ⟨by rfl, ?_⟩) ⟨(HAB.out _ _ _ hM).1, fun _ => (HAB.out _ _ _ hM).2⟩ ?_
            rotate_left
            · (intro wz hz; (try dsimp only at hz); go_simp; (try with_reducible rfl))
            try simp only [Act.put, List.setIfInBounds_toArray, List.set_cons_zero, List.set_cons_succ]
            refine takeA (i := 7) (v := ?_) rfl rfl (by kernel_rfl) (by kernel_rfl) (by kernel_rfl) (fun _ _ _ h => h) (Or.inl ⟨by rfl, ?_⟩) ⟨(HAB.out _ _ _ hM).1, fun _ => (HAB.out _ _ _ hM).2⟩ ?_
            rotate_left
            · (intro wz hz; (try dsimp only at hz); go_simp; (try with_reducible rfl))
            try simp only [Act.put, List.setIfInBounds_toArray, List.set_cons_zero, List.set_cons_succ]
            refine takeA (i := 8) (v := ?_) rfl rfl (by kernel_rfl) (by kernel_rfl) (by kernel_rfl) (fun _ _ _ h => h) (Or.inl ⟨by rfl, ?_⟩) ⟨(HAB.out _ _ _ hM).1, fun _ => (HAB.out _ _ _ hM).2⟩ ?_
            rotate_left
            · (intro wz hz; (try dsimp only at hz); go_simp; (try with_reducible rfl))
            try simp only [Act.put, List.setIfInBounds_toArray, List.set_cons_zero, List.set_cons_succ]
            refine takeA (i := 9) (v := ?_) rfl rfl (by kernel_rfl) (by kernel_rfl) (by kernel_rfl) (fun _ _ _ h => h) (Or.inl ⟨by rfl, ?_⟩) ⟨(HAB.out _ _ _ hM).1, fun _ => (HAB.out _ _ _ hM).2⟩ ?_
            rotate_left
            · (intro wz hz; (try dsimp only at hz); go_simp; (try with_reducible rfl))
            try simp only [Act.put, List.setIfInBounds_toArray, List.set_cons_zero, List.set_cons_succ]
            refine takeA (i := 10) (v := ?_) rfl rfl (by kernel_rfl) (by kernel_rfl) (by kernel_rfl) (fun _ _ _ h => h) (Or.inl ⟨by rfl, ?_⟩) ⟨(HAB.out _ _ _ hM).1, fun _ => (HAB.out _ _ _ hM).2⟩ ?_
            rotate_left
            · (intro wz hz; (try dsimp only at hz); go_simp; (try with_reducible rfl))
            try simp only [Act.put, List.setIfInBounds_toArray, List.set_cons_zero, List.set_cons_succ]
            refine takeA (i := 11) (v := ?_) rfl rfl (by kernel_rfl) (by kernel_rfl) (by kernel_rfl) (fun _ _ _ h => h) (Or.inl ⟨by rfl, ?_⟩) ⟨(HAB.out _ _ _ hM).1, fun _ => (HAB.out _ _ _ hM).2⟩ ?_
            rotate_left
            · (intro wz hz; (try dsimp only at hz); go_simp; (try with_reducible rfl))
            try simp only [Act.put, List.setIfInBounds_toArray, List.set_cons_zero, List.set_cons_succ]
            refine twoG (i := 2) (j := 12) (by kernel_rfl) rfl rfl (fun K hK => ?_) (fun K hK => ?_)
            · skip
              go_simp
              refine hK.out _ _ ⟨(HAB.out _ _ _ (hM.alloc _)).1, fun _ => (HAB.out _ _ _ (hM.alloc _)).2⟩ ?_
              clear hK K
              try simp only [Act.put, List.setIfInBounds_toArray, List.set_cons_zero, List.set_cons_succ]
              refine twoG (i := 3) (j := 12) (by kernel_rfl) rfl rfl (fun K hK => ?_) (fun K hK => ?_)
              · skip
                refine step_many rfl (.tmp 53) (.tmp 55) 22 rfl elem_int 0 _ _ rfl ⟨_, _, _, _, _, (hM.alloc _), _, rfl, rfl, rfl, rfl, ?g3, ?g4, hz5, _, _, _, List.Mem.head _, (by first | rfl | simp), rfl, ?_⟩
                case g3 => (simp only []; unfold maxLen; omega)
                case g4 => (simp only []; omega)
                intro sa1 sc1 w1x hM1
                have hl0 := hM1.litcell (List.Mem.head _)
                try simp only [alloc_size] at hl0
                refine hK.out _ _ ⟨(HAB.out _ _ _ hM1).1, fun _ => (HAB.out _ _ _ hM1).2⟩ ?_
                clear hK K
                try simp only [Act.put, List.setIfInBounds_toArray, List.set_cons_zero, List.set_cons_succ]
                refine oneG (i := 12) (by kernel_rfl) rfl (fun K hK => ?_)
                go_simp
                refine hK.out _ _ ⟨(HAB.out _ _ _ (hM1.alloc _)).1, fun _ => (HAB.out _ _ _ (hM1.alloc _)).2⟩ ?_
                clear hK K
                try simp only [Act.put, List.setIfInBounds_toArray, List.set_cons_zero, List.set_cons_succ]
                refine oneG (i := 13) (by kernel_rfl) rfl (fun K hK => ?_)
                go_simp
                refine hK.out _ _ ⟨(HAB.out _ _ _ (hM1.alloc _)).1, fun _ => (HAB.out _ _ _ (hM1.alloc _)).2⟩ ?_
                clear hK K
                try simp only [Act.put, List.setIfInBounds_toArray, List.set_cons_zero, List.set_cons_succ]
                refine takeA (i := 14) (v := ?_) rfl rfl (by kernel_rfl) (by kernel_rfl) (by kernel_rfl) (fun _ _ _ h => h) (Or.inl ⟨by rfl, ?_⟩) ⟨(HAB.out _ _ _ (hM1.alloc _)).1, fun _ => (HAB.out _ _ _ (hM1.alloc _)).2⟩ ?_
                rotate_left
                · (intro wz hz; (try dsimp only at hz); go_simp; (try with_reducible rfl))
                try simp only [Act.put, List.setIfInBounds_toArray, List.set_cons_zero, List.set_cons_succ]
                refine oneG (i := 15) (by kernel_rfl) rfl (fun K hK => ?_)
                go_simp
                refine hK.out _ _ ⟨(HAB.out _ _ _ ((hM1.alloc _).alloc _)).1, fun _ => (HAB.out _ _ _ ((hM1.alloc _).alloc _)).2⟩ ?_
                clear hK K
                try simp only [Act.put, List.setIfInBounds_toArray, List.set_cons_zero, List.set_cons_succ]
                refine oneG (i := 16) (by kernel_rfl) rfl (fun K hK => ?_)
                refine step_many rfl (.tmp 57) (.tmp 68) 31 rfl elem_string 1 _ _ rfl ⟨_, _, _, _, _, ((hM1.alloc _).alloc _), _, rfl, rfl, rfl, rfl, ?g3, ?g4, hz5, _, _, _, List.Mem.head _, (by first | rfl | simp), rfl, ?_⟩
                case g3 => (simp only []; unfold maxLen; omega)
                case g4 => (simp only []; omega)
                intro sa2 sc2 w2x hM2
                have hl0 := hM2.litcell (List.Mem.head _)
                try simp only [alloc_size] at hl0
                have hl1 := hM2.litcell (List.Mem.tail _ (List.Mem.head _))
                try simp only [alloc_size] at hl1
                have hl2 := hM2.litcell (List.Mem.tail _ (List.Mem.tail _ (List.Mem.head _)))
                try simp only [alloc_size] at hl2
                refine hK.out _ _ ⟨(HAB.out _ _ _ hM2).1, fun _ => (HAB.out _ _ _ hM2).2⟩ ?_
                clear hK K
                try simp only [Act.put, List.setIfInBounds_toArray, List.set_cons_zero, List.set_cons_succ]
                refine takeA (i := 17) (v := ?_) rfl rfl (by kernel_rfl) (by kernel_rfl) (by kernel_rfl) (fun _ _ _ h => h) (Or.inl ⟨by rfl, ?_⟩) ⟨(HAB.out _ _ _ hM2).1, fun _ => (HAB.out _ _ _ hM2).2⟩ ?_
                rotate_left
                · (intro wz hz; (try dsimp only at hz); go_simp; (try with_reducible rfl))
                try simp only [Act.put, List.setIfInBounds_toArray, List.set_cons_zero, List.set_cons_succ]
                refine takeA (i := 18) (v := ?_) rfl rfl (by kernel_rfl) (by kernel_rfl) (by kernel_rfl) (fun _ _ _ h => h) (Or.inl ⟨by rfl, ?_⟩) ⟨(HAB.out _ _ _ hM2).1, fun _ => (HAB.out _ _ _ hM2).2⟩ ?_
                rotate_left
                · (intro wz hz; (try dsimp only at hz); go_simp; (try with_reducible rfl))
                try simp only [Act.put, List.setIfInBounds_toArray, List.set_cons_zero, List.set_cons_succ]
                refine doneG (by kernel_rfl) ?_ _
                refine NoPanic.normal ?_
                have hbt : ∀ q, F q → q ≠ G := fun q hq => by
                  rw [HFF.out] at hq
                  have h1 := hM2.own
                  rintro rfl
                  rcases hq with hq | hq
                  · exact HNE1.out hq
                  · exact HNE2.out hq
                have hown7 := hM2.own 0 _ rfl
                have howw7 := hM2.own 1 _ rfl
                have hg7 : wA.grownBy w2x none := GrownBut.grown hM2.but (grown_far HGR.out HG5.out (fun q e => by have h7 : G = q := Option.some.inj e; omega)) (fun q hq => by
                  rw [HFF.out] at hq
                  rcases hq with hq | hq
                  · exact .inr (by have := HLT1.out q hq; omega)
                  · exact .inr (by have := HLT2.out q hq; omega))
                have ha7 : Arr w2x G 4 (bls (metL n (m ++ [s]))) := by
                  obtain ⟨cur, rest, hq, hc⟩ := HA5.out
                  exact ⟨cur, rest, hM2.but.heap hq (fun hf => hbt G hf rfl), hc⟩
                have hsh7 : ShortW (ws ++ [u ++ X]) := HSH.out.snoc (by rw [ByteArray.size_append]; have := HWL.out; omega)
                simp only [] at hown7 howw7
                rw [← nats_snoc] at hown7
                rw [← strV_snoc] at howw7
                have hml7 : (m ++ [s]).length = m.length + 1 := by simp
                obtain ⟨ka, rfl, _, _, _⟩ := owns_some hown7 (by omega)
                obtain ⟨kb, rfl, _, _, _⟩ := owns_some howw7 (by omega)
                have HO7 := Lib.hid hown7; have HW7 := Lib.hid howw7; have HG7 := Lib.hid hg7; have HA7 := Lib.hid ha7; have HSH7 := Lib.hid hsh7; have HML := Lib.hid hml7
                (try clear hM1)
                clear hM2 hown7 howw7 hg7 ha7 hsh7 hbt hml7 hcv hcc
                go_wp2
                go_roundg (k - (a + 1))
                case measure => have := HGA2.out; omega
                case rel => exact ⟨a + 1, m ++ [s], ws ++ [u ++ X], ka, kb, _, _, by omega, by go_num, HM2.out, by rw [HML.out], by rw [HML.out], by rw [HML.out]; exact HO7.out, by rw [HML.out]; exact HW7.out, HA7.out, HSH7.out, HG7.out⟩
              · skip
                go_simp
                refine hK.out _ _ ⟨(HAB.out _ _ _ ((hM.alloc _).alloc _)).1, fun _ => (HAB.out _ _ _ ((hM.alloc _).alloc _)).2⟩ ?_
                clear hK K
                try simp only [Act.put, List.setIfInBounds_toArray, List.set_cons_zero, List.set_cons_succ]
                refine twoG (i := 3) (j := 13) (by kernel_rfl) rfl rfl (fun K hK => ?_) (fun K hK => ?_)
                · skip
                  refine step_many rfl (.tmp 53) (.tmp 55) 22 rfl elem_int 0 _ _ rfl ⟨_, _, _, _, _, ((hM.alloc _).alloc _), _, rfl, rfl, rfl, rfl, ?g3, ?g4, hz5, _, _, _, List.Mem.tail _ (List.Mem.head _), (by first | rfl | simp), rfl, ?_⟩
                  case g3 => (simp only []; unfold maxLen; omega)
                  case g4 => (simp only []; omega)
                  intro sa3 sc3 w3x hM3
                  have hl0 := hM3.litcell (List.Mem.head _)
                  try simp only [alloc_size] at hl0
                  have hl1 := hM3.litcell (List.Mem.tail _ (List.Mem.head _))
                  try simp only [alloc_size] at hl1
                  refine hK.out _ _ ⟨(HAB.out _ _ _ hM3).1, fun _ => (HAB.out _ _ _ hM3).2⟩ ?_
                  clear hK K
                  try simp only [Act.put, List.setIfInBounds_toArray, List.set_cons_zero, List.set_cons_succ]
                  refine oneG (i := 13) (by kernel_rfl) rfl (fun K hK => ?_)
                  go_simp
                  refine hK.out _ _ ⟨(HAB.out _ _ _ hM3).1, fun _ => (HAB.out _ _ _ hM3).2⟩ ?_
                  clear hK K
                  try simp only [Act.put, List.setIfInBounds_toArray, List.set_cons_zero, List.set_cons_succ]
                  refine takeA (i := 14) (v := ?_) rfl rfl (by kernel_rfl) (by kernel_rfl) (by kernel_rfl) (fun _ _ _ h => h) (Or.inl ⟨by rfl, ?_⟩) ⟨(HAB.out _ _ _ hM3).1, fun _ => (HAB.out _ _ _ hM3).2⟩ ?_
                  rotate_left
                  · (intro wz hz; (try dsimp only at hz); go_simp; (try with_reducible rfl))
                  try simp only [Act.put, List.setIfInBounds_toArray, List.set_cons_zero, List.set_cons_succ]
                  refine oneG (i := 15) (by kernel_rfl) rfl (fun K hK => ?_)
                  go_simp
                  refine hK.out _ _ ⟨(HAB.out _ _ _ (hM3.alloc _)).1, fun _ => (HAB.out _ _ _ (hM3.alloc _)).2⟩ ?_
                  clear hK K
                  try simp only [Act.put, List.setIfInBounds_toArray, List.set_cons_zero, List.set_cons_succ]
                  refine oneG (i := 16) (by kernel_rfl) rfl (fun K hK => ?_)
                  refine step_many rfl (.tmp 57) (.tmp 68) 31 rfl elem_string 1 _ _ rfl ⟨_, _, _, _, _, (hM3.alloc _), _, rfl, rfl, rfl, rfl, ?g3, ?g4, hz5, _, _, _, List.Mem.head _, (by first | rfl | simp), rfl, ?_⟩
                  case g3 => (simp only []; unfold maxLen; omega)
                  case g4 => (simp only []; omega)
                  intro sa4 sc4 w4x hM4
                  have hl0 := hM4.litcell (List.Mem.head _)
                  try simp only [alloc_size] at hl0
                  have hl1 := hM4.litcell (List.Mem.tail _ (List.Mem.head _))
                  try simp only [alloc_size] at hl1
                  have hl2 := hM4.litcell (List.Mem.tail _ (List.Mem.tail _ (List.Mem.head _)))
                  try simp only [alloc_size] at hl2
                  refine hK.out _ _ ⟨(HAB.out _ _ _ hM4).1, fun _ => (HAB.out _ _ _ hM4).2⟩ ?_
                  clear hK K
                  try simp only [Act.put, List.setIfInBounds_toArray, List.set_cons_zero, List.set_cons_succ]
                  refine takeA (i := 17) (v := ?_) rfl rfl (by kernel_rfl) (by kernel_rfl) (by kernel_rfl) (fun _ _ _ h => h) (Or.inl ⟨by rfl, ?_⟩) ⟨(HAB.out _ _ _ hM4).1, fun _ => (HAB.out _ _ _ hM4).2⟩ ?_
                  rotate_left
                  · (intro wz hz; (try dsimp only at hz); go_simp; (try with_reducible rfl))
                  try simp only [Act.put, List.setIfInBounds_toArray, List.set_cons_zero, List.set_cons_succ]
                  refine takeA (i := 18) (v := ?_) rfl rfl (by kernel_rfl) (by kernel_rfl) (by kernel_rfl) (fun _ _ _ h => h) (Or.inl ⟨by rfl, ?_⟩) ⟨(HAB.out _ _ _ hM4).1, fun _ => (HAB.out _ _ _ hM4).2⟩ ?_
                  rotate_left
                  · (intro wz hz; (try dsimp only at hz); go_simp; (try with_reducible rfl))
                  try simp only [Act.put, List.setIfInBounds_toArray, List.set_cons_zero, List.set_cons_succ]
                  refine doneG (by kernel_rfl) ?_ _
                  refine NoPanic.normal ?_
                  have hbt : ∀ q, F q → q ≠ G := fun q hq => by
                    rw [HFF.out] at hq
                    have h1 := hM4.own
                    rintro rfl
                    rcases hq with hq | hq
                    · exact HNE1.out hq
                    · exact HNE2.out hq
                  have hown7 := hM4.own 0 _ rfl
                  have howw7 := hM4.own 1 _ rfl
                  have hg7 : wA.grownBy w4x none := GrownBut.grown hM4.but (grown_far HGR.out HG5.out (fun q e => by have h7 : G = q := Option.some.inj e; omega)) (fun q hq => by
                    rw [HFF.out] at hq
                    rcases hq with hq | hq
                    · exact .inr (by have := HLT1.out q hq; omega)
                    · exact .inr (by have := HLT2.out q hq; omega))
                  have ha7 : Arr w4x G 4 (bls (metL n (m ++ [s]))) := by
                    obtain ⟨cur, rest, hq, hc⟩ := HA5.out
                    exact ⟨cur, rest, hM4.but.heap hq (fun hf => hbt G hf rfl), hc⟩
                  have hsh7 : ShortW (ws ++ [u ++ X]) := HSH.out.snoc (by rw [ByteArray.size_append]; have := HWL.out; omega)
                  simp only [] at hown7 howw7
                  rw [← nats_snoc] at hown7
                  rw [← strV_snoc] at howw7
                  have hml7 : (m ++ [s]).length = m.length + 1 := by simp
                  obtain ⟨ka, rfl, _, _, _⟩ := owns_some hown7 (by omega)
                  obtain ⟨kb, rfl, _, _, _⟩ := owns_some howw7 (by omega)
                  have HO7 := Lib.hid hown7; have HW7 := Lib.hid howw7; have HG7 := Lib.hid hg7; have HA7 := Lib.hid ha7; have HSH7 := Lib.hid hsh7; have HML := Lib.hid hml7
                  (try clear hM3)
                  clear hM4 hown7 howw7 hg7 ha7 hsh7 hbt hml7 hcv hcc
                  go_wp2
                  go_roundg (k - (a + 1))
                  case measure => have := HGA2.out; omega
                  case rel => exact ⟨a + 1, m ++ [s], ws ++ [u ++ X], ka, kb, _, _, by omega, by go_num, HM2.out, by rw [HML.out], by rw [HML.out], by rw [HML.out]; exact HO7.out, by rw [HML.out]; exact HW7.out, HA7.out, HSH7.out, HG7.out⟩
                · skip
                  go_simp
                  refine hK.out _ _ ⟨(HAB.out _ _ _ ((hM.alloc _).alloc _)).1, fun _ => (HAB.out _ _ _ ((hM.alloc _).alloc _)).2⟩ ?_
                  clear hK K
                  try simp only [Act.put, List.setIfInBounds_toArray, List.set_cons_zero, List.set_cons_succ]
                  refine takeA (i := 14) (v := ?_) rfl rfl (by kernel_rfl) (by kernel_rfl) (by kernel_rfl) (fun _ _ _ h => h) (Or.inl ⟨by rfl, ?_⟩) ⟨(HAB.out _ _ _ ((hM.alloc _).alloc _)).1, fun _ => (HAB.out _ _ _ ((hM.alloc _).alloc _)).2⟩ ?_
                  rotate_left
                  · (intro wz hz; (try dsimp only at hz); go_simp; (try with_reducible rfl))
                  try simp only [Act.put, List.setIfInBounds_toArray, List.set_cons_zero, List.set_cons_succ]
                  refine twoG (i := 3) (j := 15) (by kernel_rfl) rfl rfl (fun K hK => ?_) (fun K hK => ?_)
                  · skip
                    refine step_many rfl (.tmp 53) (.tmp 55) 22 rfl elem_int 0 _ _ rfl ⟨_, _, _, _, _, ((hM.alloc _).alloc _), _, rfl, rfl, rfl, rfl, ?g3, ?g4, hz5, _, _, _, List.Mem.tail _ (List.Mem.head _), (by first | rfl | simp), rfl, ?_⟩
                    case g3 => (simp only []; unfold maxLen; omega)
                    case g4 => (simp only []; omega)
                    intro sa5 sc5 w5x hM5
                    have hl0 := hM5.litcell (List.Mem.head _)
                    try simp only [alloc_size] at hl0
                    have hl1 := hM5.litcell (List.Mem.tail _ (List.Mem.head _))
                    try simp only [alloc_size] at hl1
                    refine hK.out _ _ ⟨(HAB.out _ _ _ hM5).1, fun _ => (HAB.out _ _ _ hM5).2⟩ ?_
                    clear hK K
                    try simp only [Act.put, List.setIfInBounds_toArray, List.set_cons_zero, List.set_cons_succ]
                    refine oneG (i := 15) (by kernel_rfl) rfl (fun K hK => ?_)
                    go_simp
                    refine hK.out _ _ ⟨(HAB.out _ _ _ (hM5.alloc _)).1, fun _ => (HAB.out _ _ _ (hM5.alloc _)).2⟩ ?_
                    clear hK K
                    try simp only [Act.put, List.setIfInBounds_toArray, List.set_cons_zero, List.set_cons_succ]
                    refine oneG (i := 16) (by kernel_rfl) rfl (fun K hK => ?_)
                    refine step_many rfl (.tmp 57) (.tmp 68) 31 rfl elem_string 1 _ _ rfl ⟨_, _, _, _, _, (hM5.alloc _), _, rfl, rfl, rfl, rfl, ?g3, ?g4, hz5, _, _, _, List.Mem.head _, (by first | rfl | simp), rfl, ?_⟩
                    case g3 => (simp only []; unfold maxLen; omega)
                    case g4 => (simp only []; omega)
                    intro sa6 sc6 w6x hM6
                    have hl0 := hM6.litcell (List.Mem.head _)
                    try simp only [alloc_size] at hl0
                    have hl1 := hM6.litcell (List.Mem.tail _ (List.Mem.head _))
                    try simp only [alloc_size] at hl1
                    have hl2 := hM6.litcell (List.Mem.tail _ (List.Mem.tail _ (List.Mem.head _)))
                    try simp only [alloc_size] at hl2
                    refine hK.out _ _ ⟨(HAB.out _ _ _ hM6).1, fun _ => (HAB.out _ _ _ hM6).2⟩ ?_
                    clear hK K
                    try simp only [Act.put, List.setIfInBounds_toArray, List.set_cons_zero, List.set_cons_succ]
                    refine takeA (i := 17) (v := ?_) rfl rfl (by kernel_rfl) (by kernel_rfl) (by kernel_rfl) (fun _ _ _ h => h) (Or.inl ⟨by rfl, ?_⟩) ⟨(HAB.out _ _ _ hM6).1, fun _ => (HAB.out _ _ _ hM6).2⟩ ?_
                    rotate_left
                    · (intro wz hz; (try dsimp only at hz); go_simp; (try with_reducible rfl))
                    try simp only [Act.put, List.setIfInBounds_toArray, List.set_cons_zero, List.set_cons_succ]
                    refine takeA (i := 18) (v := ?_) rfl rfl (by kernel_rfl) (by kernel_rfl) (by kernel_rfl) (fun _ _ _ h => h) (Or.inl ⟨by rfl, ?_⟩) ⟨(HAB.out _ _ _ hM6).1, fun _ => (HAB.out _ _ _ hM6).2⟩ ?_
                    rotate_left
                    · (intro wz hz; (try dsimp only at hz); go_simp; (try with_reducible rfl))
                    try simp only [Act.put, List.setIfInBounds_toArray, List.set_cons_zero, List.set_cons_succ]
                    refine doneG (by kernel_rfl) ?_ _
                    refine NoPanic.normal ?_
                    have hbt : ∀ q, F q → q ≠ G := fun q hq => by
                      rw [HFF.out] at hq
                      have h1 := hM6.own
                      rintro rfl
                      rcases hq with hq | hq
                      · exact HNE1.out hq
                      · exact HNE2.out hq
                    have hown7 := hM6.own 0 _ rfl
                    have howw7 := hM6.own 1 _ rfl
                    have hg7 : wA.grownBy w6x none := GrownBut.grown hM6.but (grown_far HGR.out HG5.out (fun q e => by have h7 : G = q := Option.some.inj e; omega)) (fun q hq => by
                      rw [HFF.out] at hq
                      rcases hq with hq | hq
                      · exact .inr (by have := HLT1.out q hq; omega)
                      · exact .inr (by have := HLT2.out q hq; omega))
                    have ha7 : Arr w6x G 4 (bls (metL n (m ++ [s]))) := by
                      obtain ⟨cur, rest, hq, hc⟩ := HA5.out
                      exact ⟨cur, rest, hM6.but.heap hq (fun hf => hbt G hf rfl), hc⟩
                    have hsh7 : ShortW (ws ++ [u ++ X]) := HSH.out.snoc (by rw [ByteArray.size_append]; have := HWL.out; omega)
                    simp only [] at hown7 howw7
                    rw [← nats_snoc] at hown7
                    rw [← strV_snoc] at howw7
                    have hml7 : (m ++ [s]).length = m.length + 1 := by simp
                    obtain ⟨ka, rfl, _, _, _⟩ := owns_some hown7 (by omega)
                    obtain ⟨kb, rfl, _, _, _⟩ := owns_some howw7 (by omega)
                    have HO7 := Lib.hid hown7; have HW7 := Lib.hid howw7; have HG7 := Lib.hid hg7; have HA7 := Lib.hid ha7; have HSH7 := Lib.hid hsh7; have HML := Lib.hid hml7
                    (try clear hM5)
                    clear hM6 hown7 howw7 hg7 ha7 hsh7 hbt hml7 hcv hcc
                    go_wp2
                    go_roundg (k - (a + 1))
                    case measure => have := HGA2.out; omega
                    case rel => exact ⟨a + 1, m ++ [s], ws ++ [u ++ X], ka, kb, _, _, by omega, by go_num, HM2.out, by rw [HML.out], by rw [HML.out], by rw [HML.out]; exact HO7.out, by rw [HML.out]; exact HW7.out, HA7.out, HSH7.out, HG7.out⟩
                  · skip
                    go_simp
                    refine hK.out _ _ ⟨(HAB.out _ _ _ (((hM.alloc _).alloc _).alloc _)).1, fun _ => (HAB.out _ _ _ (((hM.alloc _).alloc _).alloc _)).2⟩ ?_
                    clear hK K
                    try simp only [Act.put, List.setIfInBounds_toArray, List.set_cons_zero, List.set_cons_succ]
                    refine oneG (i := 3) (by kernel_rfl) rfl (fun K hK => ?_)
                    refine step_many rfl (.tmp 53) (.tmp 55) 22 rfl elem_int 0 _ _ rfl ⟨_, _, _, _, _, (((hM.alloc _).alloc _).alloc _), _, rfl, rfl, rfl, rfl, ?g3, ?g4, hz5, _, _, _, List.Mem.tail _ (List.Mem.tail _ (List.Mem.head _)), (by first | rfl | simp), rfl, ?_⟩
                    case g3 => (simp only []; unfold maxLen; omega)
                    case g4 => (simp only []; omega)
                    intro sa7 sc7 w7x hM7
                    have hl0 := hM7.litcell (List.Mem.head _)
                    try simp only [alloc_size] at hl0
                    have hl1 := hM7.litcell (List.Mem.tail _ (List.Mem.head _))
                    try simp only [alloc_size] at hl1
                    have hl2 := hM7.litcell (List.Mem.tail _ (List.Mem.tail _ (List.Mem.head _)))
                    try simp only [alloc_size] at hl2
                    refine hK.out _ _ ⟨(HAB.out _ _ _ hM7).1, fun _ => (HAB.out _ _ _ hM7).2⟩ ?_
                    clear hK K
                    try simp only [Act.put, List.setIfInBounds_toArray, List.set_cons_zero, List.set_cons_succ]
                    refine oneG (i := 16) (by kernel_rfl) rfl (fun K hK => ?_)
                    refine step_many rfl (.tmp 57) (.tmp 68) 31 rfl elem_string 1 _ _ rfl ⟨_, _, _, _, _, hM7, _, rfl, rfl, rfl, rfl, ?g3, ?g4, hz5, _, _, _, List.Mem.head _, (by first | rfl | simp), rfl, ?_⟩
                    case g3 => (simp only []; unfold maxLen; omega)
                    case g4 => (simp only []; omega)
                    intro sa8 sc8 w8x hM8
                    have hl0 := hM8.litcell (List.Mem.head _)
                    try simp only [alloc_size] at hl0
                    have hl1 := hM8.litcell (List.Mem.tail _ (List.Mem.head _))
                    try simp only [alloc_size] at hl1
                    have hl2 := hM8.litcell (List.Mem.tail _ (List.Mem.tail _ (List.Mem.head _)))
                    try simp only [alloc_size] at hl2
                    refine hK.out _ _ ⟨(HAB.out _ _ _ hM8).1, fun _ => (HAB.out _ _ _ hM8).2⟩ ?_
                    clear hK K
                    try simp only [Act.put, List.setIfInBounds_toArray, List.set_cons_zero, List.set_cons_succ]
                    refine takeA (i := 17) (v := ?_) rfl rfl (by kernel_rfl) (by kernel_rfl) (by kernel_rfl) (fun _ _ _ h => h) (Or.inl ⟨by rfl, ?_⟩) ⟨(HAB.out _ _ _ hM8).1, fun _ => (HAB.out _ _ _ hM8).2⟩ ?_
                    rotate_left
                    · (intro wz hz; (try dsimp only at hz); go_simp; (try with_reducible rfl))
                    try simp only [Act.put, List.setIfInBounds_toArray, List.set_cons_zero, List.set_cons_succ]
                    refine takeA (i := 18) (v := ?_) rfl rfl (by kernel_rfl) (by kernel_rfl) (by kernel_rfl) (fun _ _ _ h => h) (Or.inl ⟨by rfl, ?_⟩) ⟨(HAB.out _ _ _ hM8).1, fun _ => (HAB.out _ _ _ hM8).2⟩ ?_
                    rotate_left
                    · (intro wz hz; (try dsimp only at hz); go_simp; (try with_reducible rfl))
                    try simp only [Act.put, List.setIfInBounds_toArray, List.set_cons_zero, List.set_cons_succ]
                    refine doneG (by kernel_rfl) ?_ _
                    refine NoPanic.normal ?_
                    have hbt : ∀ q, F q → q ≠ G := fun q hq => by
                      rw [HFF.out] at hq
                      have h1 := hM8.own
                      rintro rfl
                      rcases hq with hq | hq
                      · exact HNE1.out hq
                      · exact HNE2.out hq
                    have hown7 := hM8.own 0 _ rfl
                    have howw7 := hM8.own 1 _ rfl
                    have hg7 : wA.grownBy w8x none := GrownBut.grown hM8.but (grown_far HGR.out HG5.out (fun q e => by have h7 : G = q := Option.some.inj e; omega)) (fun q hq => by
                      rw [HFF.out] at hq
                      rcases hq with hq | hq
                      · exact .inr (by have := HLT1.out q hq; omega)
                      · exact .inr (by have := HLT2.out q hq; omega))
                    have ha7 : Arr w8x G 4 (bls (metL n (m ++ [s]))) := by
                      obtain ⟨cur, rest, hq, hc⟩ := HA5.out
                      exact ⟨cur, rest, hM8.but.heap hq (fun hf => hbt G hf rfl), hc⟩
                    have hsh7 : ShortW (ws ++ [u ++ X]) := HSH.out.snoc (by rw [ByteArray.size_append]; have := HWL.out; omega)
                    simp only [] at hown7 howw7
                    rw [← nats_snoc] at hown7
                    rw [← strV_snoc] at howw7
                    have hml7 : (m ++ [s]).length = m.length + 1 := by simp
                    obtain ⟨ka, rfl, _, _, _⟩ := owns_some hown7 (by omega)
                    obtain ⟨kb, rfl, _, _, _⟩ := owns_some howw7 (by omega)
                    have HO7 := Lib.hid hown7; have HW7 := Lib.hid howw7; have HG7 := Lib.hid hg7; have HA7 := Lib.hid ha7; have HSH7 := Lib.hid hsh7; have HML := Lib.hid hml7
                    (try clear hM7)
                    clear hM8 hown7 howw7 hg7 ha7 hsh7 hbt hml7 hcv hcc
                    go_wp2
                    go_roundg (k - (a + 1))
                    case measure => have := HGA2.out; omega
                    case rel => exact ⟨a + 1, m ++ [s], ws ++ [u ++ X], ka, kb, _, _, by omega, by go_num, HM2.out, by rw [HML.out], by rw [HML.out], by rw [HML.out]; exact HO7.out, by rw [HML.out]; exact HW7.out, HA7.out, HSH7.out, HG7.out⟩
            · skip
              go_simp
              refine hK.out _ _ ⟨(HAB.out _ _ _ (hM.alloc _)).1, fun _ => (HAB.out _ _ _ (hM.alloc _)).2⟩ ?_
              clear hK K
              try simp only [Act.put, List.setIfInBounds_toArray, List.set_cons_zero, List.set_cons_succ]
              refine twoG (i := 2) (j := 13) (by kernel_rfl) rfl rfl (fun K hK => ?_) (fun K hK => ?_)
              · skip
                go_simp
                refine hK.out _ _ ⟨(HAB.out _ _ _ ((hM.alloc _).alloc _)).1, fun _ => (HAB.out _ _ _ ((hM.alloc _).alloc _)).2⟩ ?_
                clear hK K
                try simp only [Act.put, List.setIfInBounds_toArray, List.set_cons_zero, List.set_cons_succ]
                refine twoG (i := 3) (j := 13) (by kernel_rfl) rfl rfl (fun K hK => ?_) (fun K hK => ?_)
                · skip
                  refine step_many rfl (.tmp 53) (.tmp 55) 22 rfl elem_int 0 _ _ rfl ⟨_, _, _, _, _, ((hM.alloc _).alloc _), _, rfl, rfl, rfl, rfl, ?g3, ?g4, hz5, _, _, _, List.Mem.head _, (by first | rfl | simp), rfl, ?_⟩
                  case g3 => (simp only []; unfold maxLen; omega)
                  case g4 => (simp only []; omega)
                  intro sa9 sc9 w9x hM9
                  have hl0 := hM9.litcell (List.Mem.head _)
                  try simp only [alloc_size] at hl0
                  have hl1 := hM9.litcell (List.Mem.tail _ (List.Mem.head _))
                  try simp only [alloc_size] at hl1
                  refine hK.out _ _ ⟨(HAB.out _ _ _ hM9).1, fun _ => (HAB.out _ _ _ hM9).2⟩ ?_
                  clear hK K
                  try simp only [Act.put, List.setIfInBounds_toArray, List.set_cons_zero, List.set_cons_succ]
                  refine oneG (i := 13) (by kernel_rfl) rfl (fun K hK => ?_)
                  go_simp
                  refine hK.out _ _ ⟨(HAB.out _ _ _ hM9).1, fun _ => (HAB.out _ _ _ hM9).2⟩ ?_
                  clear hK K
                  try simp only [Act.put, List.setIfInBounds_toArray, List.set_cons_zero, List.set_cons_succ]
                  refine takeA (i := 14) (v := ?_) rfl rfl (by kernel_rfl) (by kernel_rfl) (by kernel_rfl) (fun _ _ _ h => h) (Or.inl ⟨by rfl, ?_⟩) ⟨(HAB.out _ _ _ hM9).1, fun _ => (HAB.out _ _ _ hM9).2⟩ ?_
                  rotate_left
                  · (intro wz hz; (try dsimp only at hz); go_simp; (try with_reducible rfl))
                  try simp only [Act.put, List.setIfInBounds_toArray, List.set_cons_zero, List.set_cons_succ]
                  refine oneG (i := 15) (by kernel_rfl) rfl (fun K hK => ?_)
                  go_simp
                  refine hK.out _ _ ⟨(HAB.out _ _ _ (hM9.alloc _)).1, fun _ => (HAB.out _ _ _ (hM9.alloc _)).2⟩ ?_
                  clear hK K
                  try simp only [Act.put, List.setIfInBounds_toArray, List.set_cons_zero, List.set_cons_succ]
                  refine oneG (i := 16) (by kernel_rfl) rfl (fun K hK => ?_)
                  refine step_many rfl (.tmp 57) (.tmp 68) 31 rfl elem_string 1 _ _ rfl ⟨_, _, _, _, _, (hM9.alloc _), _, rfl, rfl, rfl, rfl, ?g3, ?g4, hz5, _, _, _, List.Mem.head _, (by first | rfl | simp), rfl, ?_⟩
                  case g3 => (simp only []; unfold maxLen; omega)
                  case g4 => (simp only []; omega)
                  intro sa10 sc10 w10x hM10
                  have hl0 := hM10.litcell (List.Mem.head _)
                  try simp only [alloc_size] at hl0
                  have hl1 := hM10.litcell (List.Mem.tail _ (List.Mem.head _))
                  try simp only [alloc_size] at hl1
                  have hl2 := hM10.litcell (List.Mem.tail _ (List.Mem.tail _ (List.Mem.head _)))
                  try simp only [alloc_size] at hl2
                  refine hK.out _ _ ⟨(HAB.out _ _ _ hM10).1, fun _ => (HAB.out _ _ _ hM10).2⟩ ?_
                  clear hK K
                  try simp only [Act.put, List.setIfInBounds_toArray, List.set_cons_zero, List.set_cons_succ]
                  refine takeA (i := 17) (v := ?_) rfl rfl (by kernel_rfl) (by kernel_rfl) (by kernel_rfl) (fun _ _ _ h => h) (Or.inl ⟨by rfl, ?_⟩) ⟨(HAB.out _ _ _ hM10).1, fun _ => (HAB.out _ _ _ hM10).2⟩ ?_
                  rotate_left
                  · (intro wz hz; (try dsimp only at hz); go_simp; (try with_reducible rfl))
                  try simp only [Act.put, List.setIfInBounds_toArray, List.set_cons_zero, List.set_cons_succ]
                  refine takeA (i := 18) (v := ?_) rfl rfl (by kernel_rfl) (by kernel_rfl) (by kernel_rfl) (fun _ _ _ h => h) (Or.inl ⟨by rfl, ?_⟩) ⟨(HAB.out _ _ _ hM10).1, fun _ => (HAB.out _ _ _ hM10).2⟩ ?_
                  rotate_left
                  · (intro wz hz; (try dsimp only at hz); go_simp; (try with_reducible rfl))
                  try simp only [Act.put, List.setIfInBounds_toArray, List.set_cons_zero, List.set_cons_succ]
                  refine doneG (by kernel_rfl) ?_ _
                  refine NoPanic.normal ?_
                  have hbt : ∀ q, F q → q ≠ G := fun q hq => by
                    rw [HFF.out] at hq
                    have h1 := hM10.own
                    rintro rfl
                    rcases hq with hq | hq
                    · exact HNE1.out hq
                    · exact HNE2.out hq
                  have hown7 := hM10.own 0 _ rfl
                  have howw7 := hM10.own 1 _ rfl
                  have hg7 : wA.grownBy w10x none := GrownBut.grown hM10.but (grown_far HGR.out HG5.out (fun q e => by have h7 : G = q := Option.some.inj e; omega)) (fun q hq => by
                    rw [HFF.out] at hq
                    rcases hq with hq | hq
                    · exact .inr (by have := HLT1.out q hq; omega)
                    · exact .inr (by have := HLT2.out q hq; omega))
                  have ha7 : Arr w10x G 4 (bls (metL n (m ++ [s]))) := by
                    obtain ⟨cur, rest, hq, hc⟩ := HA5.out
                    exact ⟨cur, rest, hM10.but.heap hq (fun hf => hbt G hf rfl), hc⟩
                  have hsh7 : ShortW (ws ++ [u ++ X]) := HSH.out.snoc (by rw [ByteArray.size_append]; have := HWL.out; omega)
                  simp only [] at hown7 howw7
                  rw [← nats_snoc] at hown7
                  rw [← strV_snoc] at howw7
                  have hml7 : (m ++ [s]).length = m.length + 1 := by simp
                  obtain ⟨ka, rfl, _, _, _⟩ := owns_some hown7 (by omega)
                  obtain ⟨kb, rfl, _, _, _⟩ := owns_some howw7 (by omega)
                  have HO7 := Lib.hid hown7; have HW7 := Lib.hid howw7; have HG7 := Lib.hid hg7; have HA7 := Lib.hid ha7; have HSH7 := Lib.hid hsh7; have HML := Lib.hid hml7
                  (try clear hM9)
                  clear hM10 hown7 howw7 hg7 ha7 hsh7 hbt hml7 hcv hcc
                  go_wp2
                  go_roundg (k - (a + 1))
                  case measure => have := HGA2.out; omega
                  case rel => exact ⟨a + 1, m ++ [s], ws ++ [u ++ X], ka, kb, _, _, by omega, by go_num, HM2.out, by rw [HML.out], by rw [HML.out], by rw [HML.out]; exact HO7.out, by rw [HML.out]; exact HW7.out, HA7.out, HSH7.out, HG7.out⟩
                · skip
                  go_simp
                  refine hK.out _ _ ⟨(HAB.out _ _ _ ((hM.alloc _).alloc _)).1, fun _ => (HAB.out _ _ _ ((hM.alloc _).alloc _)).2⟩ ?_
                  clear hK K
                  try simp only [Act.put, List.setIfInBounds_toArray, List.set_cons_zero, List.set_cons_succ]
                  refine takeA (i := 14) (v := ?_) rfl rfl (by kernel_rfl) (by kernel_rfl) (by kernel_rfl) (fun _ _ _ h => h) (Or.inl ⟨by rfl, ?_⟩) ⟨(HAB.out _ _ _ ((hM.alloc _).alloc _)).1, fun _ => (HAB.out _ _ _ ((hM.alloc _).alloc _)).2⟩ ?_
                  rotate_left
                  · (intro wz hz; (try dsimp only at hz); go_simp; (try with_reducible rfl))
                  try simp only [Act.put, List.setIfInBounds_toArray, List.set_cons_zero, List.set_cons_succ]
                  refine twoG (i := 3) (j := 15) (by kernel_rfl) rfl rfl (fun K hK => ?_) (fun K hK => ?_)
                  · skip
                    refine step_many rfl (.tmp 53) (.tmp 55) 22 rfl elem_int 0 _ _ rfl ⟨_, _, _, _, _, ((hM.alloc _).alloc _), _, rfl, rfl, rfl, rfl, ?g3, ?g4, hz5, _, _, _, List.Mem.head _, (by first | rfl | simp), rfl, ?_⟩
                    case g3 => (simp only []; unfold maxLen; omega)
                    case g4 => (simp only []; omega)
                    intro sa11 sc11 w11x hM11
                    have hl0 := hM11.litcell (List.Mem.head _)
                    try simp only [alloc_size] at hl0
                    have hl1 := hM11.litcell (List.Mem.tail _ (List.Mem.head _))
                    try simp only [alloc_size] at hl1
                    refine hK.out _ _ ⟨(HAB.out _ _ _ hM11).1, fun _ => (HAB.out _ _ _ hM11).2⟩ ?_
                    clear hK K
                    try simp only [Act.put, List.setIfInBounds_toArray, List.set_cons_zero, List.set_cons_succ]
                    refine oneG (i := 15) (by kernel_rfl) rfl (fun K hK => ?_)
                    go_simp
                    refine hK.out _ _ ⟨(HAB.out _ _ _ (hM11.alloc _)).1, fun _ => (HAB.out _ _ _ (hM11.alloc _)).2⟩ ?_
                    clear hK K
                    try simp only [Act.put, List.setIfInBounds_toArray, List.set_cons_zero, List.set_cons_succ]
                    refine oneG (i := 16) (by kernel_rfl) rfl (fun K hK => ?_)
                    refine step_many rfl (.tmp 57) (.tmp 68) 31 rfl elem_string 1 _ _ rfl ⟨_, _, _, _, _, (hM11.alloc _), _, rfl, rfl, rfl, rfl, ?g3, ?g4, hz5, _, _, _, List.Mem.head _, (by first | rfl | simp), rfl, ?_⟩
                    case g3 => (simp only []; unfold maxLen; omega)
                    case g4 => (simp only []; omega)
                    intro sa12 sc12 w12x hM12
                    have hl0 := hM12.litcell (List.Mem.head _)
                    try simp only [alloc_size] at hl0
                    have hl1 := hM12.litcell (List.Mem.tail _ (List.Mem.head _))
                    try simp only [alloc_size] at hl1
                    have hl2 := hM12.litcell (List.Mem.tail _ (List.Mem.tail _ (List.Mem.head _)))
                    try simp only [alloc_size] at hl2
                    refine hK.out _ _ ⟨(HAB.out _ _ _ hM12).1, fun _ => (HAB.out _ _ _ hM12).2⟩ ?_
                    clear hK K
                    try simp only [Act.put, List.setIfInBounds_toArray, List.set_cons_zero, List.set_cons_succ]
                    refine takeA (i := 17) (v := ?_) rfl rfl (by kernel_rfl) (by kernel_rfl) (by kernel_rfl) (fun _ _ _ h => h) (Or.inl ⟨by rfl, ?_⟩) ⟨(HAB.out _ _ _ hM12).1, fun _ => (HAB.out _ _ _ hM12).2⟩ ?_
                    rotate_left
                    · (intro wz hz; (try dsimp only at hz); go_simp; (try with_reducible rfl))
                    try simp only [Act.put, List.setIfInBounds_toArray, List.set_cons_zero, List.set_cons_succ]
                    refine takeA (i := 18) (v := ?_) rfl rfl (by kernel_rfl) (by kernel_rfl) (by kernel_rfl) (fun _ _ _ h => h) (Or.inl ⟨by rfl, ?_⟩) ⟨(HAB.out _ _ _ hM12).1, fun _ => (HAB.out _ _ _ hM12).2⟩ ?_
                    rotate_left
                    · (intro wz hz; (try dsimp only at hz); go_simp; (try with_reducible rfl))
                    try simp only [Act.put, List.setIfInBounds_toArray, List.set_cons_zero, List.set_cons_succ]
                    refine doneG (by kernel_rfl) ?_ _
                    refine NoPanic.normal ?_
                    have hbt : ∀ q, F q → q ≠ G := fun q hq => by
                      rw [HFF.out] at hq
                      have h1 := hM12.own
                      rintro rfl
                      rcases hq with hq | hq
                      · exact HNE1.out hq
                      · exact HNE2.out hq
                    have hown7 := hM12.own 0 _ rfl
                    have howw7 := hM12.own 1 _ rfl
                    have hg7 : wA.grownBy w12x none := GrownBut.grown hM12.but (grown_far HGR.out HG5.out (fun q e => by have h7 : G = q := Option.some.inj e; omega)) (fun q hq => by
                      rw [HFF.out] at hq
                      rcases hq with hq | hq
                      · exact .inr (by have := HLT1.out q hq; omega)
                      · exact .inr (by have := HLT2.out q hq; omega))
                    have ha7 : Arr w12x G 4 (bls (metL n (m ++ [s]))) := by
                      obtain ⟨cur, rest, hq, hc⟩ := HA5.out
                      exact ⟨cur, rest, hM12.but.heap hq (fun hf => hbt G hf rfl), hc⟩
                    have hsh7 : ShortW (ws ++ [u ++ X]) := HSH.out.snoc (by rw [ByteArray.size_append]; have := HWL.out; omega)
                    simp only [] at hown7 howw7
                    rw [← nats_snoc] at hown7
                    rw [← strV_snoc] at howw7
                    have hml7 : (m ++ [s]).length = m.length + 1 := by simp
                    obtain ⟨ka, rfl, _, _, _⟩ := owns_some hown7 (by omega)
                    obtain ⟨kb, rfl, _, _, _⟩ := owns_some howw7 (by omega)
                    have HO7 := Lib.hid hown7; have HW7 := Lib.hid howw7; have HG7 := Lib.hid hg7; have HA7 := Lib.hid ha7; have HSH7 := Lib.hid hsh7; have HML := Lib.hid hml7
                    (try clear hM11)
                    clear hM12 hown7 howw7 hg7 ha7 hsh7 hbt hml7 hcv hcc
                    go_wp2
                    go_roundg (k - (a + 1))
                    case measure => have := HGA2.out; omega
                    case rel => exact ⟨a + 1, m ++ [s], ws ++ [u ++ X], ka, kb, _, _, by omega, by go_num, HM2.out, by rw [HML.out], by rw [HML.out], by rw [HML.out]; exact HO7.out, by rw [HML.out]; exact HW7.out, HA7.out, HSH7.out, HG7.out⟩
                  · skip
                    go_simp
                    refine hK.out _ _ ⟨(HAB.out _ _ _ (((hM.alloc _).alloc _).alloc _)).1, fun _ => (HAB.out _ _ _ (((hM.alloc _).alloc _).alloc _)).2⟩ ?_
                    clear hK K
                    try simp only [Act.put, List.setIfInBounds_toArray, List.set_cons_zero, List.set_cons_succ]
                    refine oneG (i := 3) (by kernel_rfl) rfl (fun K hK => ?_)
                    refine step_many rfl (.tmp 53) (.tmp 55) 22 rfl elem_int 0 _ _ rfl ⟨_, _, _, _, _, (((hM.alloc _).alloc _).alloc _), _, rfl, rfl, rfl, rfl, ?g3, ?g4, hz5, _, _, _, List.Mem.tail _ (List.Mem.head _), (by first | rfl | simp), rfl, ?_⟩
                    case g3 => (simp only []; unfold maxLen; omega)
                    case g4 => (simp only []; omega)
                    intro sa13 sc13 w13x hM13
                    have hl0 := hM13.litcell (List.Mem.head _)
                    try simp only [alloc_size] at hl0
                    have hl1 := hM13.litcell (List.Mem.tail _ (List.Mem.head _))
                    try simp only [alloc_size] at hl1
                    have hl2 := hM13.litcell (List.Mem.tail _ (List.Mem.tail _ (List.Mem.head _)))
                    try simp only [alloc_size] at hl2
                    refine hK.out _ _ ⟨(HAB.out _ _ _ hM13).1, fun _ => (HAB.out _ _ _ hM13).2⟩ ?_
                    clear hK K
                    try simp only [Act.put, List.setIfInBounds_toArray, List.set_cons_zero, List.set_cons_succ]
                    refine oneG (i := 16) (by kernel_rfl) rfl (fun K hK => ?_)
                    refine step_many rfl (.tmp 57) (.tmp 68) 31 rfl elem_string 1 _ _ rfl ⟨_, _, _, _, _, hM13, _, rfl, rfl, rfl, rfl, ?g3, ?g4, hz5, _, _, _, List.Mem.head _, (by first | rfl | simp), rfl, ?_⟩
                    case g3 => (simp only []; unfold maxLen; omega)
                    case g4 => (simp only []; omega)
                    intro sa14 sc14 w14x hM14
                    have hl0 := hM14.litcell (List.Mem.head _)
                    try simp only [alloc_size] at hl0
                    have hl1 := hM14.litcell (List.Mem.tail _ (List.Mem.head _))
                    try simp only [alloc_size] at hl1
                    have hl2 := hM14.litcell (List.Mem.tail _ (List.Mem.tail _ (List.Mem.head _)))
                    try simp only [alloc_size] at hl2
                    refine hK.out _ _ ⟨(HAB.out _ _ _ hM14).1, fun _ => (HAB.out _ _ _ hM14).2⟩ ?_
                    clear hK K
                    try simp only [Act.put, List.setIfInBounds_toArray, List.set_cons_zero, List.set_cons_succ]
                    refine takeA (i := 17) (v := ?_) rfl rfl (by kernel_rfl) (by kernel_rfl) (by kernel_rfl) (fun _ _ _ h => h) (Or.inl ⟨by rfl, ?_⟩) ⟨(HAB.out _ _ _ hM14).1, fun _ => (HAB.out _ _ _ hM14).2⟩ ?_
                    rotate_left
                    · (intro wz hz; (try dsimp only at hz); go_simp; (try with_reducible rfl))
                    try simp only [Act.put, List.setIfInBounds_toArray, List.set_cons_zero, List.set_cons_succ]
                    refine takeA (i := 18) (v := ?_) rfl rfl (by kernel_rfl) (by kernel_rfl) (by kernel_rfl) (fun _ _ _ h => h) (Or.inl ⟨by rfl, ?_⟩) ⟨(HAB.out _ _ _ hM14).1, fun _ => (HAB.out _ _ _ hM14).2⟩ ?_
                    rotate_left
                    · (intro wz hz; (try dsimp only at hz); go_simp; (try with_reducible rfl))
                    try simp only [Act.put, List.setIfInBounds_toArray, List.set_cons_zero, List.set_cons_succ]
                    refine doneG (by kernel_rfl) ?_ _
                    refine NoPanic.normal ?_
                    have hbt : ∀ q, F q → q ≠ G := fun q hq => by
                      rw [HFF.out] at hq
                      have h1 := hM14.own
                      rintro rfl
                      rcases hq with hq | hq
                      · exact HNE1.out hq
                      · exact HNE2.out hq
                    have hown7 := hM14.own 0 _ rfl
                    have howw7 := hM14.own 1 _ rfl
                    have hg7 : wA.grownBy w14x none := GrownBut.grown hM14.but (grown_far HGR.out HG5.out (fun q e => by have h7 : G = q := Option.some.inj e; omega)) (fun q hq => by
                      rw [HFF.out] at hq
                      rcases hq with hq | hq
                      · exact .inr (by have := HLT1.out q hq; omega)
                      · exact .inr (by have := HLT2.out q hq; omega))
                    have ha7 : Arr w14x G 4 (bls (metL n (m ++ [s]))) := by
                      obtain ⟨cur, rest, hq, hc⟩ := HA5.out
                      exact ⟨cur, rest, hM14.but.heap hq (fun hf => hbt G hf rfl), hc⟩
                    have hsh7 : ShortW (ws ++ [u ++ X]) := HSH.out.snoc (by rw [ByteArray.size_append]; have := HWL.out; omega)
                    simp only [] at hown7 howw7
                    rw [← nats_snoc] at hown7
                    rw [← strV_snoc] at howw7
                    have hml7 : (m ++ [s]).length = m.length + 1 := by simp
                    obtain ⟨ka, rfl, _, _, _⟩ := owns_some hown7 (by omega)
                    obtain ⟨kb, rfl, _, _, _⟩ := owns_some howw7 (by omega)
                    have HO7 := Lib.hid hown7; have HW7 := Lib.hid howw7; have HG7 := Lib.hid hg7; have HA7 := Lib.hid ha7; have HSH7 := Lib.hid hsh7; have HML := Lib.hid hml7
                    (try clear hM13)
                    clear hM14 hown7 howw7 hg7 ha7 hsh7 hbt hml7 hcv hcc
                    go_wp2
                    go_roundg (k - (a + 1))
                    case measure => have := HGA2.out; omega
                    case rel => exact ⟨a + 1, m ++ [s], ws ++ [u ++ X], ka, kb, _, _, by omega, by go_num, HM2.out, by rw [HML.out], by rw [HML.out], by rw [HML.out]; exact HO7.out, by rw [HML.out]; exact HW7.out, HA7.out, HSH7.out, HG7.out⟩
              · skip
                go_simp
                refine hK.out _ _ ⟨(HAB.out _ _ _ (hM.alloc _)).1, fun _ => (HAB.out _ _ _ (hM.alloc _)).2⟩ ?_
                clear hK K
                try simp only [Act.put, List.setIfInBounds_toArray, List.set_cons_zero, List.set_cons_succ]
                refine takeA (i := 14) (v := ?_) rfl rfl (by kernel_rfl) (by kernel_rfl) (by kernel_rfl) (fun _ _ _ h => h) (Or.inl ⟨by rfl, ?_⟩) ⟨(HAB.out _ _ _ (hM.alloc _)).1, fun _ => (HAB.out _ _ _ (hM.alloc _)).2⟩ ?_
                rotate_left
                · (intro wz hz; (try dsimp only at hz); go_simp; (try with_reducible rfl))
                try simp only [Act.put, List.setIfInBounds_toArray, List.set_cons_zero, List.set_cons_succ]
                refine twoG (i := 2) (j := 15) (by kernel_rfl) rfl rfl (fun K hK => ?_) (fun K hK => ?_)
                · skip
                  go_simp
                  refine hK.out _ _ ⟨(HAB.out _ _ _ ((hM.alloc _).alloc _)).1, fun _ => (HAB.out _ _ _ ((hM.alloc _).alloc _)).2⟩ ?_
                  clear hK K
                  try simp only [Act.put, List.setIfInBounds_toArray, List.set_cons_zero, List.set_cons_succ]
                  refine twoG (i := 3) (j := 15) (by kernel_rfl) rfl rfl (fun K hK => ?_) (fun K hK => ?_)
                  · skip
                    refine step_many rfl (.tmp 53) (.tmp 55) 22 rfl elem_int 0 _ _ rfl ⟨_, _, _, _, _, ((hM.alloc _).alloc _), _, rfl, rfl, rfl, rfl, ?g3, ?g4, hz5, _, _, _, List.Mem.head _, (by first | rfl | simp), rfl, ?_⟩
                    case g3 => (simp only []; unfold maxLen; omega)
                    case g4 => (simp only []; omega)
                    intro sa15 sc15 w15x hM15
                    have hl0 := hM15.litcell (List.Mem.head _)
                    try simp only [alloc_size] at hl0
                    have hl1 := hM15.litcell (List.Mem.tail _ (List.Mem.head _))
                    try simp only [alloc_size] at hl1
                    refine hK.out _ _ ⟨(HAB.out _ _ _ hM15).1, fun _ => (HAB.out _ _ _ hM15).2⟩ ?_
                    clear hK K
                    try simp only [Act.put, List.setIfInBounds_toArray, List.set_cons_zero, List.set_cons_succ]
                    refine oneG (i := 15) (by kernel_rfl) rfl (fun K hK => ?_)
                    go_simp
                    refine hK.out _ _ ⟨(HAB.out _ _ _ (hM15.alloc _)).1, fun _ => (HAB.out _ _ _ (hM15.alloc _)).2⟩ ?_
                    clear hK K
                    try simp only [Act.put, List.setIfInBounds_toArray, List.set_cons_zero, List.set_cons_succ]
                    refine oneG (i := 16) (by kernel_rfl) rfl (fun K hK => ?_)
                    refine step_many rfl (.tmp 57) (.tmp 68) 31 rfl elem_string 1 _ _ rfl ⟨_, _, _, _, _, (hM15.alloc _), _, rfl, rfl, rfl, rfl, ?g3, ?g4, hz5, _, _, _, List.Mem.head _, (by first | rfl | simp), rfl, ?_⟩
                    case g3 => (simp only []; unfold maxLen; omega)
                    case g4 => (simp only []; omega)
                    intro sa16 sc16 w16x hM16
                    have hl0 := hM16.litcell (List.Mem.head _)
                    try simp only [alloc_size] at hl0
                    have hl1 := hM16.litcell (List.Mem.tail _ (List.Mem.head _))
                    try simp only [alloc_size] at hl1
                    have hl2 := hM16.litcell (List.Mem.tail _ (List.Mem.tail _ (List.Mem.head _)))
                    try simp only [alloc_size] at hl2
                    refine hK.out _ _ ⟨(HAB.out _ _ _ hM16).1, fun _ => (HAB.out _ _ _ hM16).2⟩ ?_
                    clear hK K
                    try simp only [Act.put, List.setIfInBounds_toArray, List.set_cons_zero, List.set_cons_succ]
                    refine takeA (i := 17) (v := ?_) rfl rfl (by kernel_rfl) (by kernel_rfl) (by kernel_rfl) (fun _ _ _ h => h) (Or.inl ⟨by rfl, ?_⟩) ⟨(HAB.out _ _ _ hM16).1, fun _ => (HAB.out _ _ _ hM16).2⟩ ?_
                    rotate_left
                    · (intro wz hz; (try dsimp only at hz); go_simp; (try with_reducible rfl))
                    try simp only [Act.put, List.setIfInBounds_toArray, List.set_cons_zero, List.set_cons_succ]
                    refine takeA (i := 18) (v := ?_) rfl rfl (by kernel_rfl) (by kernel_rfl) (by kernel_rfl) (fun _ _ _ h => h) (Or.inl ⟨by rfl, ?_⟩) ⟨(HAB.out _ _ _ hM16).1, fun _ => (HAB.out _ _ _ hM16).2⟩ ?_
                    rotate_left
                    · (intro wz hz; (try dsimp only at hz); go_simp; (try with_reducible rfl))
                    try simp only [Act.put, List.setIfInBounds_toArray, List.set_cons_zero, List.set_cons_succ]
                    refine doneG (by kernel_rfl) ?_ _
                    refine NoPanic.normal ?_
                    have hbt : ∀ q, F q → q ≠ G := fun q hq => by
                      rw [HFF.out] at hq
                      have h1 := hM16.own
                      rintro rfl
                      rcases hq with hq | hq
                      · exact HNE1.out hq
                      · exact HNE2.out hq
                    have hown7 := hM16.own 0 _ rfl
                    have howw7 := hM16.own 1 _ rfl
                    have hg7 : wA.grownBy w16x none := GrownBut.grown hM16.but (grown_far HGR.out HG5.out (fun q e => by have h7 : G = q := Option.some.inj e; omega)) (fun q hq => by
                      rw [HFF.out] at hq
                      rcases hq with hq | hq
                      · exact .inr (by have := HLT1.out q hq; omega)
                      · exact .inr (by have := HLT2.out q hq; omega))
                    have ha7 : Arr w16x G 4 (bls (metL n (m ++ [s]))) := by
                      obtain ⟨cur, rest, hq, hc⟩ := HA5.out
                      exact ⟨cur, rest, hM16.but.heap hq (fun hf => hbt G hf rfl), hc⟩
                    have hsh7 : ShortW (ws ++ [u ++ X]) := HSH.out.snoc (by rw [ByteArray.size_append]; have := HWL.out; omega)
                    simp only [] at hown7 howw7
                    rw [← nats_snoc] at hown7
                    rw [← strV_snoc] at howw7
                    have hml7 : (m ++ [s]).length = m.length + 1 := by simp
                    obtain ⟨ka, rfl, _, _, _⟩ := owns_some hown7 (by omega)
                    obtain ⟨kb, rfl, _, _, _⟩ := owns_some howw7 (by omega)
                    have HO7 := Lib.hid hown7; have HW7 := Lib.hid howw7; have HG7 := Lib.hid hg7; have HA7 := Lib.hid ha7; have HSH7 := Lib.hid hsh7; have HML := Lib.hid hml7
                    (try clear hM15)
                    clear hM16 hown7 howw7 hg7 ha7 hsh7 hbt hml7 hcv hcc
                    go_wp2
                    go_roundg (k - (a + 1))
                    case measure => have := HGA2.out; omega
                    case rel => exact ⟨a + 1, m ++ [s], ws ++ [u ++ X], ka, kb, _, _, by omega, by go_num, HM2.out, by rw [HML.out], by rw [HML.out], by rw [HML.out]; exact HO7.out, by rw [HML.out]; exact HW7.out, HA7.out, HSH7.out, HG7.out⟩
                  · skip
                    go_simp
                    refine hK.out _ _ ⟨(HAB.out _ _ _ (((hM.alloc _).alloc _).alloc _)).1, fun _ => (HAB.out _ _ _ (((hM.alloc _).alloc _).alloc _)).2⟩ ?_
                    clear hK K
                    try simp only [Act.put, List.setIfInBounds_toArray, List.set_cons_zero, List.set_cons_succ]
                    refine oneG (i := 3) (by kernel_rfl) rfl (fun K hK => ?_)
                    refine step_many rfl (.tmp 53) (.tmp 55) 22 rfl elem_int 0 _ _ rfl ⟨_, _, _, _, _, (((hM.alloc _).alloc _).alloc _), _, rfl, rfl, rfl, rfl, ?g3, ?g4, hz5, _, _, _, List.Mem.tail _ (List.Mem.head _), (by first | rfl | simp), rfl, ?_⟩
                    case g3 => (simp only []; unfold maxLen; omega)
                    case g4 => (simp only []; omega)
                    intro sa17 sc17 w17x hM17
                    have hl0 := hM17.litcell (List.Mem.head _)
                    try simp only [alloc_size] at hl0
                    have hl1 := hM17.litcell (List.Mem.tail _ (List.Mem.head _))
                    try simp only [alloc_size] at hl1
                    have hl2 := hM17.litcell (List.Mem.tail _ (List.Mem.tail _ (List.Mem.head _)))
                    try simp only [alloc_size] at hl2
                    refine hK.out _ _ ⟨(HAB.out _ _ _ hM17).1, fun _ => (HAB.out _ _ _ hM17).2⟩ ?_
                    clear hK K
                    try simp only [Act.put, List.setIfInBounds_toArray, List.set_cons_zero, List.set_cons_succ]
                    refine oneG (i := 16) (by kernel_rfl) rfl (fun K hK => ?_)
                    refine step_many rfl (.tmp 57) (.tmp 68) 31 rfl elem_string 1 _ _ rfl ⟨_, _, _, _, _, hM17, _, rfl, rfl, rfl, rfl, ?g3, ?g4, hz5, _, _, _, List.Mem.head _, (by first | rfl | simp), rfl, ?_⟩
                    case g3 => (simp only []; unfold maxLen; omega)
                    case g4 => (simp only []; omega)
                    intro sa18 sc18 w18x hM18
                    have hl0 := hM18.litcell (List.Mem.head _)
                    try simp only [alloc_size] at hl0
                    have hl1 := hM18.litcell (List.Mem.tail _ (List.Mem.head _))
                    try simp only [alloc_size] at hl1
                    have hl2 := hM18.litcell (List.Mem.tail _ (List.Mem.tail _ (List.Mem.head _)))
                    try simp only [alloc_size] at hl2
                    refine hK.out _ _ ⟨(HAB.out _ _ _ hM18).1, fun _ => (HAB.out _ _ _ hM18).2⟩ ?_
                    clear hK K
                    try simp only [Act.put, List.setIfInBounds_toArray, List.set_cons_zero, List.set_cons_succ]
                    refine takeA (i := 17) (v := ?_) rfl rfl (by kernel_rfl) (by kernel_rfl) (by kernel_rfl) (fun _ _ _ h => h) (Or.inl ⟨by rfl, ?_⟩) ⟨(HAB.out _ _ _ hM18).1, fun _ => (HAB.out _ _ _ hM18).2⟩ ?_
                    rotate_left
                    · (intro wz hz; (try dsimp only at hz); go_simp; (try with_reducible rfl))
                    try simp only [Act.put, List.setIfInBounds_toArray, List.set_cons_zero, List.set_cons_succ]
                    refine takeA (i := 18) (v := ?_) rfl rfl (by kernel_rfl) (by kernel_rfl) (by kernel_rfl) (fun _ _ _ h => h) (Or.inl ⟨by rfl, ?_⟩) ⟨(HAB.out _ _ _ hM18).1, fun _ => (HAB.out _ _ _ hM18).2⟩ ?_
                    rotate_left
                    · (intro wz hz; (try dsimp only at hz); go_simp; (try with_reducible rfl))
                    try simp only [Act.put, List.setIfInBounds_toArray, List.set_cons_zero, List.set_cons_succ]
                    refine doneG (by kernel_rfl) ?_ _
                    refine NoPanic.normal ?_
                    have hbt : ∀ q, F q → q ≠ G := fun q hq => by
                      rw [HFF.out] at hq
                      have h1 := hM18.own
                      rintro rfl
                      rcases hq with hq | hq
                      · exact HNE1.out hq
                      · exact HNE2.out hq
                    have hown7 := hM18.own 0 _ rfl
                    have howw7 := hM18.own 1 _ rfl
                    have hg7 : wA.grownBy w18x none := GrownBut.grown hM18.but (grown_far HGR.out HG5.out (fun q e => by have h7 : G = q := Option.some.inj e; omega)) (fun q hq => by
                      rw [HFF.out] at hq
                      rcases hq with hq | hq
                      · exact .inr (by have := HLT1.out q hq; omega)
                      · exact .inr (by have := HLT2.out q hq; omega))
                    have ha7 : Arr w18x G 4 (bls (metL n (m ++ [s]))) := by
                      obtain ⟨cur, rest, hq, hc⟩ := HA5.out
                      exact ⟨cur, rest, hM18.but.heap hq (fun hf => hbt G hf rfl), hc⟩
                    have hsh7 : ShortW (ws ++ [u ++ X]) := HSH.out.snoc (by rw [ByteArray.size_append]; have := HWL.out; omega)
                    simp only [] at hown7 howw7
                    rw [← nats_snoc] at hown7
                    rw [← strV_snoc] at howw7
                    have hml7 : (m ++ [s]).length = m.length + 1 := by simp
                    obtain ⟨ka, rfl, _, _, _⟩ := owns_some hown7 (by omega)
                    obtain ⟨kb, rfl, _, _, _⟩ := owns_some howw7 (by omega)
                    have HO7 := Lib.hid hown7; have HW7 := Lib.hid howw7; have HG7 := Lib.hid hg7; have HA7 := Lib.hid ha7; have HSH7 := Lib.hid hsh7; have HML := Lib.hid hml7
                    (try clear hM17)
                    clear hM18 hown7 howw7 hg7 ha7 hsh7 hbt hml7 hcv hcc
                    go_wp2
                    go_roundg (k - (a + 1))
                    case measure => have := HGA2.out; omega
                    case rel => exact ⟨a + 1, m ++ [s], ws ++ [u ++ X], ka, kb, _, _, by omega, by go_num, HM2.out, by rw [HML.out], by rw [HML.out], by rw [HML.out]; exact HO7.out, by rw [HML.out]; exact HW7.out, HA7.out, HSH7.out, HG7.out⟩
                · skip
                  go_simp
                  refine hK.out _ _ ⟨(HAB.out _ _ _ ((hM.alloc _).alloc _)).1, fun _ => (HAB.out _ _ _ ((hM.alloc _).alloc _)).2⟩ ?_
                  clear hK K
                  try simp only [Act.put, List.setIfInBounds_toArray, List.set_cons_zero, List.set_cons_succ]
                  refine oneG (i := 2) (by kernel_rfl) rfl (fun K hK => ?_)
                  go_simp
                  refine hK.out _ _ ⟨(HAB.out _ _ _ (((hM.alloc _).alloc _).alloc _)).1, fun _ => (HAB.out _ _ _ (((hM.alloc _).alloc _).alloc _)).2⟩ ?_
                  clear hK K
                  try simp only [Act.put, List.setIfInBounds_toArray, List.set_cons_zero, List.set_cons_succ]
                  refine oneG (i := 3) (by kernel_rfl) rfl (fun K hK => ?_)
                  refine step_many rfl (.tmp 53) (.tmp 55) 22 rfl elem_int 0 _ _ rfl ⟨_, _, _, _, _, (((hM.alloc _).alloc _).alloc _), _, rfl, rfl, rfl, rfl, ?g3, ?g4, hz5, _, _, _, List.Mem.head _, (by first | rfl | simp), rfl, ?_⟩
                  case g3 => (simp only []; unfold maxLen; omega)
                  case g4 => (simp only []; omega)
                  intro sa19 sc19 w19x hM19
                  have hl0 := hM19.litcell (List.Mem.head _)
                  try simp only [alloc_size] at hl0
                  have hl1 := hM19.litcell (List.Mem.tail _ (List.Mem.head _))
                  try simp only [alloc_size] at hl1
                  have hl2 := hM19.litcell (List.Mem.tail _ (List.Mem.tail _ (List.Mem.head _)))
                  try simp only [alloc_size] at hl2
                  refine hK.out _ _ ⟨(HAB.out _ _ _ hM19).1, fun _ => (HAB.out _ _ _ hM19).2⟩ ?_
                  clear hK K
                  try simp only [Act.put, List.setIfInBounds_toArray, List.set_cons_zero, List.set_cons_succ]
                  refine oneG (i := 16) (by kernel_rfl) rfl (fun K hK => ?_)
                  refine step_many rfl (.tmp 57) (.tmp 68) 31 rfl elem_string 1 _ _ rfl ⟨_, _, _, _, _, hM19, _, rfl, rfl, rfl, rfl, ?g3, ?g4, hz5, _, _, _, List.Mem.tail _ (List.Mem.head _), (by first | rfl | simp), rfl, ?_⟩
                  case g3 => (simp only []; unfold maxLen; omega)
                  case g4 => (simp only []; omega)
                  intro sa20 sc20 w20x hM20
                  have hl0 := hM20.litcell (List.Mem.head _)
                  try simp only [alloc_size] at hl0
                  have hl1 := hM20.litcell (List.Mem.tail _ (List.Mem.head _))
                  try simp only [alloc_size] at hl1
                  have hl2 := hM20.litcell (List.Mem.tail _ (List.Mem.tail _ (List.Mem.head _)))
                  try simp only [alloc_size] at hl2
                  refine hK.out _ _ ⟨(HAB.out _ _ _ hM20).1, fun _ => (HAB.out _ _ _ hM20).2⟩ ?_
                  clear hK K
                  try simp only [Act.put, List.setIfInBounds_toArray, List.set_cons_zero, List.set_cons_succ]
                  refine takeA (i := 17) (v := ?_) rfl rfl (by kernel_rfl) (by kernel_rfl) (by kernel_rfl) (fun _ _ _ h => h) (Or.inl ⟨by rfl, ?_⟩) ⟨(HAB.out _ _ _ hM20).1, fun _ => (HAB.out _ _ _ hM20).2⟩ ?_
                  rotate_left
                  · (intro wz hz; (try dsimp only at hz); go_simp; (try with_reducible rfl))
                  try simp only [Act.put, List.setIfInBounds_toArray, List.set_cons_zero, List.set_cons_succ]
                  refine takeA (i := 18) (v := ?_) rfl rfl (by kernel_rfl) (by kernel_rfl) (by kernel_rfl) (fun _ _ _ h => h) (Or.inl ⟨by rfl, ?_⟩) ⟨(HAB.out _ _ _ hM20).1, fun _ => (HAB.out _ _ _ hM20).2⟩ ?_
                  rotate_left
                  · (intro wz hz; (try dsimp only at hz); go_simp; (try with_reducible rfl))
                  try simp only [Act.put, List.setIfInBounds_toArray, List.set_cons_zero, List.set_cons_succ]
                  refine doneG (by kernel_rfl) ?_ _
                  refine NoPanic.normal ?_
                  have hbt : ∀ q, F q → q ≠ G := fun q hq => by
                    rw [HFF.out] at hq
                    have h1 := hM20.own
                    rintro rfl
                    rcases hq with hq | hq
                    · exact HNE1.out hq
                    · exact HNE2.out hq
                  have hown7 := hM20.own 0 _ rfl
                  have howw7 := hM20.own 1 _ rfl
                  have hg7 : wA.grownBy w20x none := GrownBut.grown hM20.but (grown_far HGR.out HG5.out (fun q e => by have h7 : G = q := Option.some.inj e; omega)) (fun q hq => by
                    rw [HFF.out] at hq
                    rcases hq with hq | hq
                    · exact .inr (by have := HLT1.out q hq; omega)
                    · exact .inr (by have := HLT2.out q hq; omega))
                  have ha7 : Arr w20x G 4 (bls (metL n (m ++ [s]))) := by
                    obtain ⟨cur, rest, hq, hc⟩ := HA5.out
                    exact ⟨cur, rest, hM20.but.heap hq (fun hf => hbt G hf rfl), hc⟩
                  have hsh7 : ShortW (ws ++ [u ++ X]) := HSH.out.snoc (by rw [ByteArray.size_append]; have := HWL.out; omega)
                  simp only [] at hown7 howw7
                  rw [← nats_snoc] at hown7
                  rw [← strV_snoc] at howw7
                  have hml7 : (m ++ [s]).length = m.length + 1 := by simp
                  obtain ⟨ka, rfl, _, _, _⟩ := owns_some hown7 (by omega)
                  obtain ⟨kb, rfl, _, _, _⟩ := owns_some howw7 (by omega)
                  have HO7 := Lib.hid hown7; have HW7 := Lib.hid howw7; have HG7 := Lib.hid hg7; have HA7 := Lib.hid ha7; have HSH7 := Lib.hid hsh7; have HML := Lib.hid hml7
                  (try clear hM19)
                  clear hM20 hown7 howw7 hg7 ha7 hsh7 hbt hml7 hcv hcc
                  go_wp2
                  go_roundg (k - (a + 1))
                  case measure => have := HGA2.out; omega
                  case rel => exact ⟨a + 1, m ++ [s], ws ++ [u ++ X], ka, kb, _, _, by omega, by go_num, HM2.out, by rw [HML.out], by rw [HML.out], by rw [HML.out]; exact HO7.out, by rw [HML.out]; exact HW7.out, HA7.out, HSH7.out, HG7.out⟩
        · have hak : a = k := by have := HGA2.out; omega
          have HMK : Hid (m = accRow d l i' k) := Lib.hid (by rw [HM.out, hak])
          have HACC2 := Lib.hid (HACC.out.row HD.out hi)
          have HGO2 : Hid (accGo d k (n - (i' + 1)) (i' + 1) (accRow d l i' k) = accessD d k) := Lib.hid (by
            have h1 := HGO.out
            rw [show n - i' = (n - (i' + 1)) + 1 by omega, accGo, if_pos hi] at h1
            exact h1)
          have HO := Lib.hid hown; have HW := Lib.hid howw; have HA := Lib.hid harr; have HSH := Lib.hid hsh; have HGR := Lib.hid hgr
          clear hak hown howw harr hsh hgr hpre
          obtain ⟨d0, d1, d2, d3⟩ := dbox_cells (block_kept HBX.out HGR.out (by simp))
          go_wp2
          go_roundg (n - (i' + 1))
          case measure => have := HG.out; omega
          case rel => exact ⟨i' + 1, m, ws, sa, sb, sc, sd, by omega, by go_num, rfl, rfl, HO.out, HW.out, HA.out, by rw [HMK.out]; exact HACC2.out, by rw [HMK.out]; exact HGO2.out, by omega, HSH.out, HGR.out⟩
    · have HEND : Hid (accessD d k = l) := Lib.hid (by rw [← HGO.out, accGo_end hi])
      go_wp2
      refine bodyPost_ret (v := .tuple #[.slice (some ⟨sa, 0, none⟩) l.length sc, .slice (some ⟨sb, 0, none⟩) l.length sd]) (by simp [results, Tryd.results103, go_sem]) rfl ?_
      rw [HEND.out]
      exact ⟨_, _, _, rfl, ownsRow_base HO.out (by have := HPE.out; omega), grownBy_trans' HGA.out HGR.out⟩
end Go.Proofs.YtdjhoadoiknaoaaDoor
