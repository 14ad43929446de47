/- Part 13 of the proof: Light. -/
import Derived.Test.YtdjhoadoiknaoaaDoorZw12
set_option linter.unusedVariables false
set_option linter.unusedSimpArgs false
namespace Go.Proofs.YtdjhoadoiknaoaaDoor
open Go.RowKit
def LightAll (t : List (List Int)) (gs : List Nat) : Prop := ∀ g ∈ gs, lightAt t g
open Classical in
noncomputable def lightB (t : List (List Int)) (gs : List Nat) : Bool := decide (LightAll t gs)
theorem lightB_true {t : List (List Int)} {gs : List Nat} (h : LightAll t gs) : lightB t gs = true := by simp [lightB, h]
theorem lightB_false {t : List (List Int)} {gs : List Nat} {k : Nat} (hk : k < gs.length) (h : ¬ lightAt t (gs.getD k 0)) : lightB t gs = false := by
  simp only [lightB, decide_eq_false_iff_not]
  intro ha
  refine h (ha _ ?_)
  simp only [List.getD, List.getElem?_eq_getElem hk]
  exact List.getElem_mem hk
def TriedOk (t : List (List Int)) (bs : List Bool) : Prop := ∀ x, bs.getD x false = true → lightAt t x
def GensOk (t : List (List Int)) (gs : List Nat) (k : Nat) : Prop := ∀ i, i < k → lightAt t (gs.getD i 0)
def LRows (t : List (List Int)) (g k : Nat) : Prop := ∀ x, x < k → ∀ y, y < t.length → assAt t x g y
def LCols (t : List (List Int)) (x g k : Nat) : Prop := ∀ y, y < k → assAt t x g y
theorem gens_all {t : List (List Int)} {gs : List Nat} (h : GensOk t gs gs.length) : LightAll t gs := by
  intro g hg
  obtain ⟨i, hi, rfl⟩ := List.getElem_of_mem hg
  have := h i hi
  simpa [List.getD, List.getElem?_eq_getElem hi] using this
set_option maxRecDepth 100000 in
set_option maxHeartbeats 1000000 in
theorem associates_any (B : Nat) (w : World) (v gv : Value) (t : List (List Int)) (gs : List Nat) (hB : B ≤ w.heap.size) (h : Mat B w v t) (hs : Shape t) (hg : Row B w gv (nats gs)) (hgl : ∀ g ∈ gs, g < t.length) :
    Calls Tryd.prog 93 #[v, gv] w fun e w' => e = .returned (.bool (lightB t gs)) ∧ w.grownBy w' none := by
  obtain ⟨b, off, cap, RB, RO, RC, rfl, hc1, hc2, hq⟩ := h.sq hs
  have hmx : cap ≤ 9223372036854775807 := by unfold maxLen at hc2; omega
  have hgm := hg.len_le
  rw [nats_length] at hgm
  unfold maxLen at hgm
  obtain ⟨ga, gc, rfl⟩ := hg.shape
  rw [nats_length]
  have hpos := hs.pos
  have hle := hs.le
  have HQ := Lib.hid hq; have HS := Lib.hid hs; have HGR := Lib.hid hg; have HGL := Lib.hid hgl
  clear hq hs h hg hgl
  go_enter Tryd.func93, Tryd.ntmps93
  go_wp2_with (at_make; refine make1 rfl _ _ _ rfl elem_bool rfl _ _ _ _ t.length rfl rfl rfl rfl ?b1 ?b2 ?_; (case b1 => omega); (case b2 => (unfold maxLen; omega)); intro w1 ha1 hg1 hz1)
  rw [← bls_replicate] at ha1
  have HA1 := Lib.hid ha1; clear ha1
  go_loopg [18] gs.length (fun g i wr => ∃ (k : Nat) (bs : List Bool), g + k = gs.length ∧ i = .int .i64 k ∧ bs.length = t.length ∧ Arr wr w.heap.size 4 (bls bs) ∧ w.grownBy wr none ∧ TriedOk t bs ∧ GensOk t gs k)
  case atStart =>
    refine ⟨0, _, rfl, rfl, by simp, HA1.out, hg1, fun x hx => ?_, fun i hi => absurd hi (by omega)⟩
    exfalso
    simp [List.getD, List.getElem?_replicate] at hx
    split at hx <;> simp at hx
  case round =>
    clear HA1 hg1 hz1
    obtain ⟨k, bs, hgk, rfl, hbl, harr, hgr, htr, hgo⟩ := hrel
    have HGK := Lib.hid hgk; have HBL := Lib.hid hbl; have HARR := Lib.hid harr; have HTR := Lib.hid htr; have HGO := Lib.hid hgo
    have hszr := harr.lt
    clear hgk hbl harr htr hgo
    by_cases hk : k < gs.length
    · have hk' : (k : Int) < gs.length := by omega
      obtain ⟨gb, go, gcap, e, _, _, _, hra⟩ := HGR.out.some_ (by rw [nats_length]; omega)
      simp only [Value.slice.injEq] at e
      obtain ⟨rfl, -, -⟩ := e
      have HGW := HGR.out.kept hgr (by simp)
      obtain ⟨gb', go', gcap', e, _, _, _, hra⟩ := HGW.some_ (by rw [nats_length]; omega)
      simp only [Value.slice.injEq, Option.some.injEq, Addr.mk.injEq, and_true] at e
      obtain ⟨⟨rfl, rfl⟩, -, -⟩ := e
      have hgc := hra.nat k hk
      have hxl := getD_lt HGL.out hk
      obtain ⟨x, hx⟩ : ∃ x, x = gs.getD k 0 := ⟨_, rfl⟩
      rw [← hx] at hgc hxl
      have hxl' : (x : Int) < t.length := by omega
      have hbx := HARR.out.bool x (by rw [HBL.out]; exact hxl)
      have hfx := HARR.out.frozen x
      have HX := Lib.hid hx
      clear hra hx HGW
      cases hbv : bs.getD x false
      · rw [hbv] at hbx
        have hset := HARR.out.bool_set x (by rw [HBL.out]; exact hxl) true
        have hgs1 := grownBy_setCell wr ⟨w.heap.size, x, none⟩ (.bool true)
        have HBV := Lib.hid hbv; clear hbv
        go_wp2
        generalize hW : wr.setCell ⟨w.heap.size, x, none⟩ (.bool true) = w2 at hset hgs1
        have hgw2 : w.grownBy w2 none := grown_far hgr hgs1 (by simp)
        have HQ2 := Lib.hid (HQ.out.kept hgw2 (by simp))
        have HSET := Lib.hid hset
        have HW := Lib.hid hW
        clear hset hgs1 hW hbx hfx hgc
        have hxc := HQ2.out.hd x hxl
        go_loopg [31] t.length (fun g i wr => ∃ k m : Nat, g + k = t.length ∧ i = .int .i64 k ∧ LRows t x k ∧ wr = w2.drewN m)
        case atStart => exact ⟨0, 0, rfl, rfl, fun x hx => absurd hx (by omega), rfl⟩
        case round =>
          obtain ⟨a, m, hga, rfl, hok, rfl⟩ := hrel
          have HGA := Lib.hid hga; have HOK := Lib.hid hok; clear hga hok
          by_cases ha : a < t.length
          · have ha' : (a : Int) < t.length := by omega
            have hac := HQ2.out.hd a ha
            have hax := HQ2.out.el a x ha hxl
            obtain ⟨p, hp⟩ : ∃ p, p = entN t a x := ⟨_, rfl⟩
            have hpl : p < t.length := by rw [hp]; exact entN_lt HS.out ha hxl
            have hpl' : (p : Int) < t.length := by omega
            rw [← hp] at hax
            have hpc := HQ2.out.hd p hpl
            have HP := Lib.hid hp; clear hp
            go_wp2
            go_loopg [47] t.length (fun g i wr => ∃ k m : Nat, g + k = t.length ∧ i = .int .i64 k ∧ LCols t a x k ∧ wr = w2.drewN m)
            case atStart => exact ⟨0, m, rfl, rfl, fun x hx => absurd hx (by omega), rfl⟩
            case round =>
              obtain ⟨y, m, hgy, rfl, hok, rfl⟩ := hrel
              have HGY := Lib.hid hgy; have HOY := Lib.hid hok; clear hgy hok
              by_cases hy : y < t.length
              · have hy' : (y : Int) < t.length := by omega
                have hxy := HQ2.out.el x y hxl hy
                have hpy := HQ2.out.el p y hpl hy
                obtain ⟨q, hq⟩ : ∃ q, q = entN t x y := ⟨_, rfl⟩
                have hql : q < t.length := by rw [hq]; exact entN_lt HS.out hxl hy
                have hql' : (q : Int) < t.length := by omega
                rw [← hq] at hxy
                have haq := HQ2.out.el a q ha hql
                obtain ⟨r, hr⟩ : ∃ r, r = entN t p y := ⟨_, rfl⟩
                obtain ⟨s, hs⟩ : ∃ s, s = entN t a q := ⟨_, rfl⟩
                rw [← hr] at hpy
                rw [← hs] at haq
                have hass : assAt t a x y ↔ r = s := by rw [assAt, ← HP.out, ← hq, ← hr, ← hs]
                have HA := Lib.hid hass
                clear hq hr hs hass
                by_cases hrs : r = s
                · subst hrs
                  have ht : ((r : Int) != (r : Int)) = false := by simp
                  go_wp2
                  go_quiet (fail)
                  go_wp2
                  go_roundg (t.length - (y + 1))
                  case measure => have := HGY.out; omega
                  case rel =>
                    refine ⟨y + 1, _, by omega, by go_num, fun z' hz' => ?_, rfl⟩
                    rcases Nat.lt_succ_iff_lt_or_eq.1 hz' with hz' | rfl
                    · exact HOY.out z' hz'
                    · exact HA.out.2 (by simp)
                · have ht : ((r : Int) != (s : Int)) = true := by rw [bne_iff_ne]; omega
                  have HRS := Lib.hid hrs; clear hrs
                  go_wp2
                  go_quiet (fail)
                  go_wp2
                  go_ret
                  refine ⟨ret_bool (lightB_false hk (fun hl => HRS.out (HA.out.1 ?_))).symm, grownBy_same hgw2 rfl rfl rfl rfl⟩
                  rw [← HX.out] at hl
                  exact hl a y ha hy
              · go_wp2
                go_roundg (t.length - (a + 1))
                case measure => have := HGA.out; omega
                case rel =>
                  refine ⟨a + 1, m, by omega, by go_num, fun y' hy' => ?_, rfl⟩
                  rcases Nat.lt_succ_iff_lt_or_eq.1 hy' with hy' | rfl
                  · exact HOK.out y' hy'
                  · exact fun z' hz' => HOY.out z' (by omega)
          · have hlight : Hid (lightAt t x) := Lib.hid (fun a' y' ha' hy' => HOK.out a' (by omega) y' hy')
            go_wp2
            go_roundg (gs.length - (k + 1))
            case measure => have := HGK.out; omega
            case rel =>
              refine ⟨k + 1, bs.set x true, by omega, by go_num, by rw [List.length_set]; exact HBL.out, HSET.out.of_heap rfl, grownBy_same hgw2 rfl rfl rfl rfl, fun y hy => ?_, fun i hi => ?_⟩
              · by_cases e : x = y
                · subst e; exact hlight.out
                · rw [getD_set_ne _ _ _ _ _ e] at hy
                  exact HTR.out y hy
              · rcases Nat.lt_succ_iff_lt_or_eq.1 hi with hi | rfl
                · exact HGO.out i hi
                · rw [← HX.out]; exact hlight.out
      · rw [hbv] at hbx
        have HBV := Lib.hid hbv; clear hbv
        go_wp2
        go_roundg (gs.length - (k + 1))
        case measure => have := HGK.out; omega
        case rel =>
          refine ⟨k + 1, bs, by omega, by go_num, HBL.out, HARR.out, hgr, HTR.out, fun i hi => ?_⟩
          rcases Nat.lt_succ_iff_lt_or_eq.1 hi with hi | rfl
          · exact HGO.out i hi
          · rw [← HX.out]; exact HTR.out x HBV.out
    · go_wp2
      go_ret
      refine ⟨ret_bool (lightB_true (gens_all ?_)).symm, hgr⟩
      have : k = gs.length := by have := HGK.out; omega
      rw [← this]; exact HGO.out
end Go.Proofs.YtdjhoadoiknaoaaDoor
