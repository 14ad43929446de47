/- Part 10 of the proof: Classes. -/
import Derived.Test.YtgbfaggnnfoamaaZi9
set_option linter.unusedVariables false
set_option linter.unusedSimpArgs false
namespace Go.Proofs.Ytgbfaggnnfoamaa
open Go.RowKit
def finN (d : DfaV) : List Nat := d.final.map fun b => if b then 1 else 0
theorem finN_ints (d : DfaV) : nats (finN d) = ints (d.final.map finB) := by
 rw [tF]
 congr 1
 simp only [finN, List.map_map]
 congr 1
 funext b
 cases b <;> rfl
theorem mS (d : DfaV) : (finN d).length = d.final.length := by simp [finN]
theorem finN_get {d : DfaV} {q : Nat} (hq : q < d.final.length) : (finN d).getD q 0 = if d.final.getD q false then 1 else 0 := by
 rw [finN, vD (x := false) hq]
theorem finB_mid (d : DfaV) : ∀ x ∈ d.final.map finB, Mid x := by
 intro x hx
 obtain ⟨b, _, rfl⟩ := List.mem_map.1 hx
 cases b <;> constructor <;> simp [finB]
theorem fillTo_skip {l : List Nat} {k : Nat} (h : k < l.length) (h0 : l.getD k 0 = 0) : wK l (k + 1) = wK l k := by
 unfold wK
 rw [zY (d := 0) h, h0, show l.length - k = (l.length - (k + 1)) + 1 by omega, List.replicate_succ, List.append_assoc]
 rfl
def RowMade (w : World) (l : List Nat) (e : Ending) (w' : World) : Prop :=
 ∃ g, e = .returned (.slice (some ⟨g, 0, none⟩) l.length l.length) ∧ w.heap.size ≤ g ∧ wE w' g 0 (nats l) ∧ w.grownBy w' none
theorem refTo_lt {d : DfaV} {p : List Nat} (hp : Norm p) (m : Nat) : ∀ c ∈ wO d p m, c < p.length := by
 have := rD (rT (d := d) hp m)
 rwa [yN] at this
set_option maxRecDepth 100000 in
set_option maxHeartbeats 1000000 in
theorem classes_any (B : Nat) (w : World) (v : Value) (d : DfaV) (n k : Nat) (hB : B ≤ w.heap.size) (h : vR B w v d) (hd : VD d n k) :
  Calls Try.prog 69 #[v] w (RowMade w (yK d k)) := by
 obtain ⟨fb, fo, fc, b, off, cap, RB, RO, RC, rfl, hat⟩ := h.at hd
 have hn := hd.hn
 have hn1 := hd.n1
 have hnbig := hd.nbig
 have hk6 := hd.k6
 have hk1 := hd.k1
 have hfc := hat.fcap.1
 have hfc2 := hat.fcap.2
 have hcp := hat.cap.1
 have hcp2 := hat.cap.2
 have hmx1 : fc ≤ 9223372036854775807 := by unfold maxLen at hfc2; omega
 have hmx2 : cap ≤ 9223372036854775807 := by unfold maxLen at hcp2; omega
 obtain ⟨wA, hWA⟩ : ∃ wA, wA = w.alloc (.cells #[.int .i64 (k : Int), .int .i64 (st0 d : Int), .slice (some ⟨fb, fo, none⟩) n fc, .slice (some ⟨b, off, none⟩) n cap] 49) := ⟨_, rfl⟩
 have hbox : wA.heap[w.heap.size]? = some (.cells #[.int .i64 (k : Int), .int .i64 (st0 d : Int), .slice (some ⟨fb, fo, none⟩) n fc, .slice (some ⟨b, off, none⟩) n cap] 49 (0, 0)) := by rw [hWA]; exact heap_alloc_new w _
 have hgA : w.grownBy wA none := by rw [hWA]; exact World.grownBy_alloc w _ none
 have hzA : wA.heap.size = w.heap.size + 1 := by rw [hWA, zL]
 obtain ⟨c0, c1, c2, c3⟩ := zG hbox
 obtain ⟨P, hP⟩ : ∃ P, P = w.heap.size := ⟨_, rfl⟩
 have HPE := Kh hP
 rw [← hP] at hbox c0 c1 c2 c3 hzA hB
 have HBX := Kh hbox; have HGA := Kh hgA; have HWA := Kh hWA; have HAT := Kh (hat.kept hgA (by simp)); have HN := Kh hn; have HD := Kh hd
 unfold dAgg
 clear hbox hgA hWA hat hn hd h hfc2 hcp2
 go_enter Try.func69, Try.ntmps69
 go_upto_region 1 with fail
 rw [← HWA.out, ← HPE.out]
 clear hP
 go_wp2_with (first | (at_make; refine pV rfl _ _ _ rfl xI rfl .i64 .i64 _ _ n rfl rfl rfl rfl ?b1 ?b2 ?_) | fail)
 case b1 => omega
 case b2 => unfold maxLen; omega
 intro w2 harr hg2 hlt2
 have HA2 := Kh harr; have HG2 := Kh hg2
 clear harr hg2
 obtain ⟨g, hg⟩ : ∃ g, g = P + 1 := ⟨_, rfl⟩
 have HGE := Kh hg
 rw [← hg] at HA2 ⊢
 have hgP : P < g := by omega
 clear hg
 go_wp2
 go_loopg [4, 15] n (fun gh a6 i wr => ∃ q : Nat, gh + q = n ∧ i = .int .i64 q ∧ Arr wr g 3 (nats (wK (finN d) q)) ∧ wA.grownBy wr none)
 case atStart => exact ⟨0, rfl, rfl, by rw [sH, mS, HN.out, xJ]; exact HA2.out, HG2.out⟩
 case round =>
  clear HA2 HG2
  obtain ⟨q, hg, rfl, harr, hgr⟩ := hrel
  have HG := Kh hg; have HA := Kh harr; have HGR := Kh hgr
  have hfl : (finN d).length = n := by rw [mS, HN.out]
  have hzr := hgr.size
  obtain ⟨d0, d1, d2, d3⟩ := zG (zA HBX.out hgr (by simp))
  clear hg c0 c1 c2 c3
  by_cases hq : q < n
  ·have hq' : (q : Int) < n := by omega
   have cf := (HAT.out.kept hgr (by simp)).fin hq
   have cgk := harr.nat q (by rw [yX (by omega)]; omega)
   have fgk := harr.frozen q
   have hfq := finN_get (d := d) (q := q) (by rw [HN.out]; exact hq)
   have HFQ := Kh hfq
   clear hfq harr hgr
   cases hb : d.final.getD q false with
   | false =>
    rw [hb] at cf HFQ
    go_wp2
    go_roundg (n - (q + 1))
    case measure => have := HG.out; omega
    case rel => exact ⟨q + 1, by omega, by go_num, by rw [fillTo_skip (by omega) HFQ.out]; exact HA.out, HGR.out⟩
   | true =>
    rw [hb] at cf HFQ
    have HS : Hid ((wK (finN d) q).set q 1 = wK (finN d) (q + 1)) := Kh (by have := qB (l := finN d) (k := q) (by omega); rw [HFQ.out] at this; exact this)
    go_wp2
    go_roundg (n - (q + 1))
    case measure => have := HG.out; omega
    case rel =>
     refine ⟨q + 1, by omega, by go_num, ?_, zB HGR.out (zC wr ⟨g, q, none⟩ _) (fun q e => by have h7 : g = q := Option.some.inj e; omega)⟩
     rw [← HS.out]
     exact HA.out.nat_set q (by rw [yX (by omega)]; omega) 1
  ·have hqn : q = n := by have := HG.out; omega
   have HE : Hid (wK (finN d) q = finN d) := Kh (by rw [hqn, ← hfl]; exact qC _)
   rw [HE.out] at HA
   have hql : Hid (q = n) := Kh hqn
   have HNUM := Kh (lX (g + 1) wr (.slice (some ⟨g, 0, none⟩) n n) (d.final.map finB) HA.out.lt (by
    rw [← finN_ints]
    exact pK HA.out.row hfl (by omega)) (finB_mid d) (by rw [List.length_map, HN.out]; omega))
   clear hqn harr hgr d0 d1 d2 d3
   go_wp2_with fail
   refine HNUM.out.mono ?_
   rintro e w3 ⟨g3, rfl, hg3, ha3, hgr3⟩
   have hp0 : numb (d.final.map finB) = pQ d := rfl
   rw [hp0] at ha3 ⊢
   have hpl : (pQ d).length = n := by rw [rC, HN.out]
   rw [hpl]
   have HR3 := Kh ha3.row; have HG3 := Kh (zE HGR.out hgr3)
   have hg3w : P < g3 := by omega
   clear ha3 hgr3 HNUM hp0 hpl hg3
   go_wp2
   go_loopg [3] n (fun gh v3 wr => ∃ (m g : Nat), gh + m = n ∧ m < cls (yG d k m) ∧ v3 = .slice (some ⟨g, 0, none⟩) n n ∧ P < g ∧ wE wr g 0 (nats (yG d k m)) ∧ wA.grownBy wr none)
   case atStart => exact ⟨0, g3, rfl, kX (by rw [yI, HN.out]; omega), rfl, hg3w, HR3.out, HG3.out⟩
   case round =>
    clear HR3 HG3 hg3w HA HGR HG
    obtain ⟨m, g, hg, hmc, rfl, hgP, hra, hgr⟩ := hrel
    have HG := Kh hg; have HMC := Kh hmc
    have hpl := yI d k m
    rw [HN.out] at hpl
    have hpn := wT d k m
    obtain ⟨p, hp⟩ : ∃ p, p = yG d k m := ⟨_, rfl⟩
    have HP := Kh hp
    rw [← hp] at hpl hpn hra
    have hplt := rD hpn
    rw [hpl] at hplt
    obtain ⟨wo, rfl⟩ : ∃ wo : World, wo = wr := ⟨_, rfl⟩
    have HRA := Kh hra; have HGR := Kh hgr; have HPN := Kh hpn; have HPL := Kh hpl; have HPLT := Kh hplt
    have hglt := hra.1
    clear hg hmc hp hra hgr hpn hpl hplt
    go_wp2
    go_loopg [5, 6] k (fun gh v5 i wr => ∃ (a g5 : Nat), gh + a = k ∧ i = .int .i64 a ∧ v5 = .slice (some ⟨g5, 0, none⟩) n n ∧ P < g5 ∧ wE wr g5 0 (nats (wO d p a)) ∧ wo.grownBy wr none)
    case atStart => exact ⟨0, g, rfl, rfl, rfl, hgP, HRA.out, zO _ _⟩
    case round =>
     obtain ⟨a, g5, hg, rfl, rfl, hg5P, hra5, hgr5⟩ := hrel
     have HGA5 := Kh hg
     obtain ⟨wq, rfl⟩ : ∃ wq : World, wq = wr := ⟨_, rfl⟩
     have HRA5 := Kh hra5; have HGR5 := Kh hgr5
     have hglt5 := hra5.1
     have hz5 := hgr5.size
     obtain ⟨d0, d1, d2, d3⟩ := zG (zA HBX.out (zE HGR.out hgr5) (by simp))
     clear hg hra5 hgr5
     by_cases ha : a < k
     ·have ha' : (a : Int) < k := by omega
      go_wp2
      go_loopg [7, 38] n (fun gh ov i wr => ∃ (q : Nat) (sa : Option Addr) (sc : Nat), gh + q = n ∧ i = .int .i64 q ∧ ov = .slice sa q sc ∧ wr.ownsRow wq.heap.size 3 1 (.slice sa q sc) q (nats ((rL d p a).take q)) ∧ wq.grownBy wr none)
      case atStart => exact ⟨0, none, 0, rfl, rfl, rfl, by simpa [nats] using World.ownsRow_nil _ _ _ _, zO _ _⟩
      case round =>
       obtain ⟨q, sa, sc, hg, rfl, rfl, hown, hgr⟩ := hrel
       have HGQ := Kh hg; have HOWN := Kh hown; have HGRQ := Kh hgr
       clear hg hown d0 d1 d2 d3
       by_cases hq : q < n
       ·have hq' : (q : Int) < n := by omega
        have hall := zE (zE HGR.out HGR5.out) hgr
        obtain ⟨d0, d1, d2, d3⟩ := zG (zA HBX.out hall (by simp))
        have hA := HAT.out.kept hall (by simp)
        have ch := hA.hd q hq
        have ce := hA.el q a hq ha
        have hrc := hA.rcap q hq
        have hnx := qI HD.out hq ha
        have cp := (HRA.out.kept (zE HGR5.out hgr) (by simp)).nat (nx d q a) (by rw [HPL.out]; exact hnx)
        rw [Nat.zero_add] at cp
        have HCT : Hid ((rL d p a).take (q + 1) = (rL d p a).take q ++ [p.getD (nx d q a) 0]) := Kh (colTo_take (by rw [HPL.out]; exact hq))
        obtain ⟨s, hs⟩ : ∃ s, s = nx d q a := ⟨_, rfl⟩
        rw [← hs] at ce hnx cp HCT
        obtain ⟨c, hc⟩ : ∃ c, c = p.getD s 0 := ⟨_, rfl⟩
        rw [← hc] at cp HCT
        have hgs := hgr.size
        have hrc1 := hrc.1
        have hnx' : (s : Int) < n := by omega
        clear hall hA hs hc hgr hrc
        go_wp2_with (first | (at_builtin; refine app1 rfl _ _ _ rfl xI wq.heap.size _ q (nats ((rL d p a).take q)) rfl HOWN.out _ rfl rfl ?c1 ?c2 ?c3 ?_) | fail)
        case c1 => unfold maxLen; omega
        case c2 => omega
        case c3 => exact hgs
        intro sa' sc' w6 hown6 hg6 hlt6
        have HO6 := Kh hown6; have HG6 := Kh hg6
        clear hown6 hg6
        go_wp2
        go_roundg (n - (q + 1))
        case measure => have := HGQ.out; omega
        case rel =>
         refine ⟨q + 1, sa', sc', by omega, by go_num, rfl, ?_, zB HGRQ.out HG6.out (fun q e => (HOWN.out.lt q e).1)⟩
         rw [HCT.out, rE]
         exact HO6.out
       ·have hqn : q = n := by have := HGQ.out; omega
        have hcl : (rL d p a).length = n := by rw [uE, HPL.out]
        have HTK : Hid ((rL d p a).take q = rL d p a) := Kh (by rw [hqn, ← hcl]; exact List.take_length)
        have HQN := Kh hqn
        rw [HTK.out] at HOWN
        obtain ⟨kb, rfl, hk1', hk2', harr⟩ := tV HOWN.out (by omega)
        have hkb := (HOWN.out.lt kb rfl).1
        have hrl := yN d p a
        have HBO := Kh (both_any (g5 + 1) wr.heap.size wr (.slice (some ⟨g5, 0, none⟩) n n) (.slice (some ⟨kb, 0, none⟩) q sc) (wO d p a) (rL d p a) (by have := hgr.size; omega) (Nat.le_refl _)
         (pK (HRA5.out.kept hgr (by simp)) (by rw [hrl, HPL.out]) (by omega)) (Row.of_owns HOWN.out) (by rw [hcl, hrl, HPL.out]) (by rw [hrl, HPL.out]; omega)
         (fun c hc => by have := refTo_lt HPN.out a c hc; rw [HPL.out] at this; omega) (fun c hc => by have := colTo_lt HPLT.out (by omega) c hc; omega) (by rw [hrl, HPL.out]; omega))
        clear hqn harr
        go_wp2_with fail
        refine HBO.out.mono ?_
        rintro e w7 ⟨g7, rfl, hg7, ha7, hgr7⟩
        have hb8 : kY (wO d p a) (rL d p a) = wO d p (a + 1) := rfl
        rw [hb8] at ha7 ⊢
        have hl7 : (wO d p (a + 1)).length = n := by rw [yN, HPL.out]
        rw [hl7]
        have HR7 := Kh ha7.row; have HG7 := Kh (zE (zE HGR5.out HGRQ.out) hgr7)
        have hzq := HGRQ.out.size
        clear ha7 hgr7 HBO hb8 hl7
        go_wp2
        go_roundg (k - (a + 1))
        case measure => have := HGA5.out; omega
        case rel => exact ⟨a + 1, g7, by omega, by go_num, rfl, by omega, HR7.out, HG7.out⟩
     ·have hak : a = k := by have := HGA5.out; omega
      have HAK : Hid (wO d p a = wO d p k) := Kh (by rw [hak])
      rw [HAK.out] at HRA5
      have hkl : (wO d p k).length = n := by rw [yN, HPL.out]
      have HSA := same03_any (g5 + 1) (g + 1) wq (.slice (some ⟨g5, 0, none⟩) n n) (.slice (some ⟨g, 0, none⟩) n n) ((wO d p k).map fun (x : Nat) => (x : Int)) (p.map fun (x : Nat) => (x : Int))
       (by rw [← tF]; exact pK HRA5.out hkl (by omega)) (by rw [← tF]; exact pK (HRA.out.kept HGR5.out (by simp)) HPL.out (by omega))
      rw [cast_dec] at HSA
      have HSA := Kh HSA
      clear hak
      by_cases he : wO d p k = p
      ·rw [decide_eq_true he] at HSA
       have HCL : Hid (yK d k = p) := Kh (by
        have h1 := HG.out
        rw [HP.out]
        rw [HP.out] at he
        exact tQ (by rw [HN.out]; omega) he)
       clear he
       go_wp2_with fail
       refine HSA.out.mono ?_
       rintro e w8 ⟨rfl, m8, rfl⟩
       go_wp2
       go_ret
       rw [RowMade, HCL.out]
       refine ⟨g, by rw [HPL.out]; rfl, by have := HPE.out; omega, (HRA.out.kept HGR5.out (by simp)).kept (zJ _ _ none) (by simp), ?_⟩
       exact zE (zE HGA.out (zE HGR.out HGR5.out)) (zJ _ _ _)
      ·rw [decide_eq_false he] at HSA
       have HMC2 : Hid (m + 1 < cls (yG d k (m + 1))) := Kh (by
        have h1 := sC HD.out HPL.out HPN.out he
        have h2 := HMC.out
        rw [← HP.out] at h2
        show m + 1 < cls (wO d (yG d k m) k)
        rw [← HP.out]
        omega)
       have HIT : Hid (yG d k (m + 1) = wO d p k) := Kh (by rw [HP.out]; rfl)
       have hmn : m + 1 < n := by
        have h1 := HMC2.out
        have h2 := nI (yG d k (m + 1))
        rw [yI, HN.out] at h2
        omega
       clear he
       go_wp2_with fail
       refine HSA.out.mono ?_
       rintro e w8 ⟨rfl, m8, rfl⟩
       go_wp2
       go_roundg (n - (m + 1))
       case measure => have := HG.out; omega
       case rel => exact ⟨m + 1, g5, by omega, HMC2.out, rfl, hg5P, by rw [HIT.out]; exact HRA5.out.kept (zJ _ _ none) (by simp), zE (zE HGR.out HGR5.out) (zJ _ _ _)⟩
end Go.Proofs.Ytgbfaggnnfoamaa
