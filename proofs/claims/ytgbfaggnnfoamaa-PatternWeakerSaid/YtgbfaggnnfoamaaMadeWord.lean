/- Tape.Word. -/
import Derived.Test.YtgbfaggnnfoamaaMade
import Derived.Test.YtgbfaggnnfoamaaWord
namespace Go.Proofs.Ytgbfaggnnfoamaa
open Go.RowKit

theorem elem_u8 : ElemOk Try.prog 64 5 (.int .u8 0) 1 := ⟨Try.underlying64, by kernel_rfl, rfl⟩

/-- The bytes of a word over some letters. -/
def okNum (letters : Int) (n : Int) : Prop := 97 ≤ n ∧ n < 97 + letters
/-- What a call that deals a word does. -/
def Worded (B tb : Nat) (w : World) (letters most : Int) (e : Ending) (w' : World) : Prop :=
  ∃ l : List Int, e = .returned (.string (strOfNums l)) ∧ (l.length : Int) ≤ most ∧ (∀ n ∈ l, okNum letters n) ∧ TapeOk B w' tb ∧ w.grownBy w' (some tb)

set_option maxRecDepth 100000 in
set_option maxHeartbeats 400000 in
theorem word_any (B tb : Nat) (w : World) (letters most : Int) (h1 : 1 ≤ letters) (h6 : letters ≤ 6) (h0 : 0 ≤ most) (hm : most ≤ 1000) (hT : TapeOk B w tb) :
    Calls Try.prog 18 #[.pointer (some ⟨tb, 0, none⟩), .int .i64 letters, .int .i64 most] w (Worded B tb w letters most) := by
  have htb := hT.lt
  go_enter Try.func18, Try.ntmps18
  go_wp2_with fail
  refine (next_any B tb _ _ (by omega) hT).mono ?_
  rintro e w1 ⟨r, rfl, hr0, hr1, hT1, hg1⟩
  replace hr1 := hr1 (by omega)
  go_wp2
  go_loopw [7, 8] (fun v i wr => ∃ (sa : Option Addr) (sc : Nat) (l : List Int) (r : Int), v = .slice sa l.length sc ∧ i = .int .i64 r ∧ 0 ≤ r ∧ (l.length : Int) + r ≤ most ∧ wr.ownsRow w.heap.size 5 1 (.slice sa l.length sc) l.length (l.map (Value.int .u8)) ∧ (∀ n ∈ l, okNum letters n) ∧ TapeOk B wr tb ∧ w.grownBy wr (some tb))
    (fun _ i _ => (intOf i).toNat)
  case atStart => exact ⟨none, 0, [], r, rfl, rfl, hr0, by simp; omega, World.ownsRow_nil _ _ _ _, by simp, hT1, hg1⟩
  case round =>
    clear hT1 hg1
    obtain ⟨sa, sc, l, r, rfl, rfl, hr0, hlr, hown, hok, hTr, hgr⟩ := hrel
    have hsz := hgr.size
    by_cases hp : 0 < r
    · go_wp2_with fail
      refine (next_any B tb _ _ (by omega) hTr).mono ?_
      rintro e w2 ⟨x, rfl, hx0, hx1, hT2, hg2⟩
      replace hx1 := hx1 (by omega)
      have hown2 := ownsRow_kept hown hg2 (by simpa using htb)
      have hsz2 := hg2.size
      go_wp2_with (at_builtin; refine app1 rfl _ _ _ rfl elem_u8 w.heap.size _ l.length (l.map (Value.int .u8)) rfl hown2 _ rfl rfl ?c1 ?c2 ?c3 ?_)
      case c1 => unfold maxLen; omega
      case c2 => omega
      case c3 => omega
      intro sa' sc' w3 hown3 hg3 hlt3
      have hlen : (l ++ [97 + x]).length = l.length + 1 := by simp
      have hb := fun k (e : (Value.slice sa l.length sc).ownBlock = some k) => (hown2.lt k e).1
      go_wp2
      go_roundw
      case rel =>
        refine ⟨sa', sc', l ++ [97 + x], r - 1, by rw [hlen], by go_num, by omega, by omega, ?_, ?_, hT2.kept hg3 ?_, ?_⟩
        · rw [hlen, List.map_append]; exact hown3
        · intro n hn
          rcases List.mem_append.1 hn with hn | hn
          · exact hok n hn
          · simp at hn; subst hn; exact ⟨by omega, by omega⟩
        · intro k e; have := hb k e; have := hTr.ge; omega
        · exact grownBy_trans (grownBy_trans' hgr hg2) hg3 (.inr (.inl rfl)) (by
            rcases hv : (Value.slice sa l.length sc).ownBlock with _ | k
            · exact .inl rfl
            · exact .inr (.inr ⟨k, rfl, hb k hv⟩))
      case measure => simp [intOf]; omega
    · have hst := fun dst hd => run_bytes_own (P := Try.prog) 64 5 Try.underlying64 Try.underlying5 dst hd hown
      have hst' := hst 9 Try.underlying9
      clear hst
      go_wp2
      go_ret
      exact ⟨l, rfl, by omega, hok, hTr, hgr⟩

end Go.Proofs.Ytgbfaggnnfoamaa
