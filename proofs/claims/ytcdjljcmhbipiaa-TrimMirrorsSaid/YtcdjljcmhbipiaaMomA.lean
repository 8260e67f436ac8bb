/- Walks: the program's 'Moments'. -/
import Derived.Test.YtcdjljcmhbipiaaOfA
import Derived.Test.YtcdjljcmhbipiaaFitB
namespace Go.Proofs.Ytcdjljcmhbipiaa
open Go.RowKit

def mLong (s : Shp) (xs : List Ld) : Int := if fitB s xs then longOf s xs else 0
def mCross (s : Shp) (xs : List Ld) : Int := if fitB s xs then crossOf s xs else 0
def mUp (s : Shp) (xs : List Ld) : Int := if fitB s xs then upOf xs else 0
def mWeight (s : Shp) (xs : List Ld) : Int := if fitB s xs then weightOf xs else 0

theorem LoadsIn.after {w w' : World} {A : Option Addr} {xs : List Ld} (h : LoadsIn w w.heap.size A xs) (hb : Below w.heap.size w w') : LoadsIn w' w'.heap.size A xs := (h.below hb).more hb.size

set_option maxHeartbeats 2000000 in
theorem Moments_any (s : Shp) (A : Option Addr) (xs : List Ld) (c : Nat) (w : World) (hs : s.name.size ≤ maxLen) (hl : LoadsIn w w.heap.size A xs) :
    Calls Try.prog 9 #[s.val, .slice A xs.length c] w
      fun e w' => e = .returned (.tuple #[.int .i64 (mLong s xs), .int .i64 (mCross s xs), .int .i64 (mUp s xs), .int .i64 (mWeight s xs)]) ∧ Below w.heap.size w w' := by
  have h1 := fun c W hb => fit_any s A xs c W hs hb
  have h2 := fun (hf : fitB s xs = true) c W hb => of_any s A xs c W ((fitB_iff s xs).1 hf).1 ((fitB_iff s xs).1 hf).2.2.1 ((fitB_iff s xs).1 hf).2.1 hb
  have d1 : fitB s xs = true → mLong s xs = longOf s xs ∧ mCross s xs = crossOf s xs ∧ mUp s xs = upOf xs ∧ mWeight s xs = weightOf xs := fun h => by simp [mLong, mCross, mUp, mWeight, h]
  have d2 : fitB s xs = false → mLong s xs = 0 ∧ mCross s xs = 0 ∧ mUp s xs = 0 ∧ mWeight s xs = 0 := fun h => by simp [mLong, mCross, mUp, mWeight, h]
  generalize mLong s xs = ml at *
  generalize mCross s xs = mc at *
  generalize mUp s xs = mu at *
  generalize mWeight s xs = mw at *
  generalize longOf s xs = lo at *
  generalize crossOf s xs = cr at *
  generalize upOf xs = up at *
  generalize weightOf xs = we at *
  generalize fitB s xs = fb at *
  obtain ⟨nm, a1, a2, a3, a4, a5, a6, a7, a8⟩ := s
  have hv : Shp.val ⟨nm, a1, a2, a3, a4, a5, a6, a7, a8⟩ = .agg #[.string nm, .int .i64 a1, .int .i64 a2, .int .i64 a3, .int .i64 a4, .int .i64 a5, .int .i64 a6, .int .i64 a7, .int .i64 a8] := rfl
  rw [hv] at h1 h2 ⊢
  clear hv
  generalize xs.length = n at *
  have HL := hide hl; clear hl
  have H1 := hide h1; clear h1
  have H2 := hide h2; clear h2
  have D1 := hide d1; clear d1
  have D2 := hide d2; clear d2
  have b0 := (Below.refl w.heap.size w).alloc (Nat.le_refl _) (.cells #[.string nm, .int .i64 a1, .int .i64 a2, .int .i64 a3, .int .i64 a4, .int .i64 a5, .int .i64 a6, .int .i64 a7, .int .i64 a8] 23)
  have HB := hide b0; clear b0
  go_enter Try.func9, Try.ntmps9
  go_wp2_with fail
  refine (unhide H1 _ _ ((unhide HL).after (unhide HB))).mono ?_; rintro e w1 ⟨rfl, hb⟩
  have k1 := (Whole.made w _ _).after hb
  have b1 := (unhide HB).trans (hb.mono (unhide HB).size)
  have hc := k1.cells
  have B1 := hide b1; clear b1 hb k1
  cases fb
  · obtain ⟨e1, e2, e3, e4⟩ := (unhide D2) (by first | trivial | rfl)
    have E := Lib.hid (And.intro e1 (And.intro e2 (And.intro e3 e4))); clear e1 e2 e3 e4
    go_wp2_with fail
    refine bodyPost_ret (v := .tuple #[.int .i64 0, .int .i64 0, .int .i64 0, .int .i64 0]) (by simp [results, Try.results9, go_sem]) rfl ⟨?_, unhide B1⟩
    obtain ⟨e1, e2, e3, e4⟩ := E.out
    rw [e1, e2, e3, e4]
  · obtain ⟨e1, e2, e3, e4⟩ := (unhide D1) (by first | trivial | rfl)
    have E := Lib.hid (And.intro e1 (And.intro e2 (And.intro e3 e4))); clear e1 e2 e3 e4
    go_wp2_with fail
    refine (unhide H2 (by first | trivial | rfl) _ _ ((unhide HL).after (unhide B1))).mono ?_; rintro e w2 ⟨rfl, hb⟩
    have b2 := (unhide B1).trans (hb.mono (unhide B1).size)
    have B2 := hide b2; clear b2 hb
    go_wp2_with fail
    go_quiet (fail)
    go_wp2_with fail
    refine bodyPost_ret (v := .tuple #[.int .i64 lo, .int .i64 cr, .int .i64 up, .int .i64 we]) (by simp [results, Try.results9, go_sem]) rfl ⟨?_, ?_⟩
    · obtain ⟨e1, e2, e3, e4⟩ := E.out
      rw [e1, e2, e3, e4]
    · exact below_drewN ((unhide B2).alloc (unhide B2).size _) _
end Go.Proofs.Ytcdjljcmhbipiaa
