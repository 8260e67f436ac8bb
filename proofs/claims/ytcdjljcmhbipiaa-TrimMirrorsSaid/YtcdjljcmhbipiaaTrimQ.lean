/- Plain: the laws of layer 14 on loads that fit, without the program. -/
import Derived.Test.YtcdjljcmhbipiaaMomA
namespace Go.Proofs.Ytcdjljcmhbipiaa

theorem sameSlot_comm (x y : Ld) : sameSlot x y = sameSlot y x := by
  unfold sameSlot; rw [Bool.eq_iff_iff]; simp; omega

theorem fit_sub {s : Shp} {xs ys : List Ld} (h : fitB s xs = true) (hs : ys.Sublist xs) : fitB s ys = true := by
  rw [fitB_iff] at h ⊢
  exact ⟨h.1, Nat.le_trans hs.length_le h.2.1, fun x hx => h.2.2.1 x (hs.subset hx), h.2.2.2.sublist hs⟩
theorem fit_perm {s : Shp} {xs ys : List Ld} (h : fitB s xs = true) (hp : xs.Perm ys) : fitB s ys = true := by
  rw [fitB_iff] at h ⊢
  refine ⟨h.1, by rw [← hp.length_eq]; exact h.2.1, fun x hx => h.2.2.1 x (hp.mem_iff.2 hx), ?_⟩
  exact (hp.pairwise_iff (fun {a b} (hab : sameSlot a b = false) => by rw [sameSlot_comm]; exact hab)).1 h.2.2.2

theorem sum_app (f : Ld → Int) (xs ys : List Ld) : ((xs ++ ys).map f).sum = (xs.map f).sum + (ys.map f).sum := by simp

theorem mom_fit {s : Shp} {xs : List Ld} (h : fitB s xs = true) : mLong s xs = longOf s xs ∧ mCross s xs = crossOf s xs ∧ mUp s xs = upOf xs ∧ mWeight s xs = weightOf xs := by simp [mLong, mCross, mUp, mWeight, h]
theorem mom_bd {s : Shp} {xs : List Ld} (h : fitB s xs = true) : -274877906944 ≤ mLong s xs ∧ mLong s xs ≤ 274877906944 ∧ -274877906944 ≤ mCross s xs ∧ mCross s xs ≤ 274877906944 ∧ -274877906944 ≤ mUp s xs ∧ mUp s xs ≤ 274877906944 ∧ -274877906944 ≤ mWeight s xs ∧ mWeight s xs ≤ 274877906944 := by
  obtain ⟨e1, e2, e3, e4⟩ := mom_fit h
  rw [fitB_iff] at h
  obtain ⟨b1, b2, b3, b4⟩ := small_of s xs h.1 h.2.2.1
  rw [e1, e2, e3, e4]
  have := h.2.1
  omega

theorem parts_law {s : Shp} {xs : List Ld} (k : Nat) (h : fitB s xs = true) :
    mLong s xs = mLong s (xs.take k) + mLong s (xs.drop k) ∧ mCross s xs = mCross s (xs.take k) + mCross s (xs.drop k) ∧ mUp s xs = mUp s (xs.take k) + mUp s (xs.drop k) ∧ mWeight s xs = mWeight s (xs.take k) + mWeight s (xs.drop k) ∧
    mLong s (xs.drop k ++ xs.take k) = mLong s xs ∧ mCross s (xs.drop k ++ xs.take k) = mCross s xs ∧ mUp s (xs.drop k ++ xs.take k) = mUp s xs ∧ mWeight s (xs.drop k ++ xs.take k) = mWeight s xs := by
  have h1 := fit_sub h (List.take_sublist k xs)
  have h2 := fit_sub h (List.drop_sublist k xs)
  have hp : xs.Perm (xs.drop k ++ xs.take k) := by
    have h' := List.perm_append_comm (l₁ := xs.take k) (l₂ := xs.drop k)
    rwa [List.take_append_drop] at h'
  have h3 := fit_perm h hp
  obtain ⟨a1, a2, a3, a4⟩ := mom_fit h
  obtain ⟨b1, b2, b3, b4⟩ := mom_fit h1
  obtain ⟨c1, c2, c3, c4⟩ := mom_fit h2
  obtain ⟨d1, d2, d3, d4⟩ := mom_fit h3
  have e : ∀ f : Ld → Int, (xs.map f).sum = ((xs.take k).map f).sum + ((xs.drop k).map f).sum := fun f => by
    rw [← sum_app, List.take_append_drop]
  rw [a1, a2, a3, a4, b1, b2, b3, b4, c1, c2, c3, c4, d1, d2, d3, d4]
  unfold longOf crossOf upOf weightOf
  refine ⟨e _, e _, e _, e _, ?_, ?_, ?_, ?_⟩
  all_goals rw [sum_app, e, Int.add_comm]
end Go.Proofs.Ytcdjljcmhbipiaa
