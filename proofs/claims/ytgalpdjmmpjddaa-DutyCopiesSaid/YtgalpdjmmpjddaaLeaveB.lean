/- Walks: Release, Transit, Export, State. -/
import Derived.Test.YtgalpdjmmpjddaaLeaveA
namespace Go.Proofs.Ytgalpdjmmpjddaa
set_option linter.unusedVariables false
set_option linter.unusedSimpArgs false
open Go.RowKit Go.Maps

theorem src_made (w : World) (n : Nat) (hn : n = w.heap.size) (t : TypeId) (vs : List Value) (m : Nat) (hm : m = vs.length) : Src (w.alloc (.cells vs.toArray t)) 1 (some ⟨n, 0, none⟩) m vs :=
  ⟨by omega, fun _ => ⟨_, rfl, fun j u hj => by
    have h := (Whole.made_at w t vs.toArray n hn).cells j
    have e : (⟨n, 0, none⟩ : Addr).add j = ⟨n, j, none⟩ := by
      unfold Addr.add; split
      · rename_i h0; subst h0; rfl
      · simp
    rw [e, h]; simpa using hj⟩⟩
theorem field_duty (a1 a2 a3 : Int) (W : World) : (Instr.field 93 (.agg #[.int .i64 a1, .int .i64 a2, .int .i64 a3]) 0).run Try.prog W = .ok (.int .i64 a1) W := by kernel_rfl
theorem field_day (a1 a2 a3 : Int) (W : World) : (Instr.field 93 (.agg #[.int .i64 a1, .int .i64 a2, .int .i64 a3]) 1).run Try.prog W = .ok (.int .i64 a2) W := by kernel_rfl
theorem leave_rel (bs : List Bx) (s : ByteArray) (v : Value) (paid : Int) : leaveE bs s [(v, decide (paid < dutyAt bs s), 10)] = relE bs s paid := by
  rw [leaveE_op]; unfold relE
  congr 1
  by_cases h : paid < dutyAt bs s <;> simp [firstE, h]
theorem leave_tra (bs : List Bx) (s t : ByteArray) (v1 v2 : Value) (day : Int) : leaveE bs s [(v1, !okName t, 1), (v2, decide (dayAt bs s < day), 11)] = traE bs s t day := by
  rw [leaveE_op]; unfold traE
  congr 1
  cases okName t <;> by_cases h : dayAt bs s < day <;> simp [firstE, h]
theorem leave_exp (bs : List Bx) (s : ByteArray) : leaveE bs s [] = opE bs s := by
  rw [leaveE_op]; unfold thenE
  split
  · rename_i h; rw [h]; rfl
  · rfl
/-- what a call that turns a bond tells, and leaves -/
def TurnQ (w : World) (p m n : Nat) (lim : Int) (bs : List Bx) (er : Int) (e : Ending) (w' : World) : Prop := e = .returned (.int .i64 er) ∧ BondAt w' p lim m (n + 1) bs ∧ w.grownBy w' (some m)

set_option maxHeartbeats 4000000 in
set_option maxRecDepth 100000 in
theorem Export_any (p m n : Nat) (lim : Int) (s : ByteArray) (bs : List Bx) (w : World) (hs : s.size ≤ maxLen) (hB : BondAt w p lim m n bs) (hn : n ≤ 4000) (hpm : p ≠ m) :
    Calls Try.prog 22 #[.pointer (some ⟨p, 0, none⟩), .string s] w (TurnQ w p m n lim (left bs s 2 (opE bs s)) (opE bs s)) := by
  have h := leave_any p m n lim 2 s bs none 0 0 [] w hs hB hn hpm rfl (by omega) ⟨rfl, fun h => absurd h (by omega)⟩ (fun a h => by cases h) (fun t ht => by cases ht)
  rw [leave_exp] at h
  have H := hide h
  clear h hB
  go_enter Try.func22, Try.ntmps22
  go_wp2_with fail
  (with_reducible refine (unhide H).mono ?_); rintro e w1 ⟨rfl, h1, h2⟩
  have HF := hide (And.intro h1 h2)
  clear h1 h2
  go_wp2_with fail
  go_ret
  exact ⟨rfl, (unhide HF).1, (unhide HF).2⟩

set_option maxHeartbeats 4000000 in
set_option maxRecDepth 100000 in
theorem Release_any (p m n : Nat) (lim paid : Int) (s : ByteArray) (bs : List Bx) (w : World) (hs : s.size ≤ maxLen) (hB : BondAt w p lim m n bs) (hn : n ≤ 4000) (hpm : p ≠ m) :
    Calls Try.prog 17 #[.pointer (some ⟨p, 0, none⟩), .string s, .int .i64 paid] w (TurnQ w p m n lim (left bs s 1 (relE bs s paid)) (relE bs s paid)) := by
  have hlook := look_at' hB.2 s hs
  have cB := hB.1.cells
  have hl : ∀ v, leaveE bs s [(v, decide (paid < dutyAt bs s), 10)] = relE bs s paid := fun v => leave_rel bs s v paid
  obtain ⟨er, her⟩ : ∃ e, e = relE bs s paid := ⟨_, rfl⟩
  rw [← her] at hl ⊢
  have HL := hide hl; have HB := hide hB
  clear hl hB her
  generalize dutyAt bs s = a1 at *
  generalize dayAt bs s = a2 at *
  generalize stateAt bs s = a3 at *
  have hfd := field_duty a1 a2 a3
  go_enter Try.func17, Try.ntmps17
  go_wp2_with fail
  (with_reducible refine (whenF_any _ 10 _).mono ?_); rintro en w3 ⟨fn1, cp1, rfl, k1, hb⟩
  have hb2 := hb.alloc hb.size (.cells #[.func (.func fn1) #[] cp1] 90)
  have hlv := leave_any p m n lim 1 s bs (some ⟨w3.heap.size, 0, none⟩) 1 1 [(.func (.func fn1) #[] cp1, decide (paid < a1), 10)] (w3.alloc (.cells #[.func (.func fn1) #[] cp1] 90)) hs ((unhide HB).after hb2) hn hpm rfl (by omega)
    (src_made w3 _ rfl _ [.func (.func fn1) #[] cp1] 1 rfl) (fun a h => by cases h; simp) (conds_cons (k1.after ((Below.refl _ _).alloc (Nat.le_refl _) _)) (fun t ht => by cases ht))
  rw [unhide HL] at hlv
  have H := hide hlv; have HB2 := hide hb2
  clear hlv hb k1 hb2 cB hlook
  go_wp2_with fail
  (with_reducible refine (unhide H).mono ?_); rintro e w1 ⟨rfl, h1, h2⟩
  have HF := hide (And.intro h1 h2)
  clear h1 h2
  go_wp2_with fail
  go_ret
  exact ⟨rfl, (unhide HF).1, (grown_of_below (row := some m) (unhide HB2)).andThen (unhide HF).2 (fun j hj => Or.inr hj)⟩

set_option maxHeartbeats 4000000 in
set_option maxRecDepth 100000 in
theorem Transit_any (p m n : Nat) (lim day : Int) (s t : ByteArray) (bs : List Bx) (w : World) (hs : s.size ≤ maxLen) (ht : t.size ≤ maxLen) (hB : BondAt w p lim m n bs) (hn : n ≤ 4000) (hpm : p ≠ m) :
    Calls Try.prog 40 #[.pointer (some ⟨p, 0, none⟩), .string s, .string t, .int .i64 day] w (TurnQ w p m n lim (left bs s 2 (traE bs s t day)) (traE bs s t day)) := by
  have hsf : ∀ W, Below w.heap.size w W → W.cell? ⟨p, 1, none⟩ = some (.map (some m)) ∧ (Instr.lookup 94 (.map (some m)) (.string s) false).run Try.prog W = .ok (.agg #[.int .i64 (dutyAt bs s), .int .i64 (dayAt bs s), .int .i64 (stateAt bs s)]) W :=
    fun W hW => ⟨(hB.after hW).1.cells 1, look_at' (hB.after hW).2 s hs⟩
  have hl : ∀ v1 v2, leaveE bs s [(v1, !okName t, 1), (v2, decide (dayAt bs s < day), 11)] = traE bs s t day := fun v1 v2 => leave_tra bs s t v1 v2 day
  have HNM := hide (fun W => name_any t W ht)
  obtain ⟨er, her⟩ : ∃ e, e = traE bs s t day := ⟨_, rfl⟩
  rw [← her] at hl ⊢
  generalize okName t = o1 at *
  have HL := hide hl; have HB := hide hB
  clear hl hB her
  generalize dutyAt bs s = a1 at *
  generalize dayAt bs s = a2 at *
  generalize stateAt bs s = a3 at *
  obtain ⟨f1, f2⟩ := hsf w.drew (Below.refl _ _).drew
  have HSF := hide hsf
  clear hsf
  have hfd := field_day a1 a2 a3
  go_enter Try.func40, Try.ntmps40
  go_wp2_with fail
  go_region_held3 (fun w' => w'.cell? ⟨p, 1, none⟩ = some (.map (some m))) (first | exact unhide HAL _ | go_keep)
      ((first
        | (go_at_call 30; (with_reducible refine (unhide HNM _).mono ?_); rintro en w2 ⟨rfl, hb⟩; have hb2 := ((Below.refl w.heap.size w).drew).trans hb; obtain ⟨f1, f2⟩ := unhide HSF _ hb2; have HB2 := hide hb2; clear hb hb2)
        | (go_at_call 43; (with_reducible refine (whenF_any _ 1 _).mono ?_); rintro en w3 ⟨fn1, cp1, rfl, k1, hb⟩; have hb3 := (unhide HB2).trans (hb.mono (unhide HB2).size); obtain ⟨f1, f2⟩ := unhide HSF _ hb3; have HB3 := hide hb3; have HK1 := hide k1; clear hb hb3 k1)
        | (go_at_call 43; (with_reducible refine (whenF_any _ 11 _).mono ?_); rintro en w4 ⟨fn2, cp2, rfl, k2, hb⟩; have hb4 := (unhide HB3).trans (hb.mono (unhide HB3).size); have hb5 := hb4.alloc hb4.size (.cells #[.func (.func fn1) #[] cp1, .func (.func fn2) #[] cp2] 90)
           have hlv := leave_any p m n lim 2 s bs (some ⟨w4.heap.size, 0, none⟩) 2 2 [(.func (.func fn1) #[] cp1, !o1, 1), (.func (.func fn2) #[] cp2, decide (a2 < day), 11)] (w4.alloc (.cells #[.func (.func fn1) #[] cp1, .func (.func fn2) #[] cp2] 90)) hs ((unhide HB).after hb5) hn hpm rfl (by omega)
             (src_made w4 _ rfl _ [.func (.func fn1) #[] cp1, .func (.func fn2) #[] cp2] 2 rfl) (fun a h => by cases h; simp) (conds_cons (((unhide HK1).after hb).after ((Below.refl _ _).alloc (Nat.le_refl _) _)) (conds_cons (k2.after ((Below.refl _ _).alloc (Nat.le_refl _) _)) (fun t ht => by cases ht)))
           rw [unhide HL] at hlv
           have HLV := hide hlv; have HB5 := hide hb5; obtain ⟨f1, f2⟩ := unhide HSF _ hb4; have HAL := hide (fun o => (unhide HSF (w4.alloc o) (hb4.alloc hb4.size o)).1); clear hlv hb5 hb hb4 k2)
        | (go_at_call 42; (with_reducible refine (unhide HLV).mono ?_); rintro en w9 ⟨rfl, h1, h2⟩; have HF := hide (And.intro h1 h2); have f1 := h1.1.cells 1; simp only [List.getElem?_toArray, List.getElem?_cons_zero, List.getElem?_cons_succ] at f1; clear h1 h2)))
  all_goals
    clear f1 f2
    go_wp2_with fail
    go_ret
    exact ⟨rfl, (unhide HF).1, (grown_of_below (row := some m) (unhide HB5)).andThen (unhide HF).2 (fun j hj => Or.inr hj)⟩

def stateOf (bs : List Bx) (s : ByteArray) : Int := if known bs s = true then stateAt bs s else -1
set_option maxHeartbeats 4000000 in
set_option maxRecDepth 100000 in
theorem State_any (p m n : Nat) (lim : Int) (s : ByteArray) (bs : List Bx) (w : World) (hs : s.size ≤ maxLen) (hB : BondAt w p lim m n bs) :
    Calls Try.prog 19 #[.pointer (some ⟨p, 0, none⟩), .string s] w fun e w' => e = .returned (.int .i64 (stateOf bs s)) ∧ Below w.heap.size w w' := by
  have hlook := look_at hB.2 s hs
  have cB := hB.1.cells
  have hdef : stateOf bs s = if known bs s = true then stateAt bs s else -1 := rfl
  generalize stateOf bs s = r at *
  clear hB
  generalize dutyAt bs s = a1 at *
  generalize dayAt bs s = a2 at *
  generalize stateAt bs s = a3 at *
  cases hk : known bs s
  · rw [hk] at hlook hdef
    rw [if_neg (by simp)] at hdef
    subst hdef
    clear hk
    go_enter Try.func19, Try.ntmps19
    go_wp2_with fail
    go_ret
    exact ⟨rfl, (Below.refl _ _).alloc (Nat.le_refl _) _⟩
  · rw [hk] at hlook hdef
    rw [if_pos rfl] at hdef
    subst hdef
    clear hk
    go_enter Try.func19, Try.ntmps19
    go_wp2_with fail
    go_ret
    exact ⟨rfl, (Below.refl _ _).alloc (Nat.le_refl _) _⟩
end Go.Proofs.Ytgalpdjmmpjddaa
