/- The places of what is left, sorted by the library. -/
import Derived.Test.YtgbheogmccfaaaaGreatSpA
import Derived.Test.YtgbheogmccfaaaaGreatSrtK
import Derived.Shelf.SlSortCmp.Whole1
namespace Go.Proofs.YtgbheogmccfaaaaGreat
set_option linter.unusedVariables false
set_option linter.unusedSimpArgs false
open Go.RowKit Go.Sort Go.Shelf Go.Lib

def numA (k : IntKind) (l : List Nat) : Array Value := (l.map fun (x : Nat) => Value.int k x).toArray
theorem numA_get (k : IntKind) (l : List Nat) (i : Nat) : (numA k l)[i]? = (l[i]?).map fun (x : Nat) => Value.int k x := by simp [numA]
def cfF (r : List Nat) (n : Nat) (x y : Fin n) : Int := cmpR r x y
theorem cfF_lt (r : List Nat) (n : Nat) (x y : Fin n) : ltOf (cfF r n) x y = bef r x y := by
  unfold ltOf cfF; exact cmpR_lt r x y
theorem swo_place (r : List Nat) (n : Nat) : SWO (ltOf (cfF r n)) := ⟨fun x => by rw [cfF_lt]; exact bef_irr r x, fun x y z h1 h2 => by
    rw [cfF_lt] at *; exact bef_trans h1 h2, fun x y z h1 h2 => by
    rw [cfF_lt] at *
    by_cases e1 : (x : Nat) = y
    · rw [e1]; exact h2
    · by_cases e2 : (y : Nat) = z
      · rw [← e2]; exact h1
      · have a : bef r y x = true := (bef_tot e1).resolve_left (by rw [h1]; simp)
        have b : bef r z y = true := (bef_tot e2).resolve_left (by rw [h2]; simp)
        exact bef_asym (bef_trans b a)⟩
theorem order_of_sorted {n : Nat} [Inhabited (Fin n)] {r : List Nat} (hr : r.length = n) {d d' : Array (Fin n)} (hd : d.toList.map (fun (i : Fin n) => (i : Nat)) = List.range n) (hp : PermIn 0 d.size d d') (hs : SortedIn (ltOf (cfF r n)) 0 d.size d') : InOrder r (d'.toList.map fun (i : Fin n) => (i : Nat)) := by
  obtain ⟨h1, h2, h3⟩ := hp
  have e1 : (d'.extract 0 d.size) = d' := by rw [← h1]; simp
  have e2 : (d.extract 0 d.size) = d := by simp
  rw [e1, e2] at h3
  have hperm : (d'.toList.map fun (i : Fin n) => (i : Nat)).Perm (List.range r.length) := by rw [hr, ← hd]; exact h3.map _
  refine ⟨hperm, ?_⟩
  have hnd : (d'.toList.map fun (i : Fin n) => (i : Nat)).Nodup := hperm.nodup_iff.2 List.nodup_range
  rw [List.pairwise_iff_getElem]
  intro i j hi hj hij
  have hi' : i < d'.size := by simpa using hi
  have hj' : j < d'.size := by simpa using hj
  have h4 := hs i j (Nat.zero_le _) hij (by rw [← h1]; exact hj')
  rw [getElem!_pos d' i hi', getElem!_pos d' j hj', cfF_lt] at h4
  have hne : (d'[i] : Nat) ≠ d'[j] := by
    have := (List.pairwise_iff_getElem.1 hnd) i j hi hj hij
    simpa using this
  simp only [List.getElem_map, Array.getElem_toList]
  exact (bef_tot hne).resolve_right (by rw [h4]; simp)

theorem sortPlaces_any {r : List Nat} {n g X L c T T2 : Nat} {w : World} (hr : r.length = n) (h0 : 0 < n) (hn : n ≤ 4096) (hgL : g < L) (hXL : X < L)
    (hX : w.cell? ⟨X, 0, none⟩ = some (.slice (some ⟨g, 0, none⟩) n c)) (hR : Whole w g T (numA .u64 r)) (hP : Whole w L T2 (numA .i64 (List.range n))) :
    Calls Tryz.prog 44 #[.slice (some ⟨L, 0, none⟩) n n, .func (.func 45) #[] #[.pointer (some ⟨X, 0, none⟩)]] w fun e w' => e = .returned (.tuple #[]) ∧ ∃ P, InOrder r P ∧ Whole w' L T2 (numA .i64 P) ∧ Below L w w' := by
  haveI : Inhabited (Fin n) := ⟨⟨0, h0⟩⟩
  have eg : ∀ args W, (callFunc 45 args).run Tryz.prog W = .ok (.enter 45 args) W := enters_of Tryz.func45 (by kernel_rfl) rfl
  obtain ⟨d, hd⟩ : ∃ d : Array (Fin n), d = Array.ofFn fun i : Fin n => i := ⟨_, rfl⟩
  have hsz : d.size = n := by rw [hd]; simp
  have hval : d.toList.map (fun (i : Fin n) => (i : Nat)) = List.range n := by
    apply List.ext_getElem
    · simp [hsz]
    · intro i h1 h2
      simp [hd]
  have hLs := hP.lt
  have hbel : ∀ m os (dk : Array (Fin n)), Below L w (sortWorld (fun x : Fin n => Value.int .i64 (x : Nat)) w L 0 m dk os) := fun m os dk =>
    ⟨rfl, rfl, rfl, by simp [sortWorld], fun k hk => by
      unfold sortWorld
      rw [heap_grow_old _ _ (by simp; omega)]
      have : L ≠ k := by omega
      simp [putRow, mapBlock, Sort.ahead, Array.getElem?_modify, this]⟩
  have hcmp : CmpLays1 Tryz.prog 45 #[.pointer (some ⟨X, 0, none⟩)] (fun x : Fin n => Value.int .i64 (x : Nat)) (cfF r n) L 0 d.size w := fun m os dk _ x y => by
    have hb := hbel m os dk
    have hR' := hR.below hb hgL
    have hget : ∀ z : Fin n, (numA .u64 r)[(z : Nat)]? = some (.int .u64 (r.getD z 0)) := fun z => by
      rw [numA_get, List.getElem?_eq_getElem (by rw [hr]; exact z.2)]
      simp [List.getD, hr, z.2]
    exact (Split1_any r x y n c g X _ x.2 y.2 (by omega) ((old_cells hb _ _ hXL).trans hX) ((hR'.cells _).trans (hget x)) ((hR'.cells _).trans (hget y))).mono fun e w' ⟨h1, h2⟩ => ⟨h1, h2.out⟩
  have hH : Holds (fun x : Fin n => Value.int .i64 (x : Nat)) w L 0 d := fun j hj => by
    rw [hsz] at hj
    rw [Nat.zero_add]
    refine ⟨?_, hP.soft _⟩
    rw [hP.cells, numA_get, getElem!_pos d j (by rw [hsz]; exact hj)]
    simp [hd, hj]
  have key := Any.slices_SortFunc Tryz.sortInts (fun x : Fin n => Value.int .i64 (x : Nat)) (fun x => rfl) (cfF r n) (swo_place r n) 45 #[.pointer (some ⟨X, 0, none⟩)] L 0 n d w eg hcmp hH hLs (by omega)
  change Calls Tryz.prog 44 _ _ _ at key
  rw [hsz] at key
  refine key.mono ?_
  rintro e w' ⟨rfl, d', m, os, hp, hs, rfl⟩
  refine ⟨rfl, _, order_of_sorted hr hval (by rw [hsz]; exact hp) (by rw [hsz]; exact hs), ?_, hbel m os d'⟩
  have hs' : d'.size = n := by rw [hp.1, hsz]
  unfold Whole at hP ⊢
  unfold sortWorld
  rw [heap_grow_old _ _ (by simpa using hLs)]
  simp only [putRow, mapBlock, Sort.ahead, Array.getElem?_modify, hP, onCells]
  simp only [if_true, Option.map_some]
  have ecells : putCells (fun x : Fin n => Value.int .i64 (x : Nat)) 0 d' (numA .i64 (List.range n)) = numA .i64 (d'.toList.map fun (i : Fin n) => (i : Nat)) := by
   apply Array.ext
   · simp [putCells, numA, hs']
   · intro i h1 h2
     have hi : i < n := by simpa [numA, hs'] using h2
     simp [putCells, numA, hs', hi, getElem!_pos d' i (by rw [hs']; exact hi)]
  show some (Obj.cells (putCells (fun x : Fin n => Value.int .i64 (x : Nat)) 0 d' (numA .i64 (List.range n))) T2 (0, 0)) = _
  rw [ecells]
end Go.Proofs.YtgbheogmccfaaaaGreat
