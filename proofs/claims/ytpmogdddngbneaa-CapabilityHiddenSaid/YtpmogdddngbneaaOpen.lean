/-
  Opened arguments, the last step: what the statements of every seat share.
-/
import Derived.Test.YtpmogdddngbneaaRows
import Derived.Test.YtpmogdddngbneaaJouBase
import Derived.ProofKit
import Derived.OpenShut
import Derived.Deep.DeepHandedRow
import Derived.Deep.Slices
import Derived.WideKeyArgs
namespace Go.Proofs.Ytpmogdddngbneaa
open Go.ChangeShapes Go.WideShapes Go.ChangeAt Go.RowKit Go.WideMaps Go.WideElems
open Go.ChangeMaps (open_string shut_string)

abbrev OI64 (n : Int) : Prop := -9223372036854775808 ≤ n ∧ n ≤ 9223372036854775807
theorem own : ownKnob Try.prog.godebug = none := by kernel_rfl
theorem laidOut : laidOutB Try.prog = true := by kernel_rfl
theorem ba_of_list {s : ByteArray} {l : List UInt8} (h : s.data.toList = l) : s = ⟨l.toArray⟩ := by
  cases s; simp at h; subst h; simp
theorem ba_len {l : List UInt8} (h : (ByteArray.mk l.toArray).size ≤ maxLen) : l.length ≤ 9223372036854775807 := by
  unfold maxLen at h
  exact h
section
variable {H : Type} {enc : TypeId × Value → H} {P : Program}
/-- The row's last step where below the old memory nothing has changed. -/
theorem post_of_below {f : Func} {s : ChangeSpec} {apart fresh handsOn again : Bool} {W W' : World} {args : Array Value} {v : Value} {ds gs : List (DataW H)} {before pa pv : List MemPlace}
    (hW : DataW.Whole enc P f.params.toList s.vars apart W args.toList ds gs before)
    (hres : ∀ (b : Nat) (sp : Nat → Bool) (hd : Bool), DataW.TrodAll enc P W' b sp hd f.resultTypes.toList (v.resultList f.resultTypes.size) (s.fn H (ds ++ gs)).results [])
    (hargs : ∀ sp : Nat → Bool, (∀ p ∈ before, sp p.block = true) → DataW.TrodAll enc P W' 0 sp true f.params.toList args.toList (s.fn H (ds ++ gs)).args pa)
    (hvars : ∀ sp : Nat → Bool, (∀ p ∈ before, sp p.block = true) → DataW.TrodVars enc P W' sp s.vars (s.fn H (ds ++ gs)).vars pv)
    (hps : before = pa ++ pv) (hb : Below W.heap.size W W')
    (hok : ∀ (j : Nat) (t : TypeId) (r : Value), f.resultTypes[j]? = some t → (v.resultList f.resultTypes.size)[j]? = some r → Value.okWide P W' .any 0 t r) :
    s.post enc P f apart fresh handsOn again W args v W' := by
  have hlt : ∀ p ∈ before, p.block < W.heap.size := fun p hp => hW.lt p hp
  have hold : ∀ p ∈ before, (fun b => decide (b < W.heap.size)) p.block = true := fun p hp => by simpa using hlt p hp
  refine ⟨ds, gs, before, [], pa, pv, hW, hres _ _ _, hargs _ hold, hvars _ hold, World.keptBut_mono (fun p hp => ⟨hp, ?_⟩) (hb.frame (· ∈ before)), fun _ => ?_⟩
  · rw [hps, List.mem_append] at hp
    exact Or.inr hp
  · obtain ⟨_, _, _, _, _, hz, hn⟩ := hW
    refine ⟨hok, _, _, ([] ++ pa) ++ pv, ⟨[] ++ pa, pv, trodAll_append (hargs _ (fun _ _ => rfl)) (hres _ _ _), hvars _ (fun _ _ => rfl), rfl, ?_, ?_⟩, ?_⟩
    · intro b off hp
      have hin : MemPlace.cell b off ∈ before := by rw [hps]; simpa using hp
      rw [hb.frozen (hlt _ hin)]
      exact hz b off hin
    · intro ha
      have := hn ha
      rw [hps] at this
      simpa using this
    · intro p hp _
      rw [hps]
      simpa using hp
end


set_option maxRecDepth 100000 in
/-- A slice that came in: its block is there. -/
theorem slice_there {W : World} {base : Nat} {t e : TypeId} {a : Addr} {len cap : Nat} (ht : Try.prog.underlying t = some (.slice e)) (h : Value.okWide Try.prog W .any base t (.slice (some a) len cap)) : a.spot = none ∧ a.block < W.heap.size := by
  simp only [Value.okWide, ht, Cell.okWide, Cell.ok] at h
  obtain ⟨_, _, _, hs, row, cells, hsh, _⟩ := h
  refine ⟨hs, ?_⟩
  unfold World.shape? at hsh
  split at hsh
  · rename_i hb; exact (Array.getElem?_eq_some_iff.1 hb).1
  · cases hsh
theorem cut (cs : List Value) (o n : Nat) : cs.drop o = (cs.drop o).take n ++ cs.drop (o + n) := by
  rw [← List.drop_drop]; exact (List.take_append_drop n _).symm
theorem choose_list {α : Type} (f : α → Value) (Q : α → Prop) : ∀ (n : Nat) (V : Nat → Value), (∀ i, i < n → ∃ r : α, V i = f r ∧ Q r) → ∃ rows : List α, rows.length = n ∧ (∀ i (h : i < rows.length), V i = f rows[i]) ∧ ∀ r ∈ rows, Q r
  | 0, _, _ => ⟨[], rfl, fun i h => by simp at h, fun r hr => by cases hr⟩
  | n + 1, V, h => by
    obtain ⟨rows, h1, h2, h3⟩ := choose_list f Q n V (fun i hi => h i (by omega))
    obtain ⟨r, hr1, hr2⟩ := h n (by omega)
    refine ⟨rows ++ [r], by simp [h1], fun i hi => ?_, fun x hx => ?_⟩
    · by_cases hin : i < rows.length
      · rw [List.getElem_append_left hin]; exact h2 i hin
      · have : i = rows.length := by simp at hi; omega
        subst this
        rw [List.getElem_append_right (Nat.le_refl _)]
        simpa [h1] using hr1
    · rcases List.mem_append.1 hx with hx | hx
      · exact h3 x hx
      · rw [List.mem_singleton.1 hx]; exact hr2
theorem fld {H : Type} {enc : TypeId × Value → H} {W : World} {m i o k : Nat} {t : TypeId} {cs : List Value} {xs : List (DataW H × List MemPlace)} (hc : Try.prog.cellsOf t = k) (hi : i < xs.length) (h : DataW.trod enc Try.prog W 0 (fun _ => true) true m t ((cs.drop o).take (Try.prog.cellsOf t)) = xs[i]?) :
    ∃ y, DataW.trod enc Try.prog W 0 (fun _ => true) true m t ((cs.drop o).take k) = some y := by
  rw [hc] at h
  exact ⟨_, h.trans (List.getElem?_eq_getElem hi)⟩

theorem str_of {H : Type} {enc : TypeId × Value → H} {W : World} {fuel : Nat} {cs : List Value} {x : DataW H × List MemPlace} (h : DataW.trod enc Try.prog W 0 (fun _ => true) true fuel 9 cs = some x) : ∃ l : List UInt8, cs = [sV l] ∧ l.length ≤ maxLen := by
  obtain ⟨s, hs, _, hm⟩ := DataW.trod_string Try.underlying9 h
  refine ⟨s.data.toList, by rw [hs], ?_⟩
  rw [Array.length_toList]
  exact hm
theorem int_of {H : Type} {enc : TypeId × Value → H} {W : World} {fuel : Nat} {cs : List Value} {x : DataW H × List MemPlace} (h : DataW.trod enc Try.prog W 0 (fun _ => true) true fuel 3 cs = some x) : ∃ n : Int, cs = [iV n] ∧ OI64 n := by
  obtain ⟨z, hz, _, hw⟩ := DataW.trod_int Try.underlying3 h
  exact ⟨z, hz, bounds_i64 hw⟩
theorem o_cell {W : World} {a : Addr} {v : Value} (h : W.cell? a = some v) : a.spot = none ∧ a.block < W.heap.size := by
  unfold World.cell? at h
  split at h
  · rename_i hb
    split at h
    · cases h
    · rename_i hs
      exact ⟨by cases ha : a.spot <;> simp_all, (Array.getElem?_eq_some_iff.1 hb).1⟩
  · cases h
theorem o_cells {W : World} {base : Nat} {b off : Nat} : ∀ {n : Nat} {cs : List Value}, W.cells? base ⟨b, off, none⟩ n = some cs → cs.length = n ∧ ∀ i u, cs[i]? = some u → W.cell? ⟨b, off + i, none⟩ = some u := fun {n cs} h => by
  have := World.cells?_some h
  refine ⟨this.2.1, fun i u hu => ?_⟩
  have hi : i < n := by rw [← this.2.1]; exact (List.getElem?_eq_some_iff.1 hu).1
  have h2 := this.2.2 i hi
  rw [add_at] at h2
  rw [h2, hu]
/-- A list of elements of k cells. -/
theorem rowsk_of {α : Type} {f : α → List Value} {Q : α → Prop} {H : Type} {enc : TypeId × Value → H} {W : World} {t e : TypeId} (k : Nat) (hk0 : 0 < k) (ht : Try.prog.underlying t = some (.slice e)) (he : Try.prog.cellsOf e = k) (hfk : ∀ x, (f x).length = k)
    (hq : ∀ (fuel : Nat) (cs : List Value) (x : DataW H × List MemPlace), DataW.trod enc Try.prog W 0 (fun _ => true) true fuel e cs = some x → ∃ r, cs = f r ∧ Q r)
    {cs : List Value} {fuel : Nat} {x : DataW H × List MemPlace} (hf : DataW.trod enc Try.prog W 0 (fun _ => true) true fuel t cs = some x) :
    ∃ A c ns, cs = [.slice A (List.length ns) c] ∧ Rd W A (ns.flatMap f) ∧ ns.length ≤ c ∧ c ≤ maxLen ∧ ∀ n ∈ ns, Q n := by
  rcases Deep.open_slice ht hf with ⟨hcs, hx⟩ | ⟨a, len, cap, m, n, D, Pl, hcs, _, hl, hm, hmm, hx, hc⟩
  · exact ⟨none, 0, [], hcs, Rd.nil _ _, Nat.le_refl _, Nat.zero_le _, fun n hn => by cases hn⟩
  · simp at hmm
    subst hmm
    by_cases hz : len = 0
    · subst hz
      exact ⟨some a, m, [], hcs, Rd.nil _ _, Nat.zero_le _, hm, fun n hn => by cases hn⟩
    rw [he] at hc
    obtain ⟨bl, off, sp⟩ := a
    have hsp : sp = none ∧ bl < W.heap.size := by
      obtain ⟨cs0, h0, _⟩ := hc 0 (by omega)
      have h1 := World.cells?_some h0
      have h2 := h1.2.2 0 hk0
      rw [show (Addr.add (Addr.add ⟨bl, off, sp⟩ (0 * k)) 0) = ⟨bl, off, sp⟩ by rw [Nat.zero_mul]; rfl, List.getElem?_eq_getElem (by rw [h1.2.1]; exact hk0)] at h2
      exact o_cell h2
    obtain ⟨rfl, hb⟩ := hsp
    have each : ∀ i, i < len → ∃ r : α, (∀ j u, (f r)[j]? = some u → W.cell? ⟨bl, off + i * k + j, none⟩ = some u) ∧ Q r := fun i hi => by
      obtain ⟨cs', h1, h2⟩ := hc i (by omega)
      obtain ⟨r, rfl, hr⟩ := hq _ _ _ h2
      rw [add_at] at h1
      exact ⟨r, (o_cells h1).2, hr⟩
    have main : ∀ n, n ≤ len → ∃ rows : List α, rows.length = n ∧ (∀ i (h : i < rows.length) j u, (f rows[i])[j]? = some u → W.cell? ⟨bl, off + i * k + j, none⟩ = some u) ∧ ∀ r ∈ rows, Q r := by
      intro n
      induction n with
      | zero => exact fun _ => ⟨[], rfl, fun i h => by simp at h, fun r hr => by cases hr⟩
      | succ n ih =>
        intro hn
        obtain ⟨rows, h1, h2, h3⟩ := ih (by omega)
        obtain ⟨r, hr1, hr2⟩ := each n (by omega)
        refine ⟨rows ++ [r], by simp [h1], fun i hi j u hu => ?_, fun x hx => ?_⟩
        · by_cases hin : i < rows.length
          · rw [List.getElem_append_left hin] at hu; exact h2 i hin j u hu
          · have : i = rows.length := by simp at hi; omega
            subst this
            rw [List.getElem_append_right (Nat.le_refl _)] at hu
            simp at hu
            rw [h1]
            exact hr1 j u hu
        · rcases List.mem_append.1 hx with hx | hx
          · exact h3 x hx
          · rw [List.mem_singleton.1 hx]; exact hr2
    obtain ⟨rows, h1, h2, h3⟩ := main len (Nat.le_refl _)
    have flen : ∀ xs : List α, (xs.flatMap f).length = xs.length * k := fun xs => by
      induction xs with
      | nil => simp
      | cons x xs ih => rw [List.flatMap_cons, List.length_append, hfk, ih, List.length_cons, Nat.add_mul]; omega
    have fget : ∀ (xs : List α) (i j : Nat) (hi : i < xs.length), j < k → (xs.flatMap f)[i * k + j]? = (f xs[i])[j]? := by
      intro xs
      induction xs with
      | nil => intro i j hi; simp at hi
      | cons x xs ih =>
        intro i j hi hj
        cases i with
        | zero => rw [List.flatMap_cons]; simp; rw [List.getElem?_append_left (by rw [hfk]; exact hj)]
        | succ i =>
          rw [List.flatMap_cons, List.getElem?_append_right (by rw [hfk, Nat.add_mul]; omega), hfk, show (i + 1) * k + j - k = i * k + j by rw [Nat.add_mul]; omega, ih i j (by simpa using hi) hj]
          rfl
    refine ⟨some ⟨bl, off, none⟩, m, rows, by rw [h1]; exact hcs, .inr ⟨bl, off, rfl, hb, fun q u hu => ?_⟩, by omega, hm, h3⟩
    have hq' : q < rows.length * k := by rw [← flen]; exact (List.getElem?_eq_some_iff.1 hu).1
    have hd : q / k < rows.length := Nat.div_lt_of_lt_mul (by rw [Nat.mul_comm]; exact hq')
    have hqe : q / k * k + q % k = q := by rw [Nat.mul_comm]; exact Nat.div_add_mod q k
    have h5 := fget rows (q / k) (q % k) hd (Nat.mod_lt _ hk0)
    rw [hqe, hu] at h5
    have h6 := h2 (q / k) hd (q % k) u h5.symm
    rw [Nat.add_assoc, hqe] at h6
    exact h6
end Go.Proofs.Ytpmogdddngbneaa
