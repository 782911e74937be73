/-
  What the statements of the journal's seat share: opened arguments, the last step.
-/
import Derived.Test.YtoaembpakmpolaaRows
import Derived.Test.YtoaembpakmpolaaJouHead2
import Derived.Test.YtoaembpakmpolaaJouThe2
import Derived.Test.YtoaembpakmpolaaJouThe3
import Derived.ProofKit
import Derived.OpenShut
import Derived.Deep.DeepHandedRow
import Derived.Deep.Slices
import Derived.WideKeyArgs
namespace Go.Proofs.Ytoaembpakmpolaa
open Go.ChangeShapes Go.WideShapes Go.ChangeAt Go.RowKit Go.WideMaps Go.WideElems
open Go.ChangeMaps (open_string shut_string)

theorem own : ownKnob Try.prog.godebug = none := by kernel_rfl
theorem laidOut : laidOutB Try.prog = true := by kernel_rfl
theorem cellsByte : Try.prog.cellsOf 5 = 1 := by kernel_rfl
theorem ba_of_list {s : ByteArray} {l : List UInt8} (h : s.data.toList = l) : s = ⟨l.toArray⟩ := by
  cases s; simp at h; subst h; simp
section
variable {H : Type} {enc : TypeId × Value → H} {P : Program}
/-- The row's last step where below the old memory nothing has changed. -/
theorem post_of_below {f : Func} {s : ChangeSpec} {apart fresh handsOn again : Bool} {W W' : World} {args : Array Value} {v : Value} {ds gs : List (DataW H)} {before pa pv : List MemPlace}
    (hW : DataW.Whole enc P f.params.toList s.vars apart W args.toList ds gs before)
    (hres : ∀ (b : Nat) (sp : Nat → Bool) (hd : Bool), DataW.TrodAll enc P W' b sp hd f.resultTypes.toList (v.resultList f.resultTypes.size) (s.fn H (ds ++ gs)).results [])
    (hargs : ∀ sp : Nat → Bool, (∀ p ∈ before, sp p.block = true) → DataW.TrodAll enc P W' 0 sp true f.params.toList args.toList (s.fn H (ds ++ gs)).args pa)
    (hvars : ∀ sp : Nat → Bool, (∀ p ∈ before, sp p.block = true) → DataW.TrodVars enc P W' sp s.vars (s.fn H (ds ++ gs)).vars pv)
    (hps : before = pa ++ pv) (hb : Below W.heap.size W W')
    (hok : ∀ (j : Nat) (t : TypeId) (r : Value), f.resultTypes[j]? = some t → (v.resultList f.resultTypes.size)[j]? = some r → Value.okWide P W' .any 0 t r) :
    s.post enc P f apart fresh handsOn again W args v W' := by
  have hlt : ∀ p ∈ before, p.block < W.heap.size := fun p hp => hW.lt p hp
  have hold : ∀ p ∈ before, (fun b => decide (b < W.heap.size)) p.block = true := fun p hp => by simpa using hlt p hp
  refine ⟨ds, gs, before, [], pa, pv, hW, hres _ _ _, hargs _ hold, hvars _ hold, World.keptBut_mono (fun p hp => ⟨hp, ?_⟩) (hb.frame (· ∈ before)), fun _ => ?_⟩
  · rw [hps, List.mem_append] at hp
    exact Or.inr hp
  · obtain ⟨_, _, _, _, _, hz, hn⟩ := hW
    refine ⟨hok, _, _, ([] ++ pa) ++ pv, ⟨[] ++ pa, pv, trodAll_append (hargs _ (fun _ _ => rfl)) (hres _ _ _), hvars _ (fun _ _ => rfl), rfl, ?_, ?_⟩, ?_⟩
    · intro b off hp
      have hin : MemPlace.cell b off ∈ before := by rw [hps]; simpa using hp
      rw [hb.frozen (hlt _ hin)]
      exact hz b off hin
    · intro ha
      have := hn ha
      rw [hps] at this
      simpa using this
    · intro p hp _
      rw [hps]
      simpa using hp
end


set_option maxRecDepth 100000 in
/-- A slice that came in: its block is there. -/
theorem slice_there {W : World} {base : Nat} {t e : TypeId} {a : Addr} {len cap : Nat} (ht : Try.prog.underlying t = some (.slice e)) (h : Value.okWide Try.prog W .any base t (.slice (some a) len cap)) : a.spot = none ∧ a.block < W.heap.size := by
  simp only [Value.okWide, ht, Cell.okWide, Cell.ok] at h
  obtain ⟨_, _, _, hs, row, cells, hsh, _⟩ := h
  refine ⟨hs, ?_⟩
  unfold World.shape? at hsh
  split at hsh
  · rename_i hb; exact (Array.getElem?_eq_some_iff.1 hb).1
  · cases hsh
set_option maxRecDepth 100000 in
theorem open_bs {H : Type} {enc : TypeId × Value → H} {W : World} {base : Nat} {v : Value} {d : DataW H} {ps : List MemPlace} (hval : Value.okWide Try.prog W .any base 38 v) (h : DataW.Trod enc Try.prog W 0 (fun _ => true) true 38 v d ps) :
    ∃ A c l, v = .slice A (List.length l) c ∧ Bs W A c l := by
  obtain ⟨A, len, cap, rfl⟩ := okWide_slice Try.underlying38 hval
  obtain ⟨fuel, hf⟩ := h
  rcases Deep.open_slice1 Try.underlying38 cellsByte hf with ⟨hcs, hx⟩ | ⟨a, len', cap', m, n, V, D, Pl, hcs, _, hl, hm, hmm, hx, hc⟩
  · simp [Value.cells] at hcs
    obtain ⟨rfl, rfl, rfl⟩ := hcs
    exact ⟨none, 0, [], rfl, Bs.nil _⟩
  · simp [Value.cells] at hcs
    obtain ⟨rfl, rfl, rfl⟩ := hcs
    obtain ⟨hs, hb⟩ := slice_there Try.underlying38 hval
    obtain ⟨bl, off, sp⟩ := a
    simp only at hs hb
    subst hs
    simp at hmm
    subst hmm
    have hV : ∀ i, i < len → V i = bV (UInt8.ofNat (intOf (V i)).toNat) ∧ W.cell? ⟨bl, off + i, none⟩ = some (V i) := by
      intro i hi
      obtain ⟨h1, h2⟩ := hc i (by omega)
      obtain ⟨z, hz, _, hw⟩ := DataW.trod_int Try.underlying5 h2
      rw [add_at] at h1
      refine ⟨?_, h1⟩
      have : V i = .int .u8 z := by simpa using hz
      rw [this]
      have hz2 := bounds_u8 hw
      simp only [intOf, bV, UInt8.toNat_ofNat']
      congr 1
      omega
    refine ⟨some ⟨bl, off, none⟩, m, (List.range len).map fun i => UInt8.ofNat (intOf (V i)).toNat, by simp, .inr ⟨bl, off, rfl, hb, fun i u hu => ?_⟩, fun a ha => by cases ha; exact hb, by simpa using hl, hm⟩
    rw [List.map_map, List.getElem?_map] at hu
    cases hr : (List.range len)[i]? with
    | none => rw [hr] at hu; cases hu
    | some k =>
      have hk : k = i ∧ i < len := by
        rw [List.getElem?_eq_some_iff] at hr
        obtain ⟨h1, h2⟩ := hr
        simp at h1 h2
        exact ⟨h2.symm, h1⟩
      obtain ⟨rfl, hi⟩ := hk
      rw [hr] at hu
      cases hu
      rw [(hV k hi).2, (hV k hi).1]
      simp
end Go.Proofs.Ytoaembpakmpolaa
