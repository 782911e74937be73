/-
  Sights in order, and what is seen: plain laws.
-/
import Derived.Test.YtpmogdddngbneaaCapCmp
namespace Go.Proofs.Ytpmogdddngbneaa
open Go.RowKit Go.Sort

def lessS (a b : Sight) : Bool := if a.o = b.o then (if a.lo = b.lo then decide (a.hi < b.hi) else decide (a.lo < b.lo)) else decide (a.o < b.o)
def cmpS (x y : Sight) : Int := orI (orI (Lib.compareInt x.o y.o) (Lib.compareInt x.lo y.lo)) (Lib.compareInt x.hi y.hi)
theorem lessS_iff (a b : Sight) : lessS a b = true ↔ a.o < b.o ∨ (a.o = b.o ∧ (a.lo < b.lo ∨ (a.lo = b.lo ∧ a.hi < b.hi))) := by
  unfold lessS
  split
  · split
    · simp; omega
    · simp; omega
  · simp; omega
theorem cmpS_lt (a b : Sight) : ltOf cmpS a b = lessS a b := by
  rw [Bool.eq_iff_iff, lessS_iff]
  unfold ltOf cmpS orI Lib.compareInt
  simp only [decide_eq_true_eq]
  repeat' split
  all_goals (simp_all <;> omega)
theorem cmpS_swo : SWO (ltOf cmpS) := by
  refine ⟨fun x => ?_, fun x y z => ?_, fun x y z => ?_⟩
  · rw [cmpS_lt, ← Bool.not_eq_true, lessS_iff]; omega
  · rw [cmpS_lt, cmpS_lt, cmpS_lt, lessS_iff, lessS_iff, lessS_iff]; omega
  · rw [cmpS_lt, cmpS_lt, cmpS_lt, ← Bool.not_eq_true, ← Bool.not_eq_true, ← Bool.not_eq_true, lessS_iff, lessS_iff, lessS_iff]; omega
theorem less_irr (a : Sight) : lessS a a = false := by rw [← Bool.not_eq_true, lessS_iff]; omega
theorem less_trans {a b c : Sight} (h : lessS a b = true) (k : lessS b c = true) : lessS a c = true := by rw [lessS_iff] at *; omega
theorem less_tri (a b : Sight) : lessS a b = true ∨ a = b ∨ lessS b a = true := by
  rw [lessS_iff, lessS_iff]
  by_cases h : a = b
  · exact .inr (.inl h)
  · have : ¬ (a.o = b.o ∧ a.lo = b.lo ∧ a.hi = b.hi) := fun ⟨h1, h2, h3⟩ => h (by cases a; cases b; simp_all)
    omega
/-- In increasing order. -/
def Strict (l : List Sight) : Prop := l.Pairwise fun a b => lessS a b = true
theorem strict_ext : ∀ {l m : List Sight}, Strict l → Strict m → (∀ s, s ∈ l ↔ s ∈ m) → l = m
  | [], [], _, _, _ => rfl
  | [], b :: m, _, _, h => by have := (h b).2 (by simp); cases this
  | a :: l, [], _, _, h => by have := (h a).1 (by simp); cases this
  | a :: l, b :: m, hl, hm, h => by
    have hl' := List.pairwise_cons.1 hl
    have hm' := List.pairwise_cons.1 hm
    have e : a = b := by
      have h1 := (h a).1 (by simp)
      have h2 := (h b).2 (by simp)
      rcases List.mem_cons.1 h1 with h1 | h1
      · exact h1
      rcases List.mem_cons.1 h2 with h2 | h2
      · exact h2.symm
      have k1 := hm'.1 a h1
      have k2 := hl'.1 b h2
      have := less_trans k1 k2
      rw [less_irr] at this; cases this
    subst e
    congr 1
    refine strict_ext hl'.2 hm'.2 fun s => ⟨fun hs => ?_, fun hs => ?_⟩
    · rcases List.mem_cons.1 ((h s).1 (by simp [hs])) with e | e
      · subst e; have := hl'.1 s hs; rw [less_irr] at this; cases this
      · exact e
    · rcases List.mem_cons.1 ((h s).2 (by simp [hs])) with e | e
      · subst e; have := hm'.1 s hs; rw [less_irr] at this; cases this
      · exact e
theorem strict_of_sorted {d : List Sight} (hn : d.Nodup) (hs : ∀ i j (hi : i < d.length) (hj : j < d.length), i < j → lessS d[j] d[i] = false) : Strict d := by
  unfold Strict
  rw [List.pairwise_iff_getElem]
  intro i j hi hj hij
  rcases less_tri d[i] d[j] with h | h | h
  · exact h
  · exact absurd h ((List.pairwise_iff_getElem.1 hn) i j hi hj hij)
  · rw [hs i j hi hj hij] at h; cases h
/-- An event: its sight, and the records that it needs. -/
structure Ev where
  s : Sight
  needs : List Int
deriving Inhabited
def sureB (ws : List (List Int)) (e : Ev) : Bool := ws.all fun w => w.all fun n => !decide (n ∈ e.needs)
def IsSeen (es : List Ev) (ws : List (List Int)) (s : Sight) : Prop := ws ≠ [] ∧ ∃ e ∈ es, e.s = s ∧ sureB ws e = true
/-- What is seen. -/
def Seen (es : List Ev) (ws : List (List Int)) (l : List Sight) : Prop := Strict l ∧ ∀ s, s ∈ l ↔ IsSeen es ws s
theorem seen_ext {es : List Ev} {ws : List (List Int)} {l m : List Sight} (h : Seen es ws l) (k : Seen es ws m) : l = m :=
  strict_ext h.1 k.1 fun s => (h.2 s).trans (k.2 s).symm
/-- The sights that are found, one after the other. -/
def fnd (ws : List (List Int)) (acc : List Sight) (e : Ev) : List Sight := if e.s ∈ acc then acc else if sureB ws e = true then acc ++ [e.s] else acc
def fnds (ws : List (List Int)) (es : List Ev) : List Sight := es.foldl (fnd ws) []
theorem fnd_mem (ws : List (List Int)) (acc : List Sight) (e : Ev) (s : Sight) : s ∈ fnd ws acc e ↔ s ∈ acc ∨ (e.s = s ∧ sureB ws e = true) := by
  unfold fnd
  split
  · rename_i h
    exact ⟨.inl, fun h' => h'.elim id fun ⟨e', _⟩ => e' ▸ h⟩
  · split
    · rename_i h
      simp [h, eq_comm]
    · rename_i h
      simp [h]
theorem fnd_nodup (ws : List (List Int)) (acc : List Sight) (e : Ev) (h : acc.Nodup) : (fnd ws acc e).Nodup := by
  unfold fnd
  split
  · exact h
  · split
    · rename_i h1 _
      rw [List.nodup_append]
      exact ⟨h, by simp, fun a ha b hb => by rw [List.mem_singleton.1 hb]; exact fun e => h1 (e ▸ ha)⟩
    · exact h
theorem fnds_mem' (ws : List (List Int)) : ∀ (es : List Ev) (acc : List Sight) (s : Sight), s ∈ es.foldl (fnd ws) acc ↔ s ∈ acc ∨ ∃ e ∈ es, e.s = s ∧ sureB ws e = true
  | [], acc, s => by simp
  | e :: es, acc, s => by
    rw [List.foldl_cons, fnds_mem' ws es, fnd_mem]
    simp only [List.mem_cons, exists_eq_or_imp, or_assoc]
theorem fnds_nodup' (ws : List (List Int)) : ∀ (es : List Ev) (acc : List Sight), acc.Nodup → (es.foldl (fnd ws) acc).Nodup
  | [], _, h => h
  | e :: es, acc, h => fnds_nodup' ws es _ (fnd_nodup ws acc e h)
theorem fnds_mem (ws : List (List Int)) (es : List Ev) (s : Sight) : s ∈ fnds ws es ↔ ∃ e ∈ es, e.s = s ∧ sureB ws e = true := by
  unfold fnds; rw [fnds_mem']; simp
theorem fnds_nodup (ws : List (List Int)) (es : List Ev) : (fnds ws es).Nodup := fnds_nodup' ws es [] List.nodup_nil
theorem seen_of {ws : List (List Int)} {es : List Ev} {l : List Sight} (hw : ws ≠ []) (hs : Strict l) (hm : ∀ s, s ∈ l ↔ s ∈ fnds ws es) : Seen es ws l :=
  ⟨hs, fun s => by rw [hm, fnds_mem]; exact ⟨fun h => ⟨hw, h⟩, fun h => h.2⟩⟩
theorem seen_none (es : List Ev) : Seen es [] [] := ⟨List.Pairwise.nil, fun s => by simp [IsSeen]⟩
/-- The reference's insertion. -/
def cutB (s : Sight) (l : List Sight) : List Sight := l.takeWhile fun x => lessS x s
theorem ins_strict {l : List Sight} {s : Sight} {k : Nat} (hl : Strict l) (hk : k ≤ l.length) (h1 : ∀ i (hi : i < l.length), i < k → lessS l[i] s = true) (h2 : ∀ (hk : k < l.length), lessS l[k] s = false) (h3 : ∀ (hk : k < l.length), l[k] ≠ s) : Strict (l.take k ++ [s] ++ l.drop k) := by
  unfold Strict at *
  rw [List.pairwise_append, List.pairwise_append]
  have hge : ∀ b ∈ l.drop k, lessS s b = true := by
    intro b hb
    by_cases hlt : k < l.length
    · have hc := List.drop_eq_getElem_cons hlt
      have hp := (hl.sublist (List.drop_sublist k l))
      rw [hc] at hb hp
      have hs : lessS s l[k] = true := by
        rcases less_tri s l[k] with h | h | h
        · exact h
        · exact absurd h.symm (h3 hlt)
        · rw [h2 hlt] at h; cases h
      rcases List.mem_cons.1 hb with rfl | hb
      · exact hs
      · exact less_trans hs ((List.pairwise_cons.1 hp).1 b hb)
    · rw [List.drop_of_length_le (by omega)] at hb; cases hb
  have hle : ∀ a ∈ l.take k, lessS a s = true := by
    intro a ha
    obtain ⟨i, hi, rfl⟩ := List.getElem_of_mem ha
    rw [List.getElem_take]
    rw [List.length_take] at hi
    exact h1 i (by omega) (by omega)
  refine ⟨⟨hl.sublist (List.take_sublist k l), by simp, fun a ha b hb => by rw [List.mem_singleton.1 hb]; exact hle a ha⟩, hl.sublist (List.drop_sublist k l), fun a ha b hb => ?_⟩
  rcases List.mem_append.1 ha with ha | ha
  · exact less_trans (hle a ha) (hge b hb)
  · rw [List.mem_singleton.1 ha]; exact hge b hb
theorem ins_mem {l : List Sight} {s : Sight} {k : Nat} (x : Sight) : x ∈ l.take k ++ [s] ++ l.drop k ↔ x ∈ l ∨ x = s := by
  conv => rhs; rw [← List.take_append_drop k l]
  simp only [List.mem_append, List.mem_singleton]
  constructor <;> (intro h; rcases h with (h | h) | h <;> simp [h])
end Go.Proofs.Ytpmogdddngbneaa
