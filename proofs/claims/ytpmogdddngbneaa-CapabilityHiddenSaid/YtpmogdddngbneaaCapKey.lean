/-
  Sights as keys of a map: what they read as; sets of sights and of numbers.
-/
import Derived.Test.YtpmogdddngbneaaCapSum
import Derived.Maps.OwnSet
import Derived.Maps.RangeWalk
import Derived.DeepKeys4
namespace Go.Proofs.Ytpmogdddngbneaa
open Go.RowKit Go.Maps

structure Sight where
  o : Int
  lo : Int
  hi : Int
deriving DecidableEq, Inhabited
def Sight.ok (s : Sight) : Prop := I64 s.o ∧ I64 s.lo ∧ I64 s.hi
def encS (s : Sight) : List Value := [iV s.o, iV s.lo, iV s.hi]
abbrev gV (s : Sight) : Value := .agg #[iV s.o, iV s.lo, iV s.hi]
theorem laidOutB_ : laidOutB Try.prog = true := by kernel_rfl
theorem lawS : Keyed Try.prog 39 := Keyed.of_law (deep_law_laid laidOutB_ (m := 3) (by decide) (of_decide_eq_true (by kernel_rfl)) (by kernel_rfl) (by kernel_rfl))
theorem lawI : Keyed Try.prog 3 := int_keyed Try.underlying3
theorem zeroB (w : World) : (zeroValue 4).run Try.prog w = .ok (.bool false) w := by kernel_rfl
def skey (s : Sight) : Lit := .string (keyBytes [.int .i64 s.o, .int .i64 s.lo, .int .i64 s.hi])
theorem cellsS : Try.prog.cellsOf 39 = 3 := by kernel_rfl
theorem cellsI : Try.prog.cellsOf 3 = 1 := by kernel_rfl
theorem keyTypeS : Try.prog.keyType 39 = true := by kernel_rfl
theorem wf64 {n : Int} (h : I64 n) : (Lit.int .i64 n).wf = true := by
  unfold I64 at h
  simp [Lit.wf, IntKind.min, IntKind.max, IntKind.bits, IntKind.signed]
  omega
theorem i64_wf {n : Int} (h : (Lit.int .i64 n).wf = true) : I64 n := by
  unfold I64
  simp [Lit.wf, IntKind.min, IntKind.max, IntKind.bits, IntKind.signed] at h
  omega
theorem tsize : Try.prog.types.size + 1 = (Try.prog.types.size - 1) + 1 + 1 := by
  have : Try.prog.types.size = 105 := by kernel_rfl
  omega
theorem int_lits {d : Nat} {n : Int} (h : I64 n) : Try.prog.keyLits (d + 1) 3 [iV n] = some [.int .i64 n] := by
  have w := wf64 h
  unfold Program.keyLits
  simp [Try.underlying3, w]
theorem keyOf_s {s : Sight} (h : s.ok) : keyOf Try.prog 39 (gV s) = some (skey s) := by
  obtain ⟨h1, h2, h3⟩ := h
  unfold keyOf
  simp only [Try.underlying39, keyTypeS]
  rw [if_pos (by simp [Value.formed, Try.underlying39, cellsS]), tsize]
  generalize Try.prog.types.size - 1 = d
  unfold Program.keyLits
  simp only [Try.underlying39, Value.cells]
  rw [if_pos ⟨by rw [cellsS]; rfl, by simp⟩]
  simp only [List.mapM_cons, List.mapM_nil, cellsI, List.drop_succ_cons, List.drop_zero, List.take_succ_cons, List.take_zero, int_lits h1, int_lits h2, int_lits h3]
  rfl
theorem skey_isKey (s : Sight) : WideAt.IsKeyLit (skey s) := trivial
theorem skey_inj {s t : Sight} (hs : s.ok) (ht : t.ok) (h : skey s = skey t) : s = t := by
  have e := lawS.inj (keyOf_s hs) (h ▸ keyOf_s ht)
  cases s; cases t
  simpa using e
theorem skey_same {s t : Sight} (hs : s.ok) (ht : t.ok) : (skey s).sameKey (skey t) = decide (s = t) := by
  by_cases e : s = t
  · subst e; rw [WideAt.sameKey_self (skey_isKey s)]; simp
  · rw [sameKey_ne (fun h => e (skey_inj hs ht h))]; simp [e]
theorem int_inv {d : Nat} {cs : List Value} {L : List Lit} (h : Try.prog.keyLits (d + 1) 3 cs = some L) : ∃ n, cs = [iV n] ∧ I64 n ∧ L = [.int .i64 n] := by
  unfold Program.keyLits at h
  simp only [Try.underlying3] at h
  rcases cs with _ | ⟨c, _ | ⟨c2, cs⟩⟩
  · simp at h
  · cases c <;> simp at h
    obtain ⟨⟨rfl, hw⟩, rfl⟩ := h
    exact ⟨_, rfl, i64_wf hw, rfl⟩
  · simp at h
theorem key_inv {key : Value} {kl : Lit} (h : keyOf Try.prog 39 key = some kl) : ∃ s : Sight, key = gV s ∧ s.ok ∧ kl = skey s := by
  obtain ⟨xs, L, rfl, hL, rfl⟩ := keyOf_top (by kernel_rfl) h
  rw [tsize] at hL
  unfold Program.keyLits at hL
  simp only [Try.underlying39] at hL
  split at hL
  · rename_i hc
    rw [cellsS] at hc
    obtain ⟨xs⟩ := xs
    simp only at hc
    rcases xs with _ | ⟨a, _ | ⟨b, _ | ⟨c, _ | ⟨d, xs⟩⟩⟩⟩
    all_goals simp at hc
    generalize Try.prog.types.size - 1 = d at hL
    simp only [List.mapM_cons, List.mapM_nil, cellsI, List.drop_succ_cons, List.drop_zero, List.take_succ_cons, List.take_zero, Option.map_eq_some_iff, Option.bind_eq_some_iff, Option.bind_eq_bind, Option.pure_def, Option.some.injEq] at hL
    obtain ⟨M, ⟨La, ha, M2, ⟨Lb, hb, M3, ⟨Lc, hc3, M4, rfl, rfl⟩, rfl⟩, rfl⟩, rfl⟩ := hL
    obtain ⟨n1, e1, g1, rfl⟩ := int_inv ha
    obtain ⟨n2, e2, g2, rfl⟩ := int_inv hb
    obtain ⟨n3, e3, g3, rfl⟩ := int_inv hc3
    cases e1; cases e2; cases e3
    exact ⟨⟨n1, n2, n3⟩, rfl, ⟨g1, g2, g3⟩, rfl⟩
  · cases hL
/-- 'm[k]' at elements that are bools. -/
theorem wpList_lookup_own_bool {H : Type} {P : Program} (w : World) {ops : Array Oper} {rest : List Oper} {o : Oper} {a : Act} {Q : Exit → Act → World → Prop}
    (hg : o.guard = none) (m x : Operand) (t : TypeId) (hop : o.op = Op.lookup t m x false)
    (k e : TypeId) (K : Keyed P k) (ht : P.underlying t = some (.map k e)) (he : P.underlying e = some .bool) (hz : (zeroValue e).run P w = .ok (.bool false) w) (b n : Nat) (D : DataW H)
    (hm : a.eval m = .map (some b)) (hown : w.ownsMap P k (plainElem P e) b n D) (key : Value) (kl : Lit) (hx : a.eval x = key) (hkey : keyOf P k key = some kl) (c : Bool) (hc : D.atKey kl (.lit (.bool false)) = .lit (.bool c))
    (hK : wpList P ops Q rest (a.put o.dst (.bool c)) w) :
    wpList P ops Q (o :: rest) a w := by
  refine wpList_plain hg fun K' hK' => ?_
  obtain ⟨v, ps, hrun, hv⟩ := hown.lookup K ht hz (plainElem_bool he false) hkey
  have ev : v = .bool c := by
    rw [hc] at hv
    unfold plainElem at hv
    rw [he] at hv
    cases v <;> simp at hv
    rw [hv.1]
  subst ev
  unfold Oper.wp
  simp [execOp, hop, hm, hx, hrun, Result.andThen]
  exact hK' _ _ hK
/-- A set of sights, of numbers. -/
def setD (ks : List Lit) : DataW Unit := setOf (.lit (.bool true)) ks
theorem fold_at (d z : DataW Unit) (k : Lit) (h0 : WideAt.IsKeyLit k) : ∀ (acc : List Lit) (m : DataW Unit), IsMap m → (acc.foldl (fun m x => m.put x d) m).atKey k z = if acc.any (fun x => x.sameKey k) then d else m.atKey k z
  | [], m, _ => by simp
  | x :: acc, m, hm => by
    rw [List.foldl_cons, fold_at d z k h0 acc _ (hm.put x d), List.any_cons]
    by_cases e : k = x
    · subst e
      rw [atKey_put_same hm h0, WideAt.sameKey_self h0]
      simp
    · rw [atKey_put_other e, sameKey_ne (fun h => e h.symm)]
      simp
theorem setD_at (ks : List Lit) (k : Lit) (h0 : WideAt.IsKeyLit k) : (setD ks).atKey k (.lit (.bool false)) = .lit (.bool (ks.any (fun x => x.sameKey k))) := by
  unfold setD setOf
  rw [fold_at _ _ k h0 ks _ isMap_empty]
  cases ks.any (fun x => x.sameKey k) <;> rfl
theorem setD_snoc (ks : List Lit) (x : Lit) : setD (ks ++ [x]) = (setD ks).put x (.lit (.bool true)) := setOf_snoc _ ks x
theorem has_setD (ks : List Lit) (hk : ∀ x ∈ ks, WideAt.IsKeyLit x) (k : Lit) : has (setD ks) k = ks.any (fun x => x.sameKey k) := has_setOf _ k ks hk
def sset (ks : List Sight) : DataW Unit := setD (ks.map skey)
def iset (ns : List Int) : DataW Unit := setD (ns.map fun n => .int .i64 n)
theorem skeys (ks : List Sight) : ∀ x ∈ ks.map skey, WideAt.IsKeyLit x := fun x hx => by obtain ⟨_, _, rfl⟩ := List.mem_map.1 hx; trivial
theorem ikeys (ns : List Int) : ∀ x ∈ ns.map (fun n => Lit.int .i64 n), WideAt.IsKeyLit x := fun x hx => by obtain ⟨_, _, rfl⟩ := List.mem_map.1 hx; trivial
theorem sset_any {ks : List Sight} {s : Sight} (hk : ∀ x ∈ ks, x.ok) (hs : s.ok) : (ks.map skey).any (fun x => x.sameKey (skey s)) = decide (s ∈ ks) := by
  induction ks with
  | nil => simp
  | cons x ks ih =>
    rw [List.map_cons, List.any_cons, ih (fun y hy => hk y (by simp [hy])), skey_same (hk x (by simp)) hs]
    by_cases e : x = s
    · simp [e]
    · simp [e, Ne.symm e]
theorem sset_at {ks : List Sight} {s : Sight} (hk : ∀ x ∈ ks, x.ok) (hs : s.ok) : (sset ks).atKey (skey s) (.lit (.bool false)) = .lit (.bool (decide (s ∈ ks))) := by
  unfold sset
  rw [setD_at _ _ (skey_isKey s), sset_any hk hs]
theorem iset_at (ns : List Int) (n : Int) : (iset ns).atKey (.int .i64 n) (.lit (.bool false)) = .lit (.bool (decide (n ∈ ns))) := by
  unfold iset
  rw [setD_at _ (.int .i64 n) trivial]
  congr 3
  induction ns with
  | nil => simp
  | cons x ns ih =>
    rw [List.map_cons, List.any_cons, ih]
    by_cases e : x = n
    · subst e; simp [Lit.sameKey]
    · simp [Lit.sameKey, e, Ne.symm e]
end Go.Proofs.Ytpmogdddngbneaa
