/-
  What the cards of this seat share: the key words out of the row's list, the variable that only its shape is known of, a world for the witness; the opening of a list of numbers.
-/
import Derived.Test.YtjpabeoflhkfkaaGreatDoorCards
import Derived.Test.YtjpabeoflhkfkaaGreatDoorTie
import Derived.Test.YtjpabeoflhkfkaaGreatDoorPv
import Derived.Test.YtjpabeoflhkfkaaGreatDoorWarOwn
import Derived.Lib.LaidTab
import Derived.Shelf.Vars
namespace Go.Proofs.YtjpabeoflhkfkaaGreatDoor
open Go.ChangeShapes Go.WideShapes Go.ChangeAt Go.RowKit Go.WideMaps Go.WideElems
open Go.ChangeMaps (open_string shut_string)

theorem gKey : Tryz.prog.globalNamed "postilion/survey.keyWords" = some 0 := by kernel_rfl
theorem gKeyType : (Tryz.prog.globals[0]?).map (·.type) = some 196 := by kernel_rfl
theorem cellsKey : Tryz.prog.cellsOf 196 = 17 := by kernel_rfl
/-- An array of strings that reads as a table of strings holds them, cell for cell. -/
theorem cells_of_strs {H : Type} {enc : TypeId × Value → H} {P : Program} {w : World} {base : Nat} {sp : Nat → Bool} {held : Bool} {fuel : Nat} {t e : TypeId} {n : Nat} {cs : List Value} {zs : List (List UInt8)} {p : List MemPlace}
    (ht : P.underlying t = some (.array n e)) (he : P.underlying e = some .string) (hce : P.cellsOf e = 1) (hct : P.cellsOf t = n)
    (h : DataW.trod enc P w base sp held fuel t cs = some (.agg (zs.map fun z => .lit (.string z)), p)) : cs = zs.map fun z => Value.string ⟨z.toArray⟩ := by
  cases fuel with
  | zero => simp [DataW.trod] at h
  | succ fuel =>
    simp only [DataW.trod, ht, hce, hct, Nat.mul_one] at h
    split at h
    · rename_i hl
      obtain ⟨xs, hm, hx⟩ := Option.map_eq_some_iff.1 h
      have hxs : xs.map (·.1) = zs.map fun z => (DataW.lit (.string z) : DataW H) := by
        have := congrArg Prod.fst hx
        simpa using this
      have hxl : xs.length = n := by simpa using Lib.mapM_length hm
      have hzl : zs.length = n := by
        have := congrArg List.length hxs
        simp at this
        omega
      apply List.ext_getElem?
      intro i
      by_cases hi : i < n
      · obtain ⟨b, hb, hf⟩ := Lib.mapM_at hm i i (by simp [hi])
        obtain ⟨z, hc, rfl, _⟩ := DataW.trod_string he hf
        have h1 : cs[i]? = some (.string z) := by
          have := congrArg (·[0]?) hc
          simpa [List.getElem?_take, List.getElem?_drop] using this
        have h2 : (xs.map (·.1))[i]? = some (DataW.lit (.string z.data.toList) : DataW H) := by simp [hb]
        rw [hxs] at h2
        simp only [List.getElem?_map, Option.map_eq_some_iff, DataW.lit.injEq, Lit.string.injEq] at h2
        obtain ⟨z', hz', hzz⟩ := h2
        rw [h1, List.getElem?_map, hz', ba_of_list hzz.symm]
        rfl
      · rw [List.getElem?_eq_none (by omega), List.getElem?_eq_none (by simp; omega)]
    · cases h
/-- The list of this seat's rows. -/
abbrev laid8 : List (String × DataW Unit) := [("math/bits.deBruijn32tab", Rows.laid_math_bits_deBruijn32tab), ("math/bits.deBruijn64tab", Rows.laid_math_bits_deBruijn64tab), ("internal/strconv.uint64pow10", Rows.laid_internal_strconv_uint64pow10), ("unicode/utf8.acceptRanges", Rows.laid_unicode_utf8_acceptRanges), ("postilion/survey.keyWords", Rows.laid_postilion_survey_keyWords), ("unicode/utf8.first", Rows.laid_unicode_utf8_first)]
theorem noHandles : laid8.filter (fun x => x.2.handleName?.isSome) = [] := by kernel_rfl
/-- What the row's list gives: the key words lie in their variable. -/
theorem kw_of_laid {W : World} (h : laidMetH Tryz.prog laid8 W) : KW W := by
  have h' : laidMet Tryz.prog laid8 W := by
    unfold laidMetH at h
    rw [noHandles] at h
    exact h
  obtain ⟨ps, ⟨_, _, _, _, _, q1, _, _, _, _, h1, _⟩, _⟩ := h'
  obtain ⟨_, _, _, _, _, q2, _, _, _, _, h2, _⟩ := h1
  obtain ⟨_, _, _, _, _, q3, _, _, _, _, h3, _⟩ := h2
  obtain ⟨_, _, _, _, _, q4, _, _, _, _, h4, _⟩ := h3
  obtain ⟨g', t', cs, fuel, p, q, hg', ht', hvar, hd, _, _⟩ := h4
  obtain rfl := Option.some.inj (gKey.symm.trans hg')
  obtain rfl := Option.some.inj (gKeyType.symm.trans ht')
  have hcs := cells_of_strs (zs := kwL) Tryz.underlying196 Tryz.underlying9 cell_str cellsKey hd
  unfold World.var? at hvar
  rw [gKey] at hvar
  simp only [Option.bind_some] at hvar
  split at hvar
  · rename_i cs' t fr hh
    have : cs' = kwA := by
      have := Option.some.inj hvar
      rw [this]
      cases cs
      simp at hcs
      rw [hcs]
      rfl
    rw [this] at hh
    exact ⟨t, fr, hh⟩
  · cases hvar
/-- What the world's shape gives: that variable holds some int. -/
theorem max_of_shaped {W : World} (h : W.ShapedOpen Tryz.prog) : ∃ m : Int, W.cell? ⟨1, 0, none⟩ = some (iV m) :=
  cell_of_shapedOpen_int (zero := #[.int .i64 0]) (t := 3) h (of_decide_eq_true (by kernel_rfl)) (by kernel_rfl) rfl (by kernel_rfl) (by kernel_rfl) Tryz.underlying3
/-- The cells of a datum of literals. -/
def cellsD : Nat → DataW Unit → List Value
  | _ + 1, .lit (.int k x) => [.int k x]
  | _ + 1, .lit (.string bs) => [.string ⟨bs.toArray⟩]
  | n + 1, .agg l => l.flatMap (cellsD n)
  | _, _ => []
def layAt (h : Array Obj) (g : Nat) (d : DataW Unit) : Array Obj := h.modify g fun
  | .cells _ t frozen => .cells (cellsD 4 d).toArray t frozen
  | o => o
def lay1 (h : Array Obj) : Array Obj := layAt h 5 Rows.laid_math_bits_deBruijn32tab
def lay2 (h : Array Obj) : Array Obj := layAt h 6 Rows.laid_math_bits_deBruijn64tab
def lay3 (h : Array Obj) : Array Obj := layAt h 2 Rows.laid_internal_strconv_uint64pow10
def lay4 (h : Array Obj) : Array Obj := layAt h 4 Rows.laid_unicode_utf8_acceptRanges
def lay5 (h : Array Obj) : Array Obj := layAt h 0 Rows.laid_postilion_survey_keyWords
def lay6 (h : Array Obj) : Array Obj := layAt h 3 Rows.laid_unicode_utf8_first
/-- A world for the witness: the settled one, the variables holding what their initialisers lay. -/
noncomputable def laidWorld (os : Os) : World :=
  { World.holding Tryz.prog os ⟨#[], #[], []⟩ with heap := lay6 (lay5 (lay4 (lay3 (lay2 (lay1 (World.holding Tryz.prog os ⟨#[], #[], []⟩).heap))))) }
section
variable {H : Type} {enc : TypeId × Value → H} {W : World}
end
end Go.Proofs.YtjpabeoflhkfkaaGreatDoor
