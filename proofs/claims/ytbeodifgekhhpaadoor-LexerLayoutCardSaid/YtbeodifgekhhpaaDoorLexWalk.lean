/-
  The walk over lexer.Lex.
-/
import Derived.Test.YtbeodifgekhhpaaDoorLexLeaf2
import Derived.BigQuiet
import Derived.Deep.QuietTactic
import Derived.Deep.Draws
import Derived.Deep.LoopGhost
import Derived.StillTailTactics
import Derived.Laws.EntriesVeiled
import Derived.Deep.RegionHeld3
import Derived.Deep.AppendLies
namespace Go.Proofs.YtbeodifgekhhpaaDoor
open Go.RowKit
open Lex (skipF)
attribute [local go_sem] ba_get ba_extract ba_append

/-- The cells of a list of tokens. -/
def toksCells (ts : List Lex.Tok) : List Value := ts.flatMap tokCells
/-- What Lex leaves. -/
def LexPost (l : List UInt8) (w : World) (e : Ending) (w' : World) : Prop :=
  Below w.heap.size w w' ∧ match Lex.lexF l with
    | .error (n, off) => e = .returned (.tuple #[.slice none 0 0, .int .i64 n, .int .i64 off])
    | .ok ts => ∃ v, e = .returned (.tuple #[v, .int .i64 0, .int .i64 (-1)]) ∧ w'.ownsRow w.heap.size 31 3 v ts.length (toksCells ts)
def kindCells : Array Value := #[.int .i64 2, .func (.func 22) #[] #[], .int .i64 1, .func (.func 23) #[] #[], .int .i64 4, .func (.func 24) #[] #[], .int .i64 3, .func (.func 25) #[] #[]]
/-- What holds at the head of Lex's loop (g: rounds that are left). -/
def LexInv (l : List UInt8) (w : World) (g : Nat) (tk at_ : Value) (wr : World) : Prop :=
  ∃ (k : Nat) (ts : List Lex.Tok), at_ = .int .i64 k ∧ k ≤ l.length ∧ l.length - k < g ∧ ts.length ≤ 3000 ∧ Below w.heap.size w wr ∧
    wr.heap[w.heap.size]? = some (.cells kindCells 45 (0, 0)) ∧ wr.ownsRow (w.heap.size + 1) 31 3 tk ts.length (toksCells ts) ∧ Lex.lexF l = Lex.lexAcc l g k ts
def kindNo : Nat → Nat | 0 => 2 | 1 => 1 | 2 => 4 | _ => 3
def kindFn : Nat → Nat | 0 => 22 | 1 => 23 | 2 => 24 | _ => 25
def kindLen (r : List UInt8) : Nat → Nat | 0 => Lex.numLen r | 1 => Lex.nameLen r | 2 => Lex.textLen r | _ => Lex.symLen r
theorem kind_any (j : Nat) (r : List UInt8) (w : World) (hr : 0 < r.length) (hl : r.length ≤ 100000) (hS : Syms w) :
    Calls Tryd.prog (kindFn j) #[.string ⟨r.toArray⟩] w fun e w' => e = .returned (.int .i64 (kindLen r j)) ∧ w = w' := by
  obtain ⟨c, r', rfl⟩ : ∃ c r', r = c :: r' := by cases r with | nil => simp at hr | cons c r' => exact ⟨c, r', rfl⟩
  match j with
  | 0 => exact numberLength_any _ _ hl
  | 1 => exact nameLength_any _ _ _ hl
  | 2 => exact textLength_any _ _ _ hl
  | _ + 3 => exact symbolLength_any _ _ hS
theorem kindLen_le (r : List UInt8) (j : Nat) : kindLen r j ≤ r.length := by
  match j with
  | 0 => exact Lex.numLen_le _
  | 1 => exact Lex.nameLen_le _
  | 2 => exact (Lex.textLen_le _).1
  | _ + 3 => exact Lex.symLen_le _
theorem kind_cell {w : World} {B j : Nat} {t : TypeId} (h : w.heap[B]? = some (.cells kindCells t (0, 0))) (hj : j < 4) :
    w.cell? ⟨B, j * 2, none⟩ = some (.int .i64 (kindNo j)) ∧ w.cell? ⟨B, j * 2 + 1, none⟩ = some (.func (.func (kindFn j)) #[] #[]) := by
  rw [cell_of_row w B _ _ t (0, 0) h, cell_of_row w B _ _ t (0, 0) h]
  have : j = 0 ∨ j = 1 ∨ j = 2 ∨ j = 3 := by omega
  rcases this with rfl | rfl | rfl | rfl <;> exact ⟨rfl, rfl⟩

theorem tokInfo : (Tryd.prog.info? 31).map (fun i => (i.zero, i.size, i.bytes)) = some (some (.agg #[.int .i64 0, .string ByteArray.empty, .int .i64 0]), 3, 32) := by kernel_rfl
theorem run_kind (j : Nat) (args : Array Value) (w : World) : (callFunc (kindFn j) args).run Tryd.prog w = .ok (.enter (kindFn j) args) w := by
  match j with
  | 0 => simp [go_sem, kindFn]
  | 1 => simp [go_sem, kindFn]
  | 2 => simp [go_sem, kindFn]
  | _ + 3 => simp [go_sem, kindFn]
theorem Syms.alloc {w : World} (h : Syms w) (o : Obj) : Syms (w.alloc o) := by
  obtain ⟨t, fr, h⟩ := h
  exact ⟨t, fr, by rw [Below.heap_alloc _ _ _ (Array.getElem?_eq_some_iff.1 h).1]; exact h⟩
theorem Syms.drewN {w : World} (h : Syms w) (n : Nat) : Syms (w.drewN n) := h
theorem block_lt {w : World} {b : Nat} {o : Obj} (h : w.heap[b]? = some o) : b < w.heap.size := by
  rcases Nat.lt_or_ge b w.heap.size with hlt | hge
  · exact hlt
  · rw [Array.getElem?_eq_none hge] at h; cases h
theorem tokLen_none (r : List UInt8) (h : ∀ i, i < 4 → kindLen r i = 0) : Lex.tokLen r = none := by
  have h0 : Lex.numLen r = 0 := h 0 (by omega)
  have h1 : Lex.nameLen r = 0 := h 1 (by omega)
  have h2 : Lex.textLen r = 0 := h 2 (by omega)
  have h3 : Lex.symLen r = 0 := h 3 (by omega)
  simp [Lex.tokLen, h0, h1, h2, h3]
theorem tokLen_some (r : List UInt8) (j : Nat) (hj : j < 4) (h : ∀ i, i < j → kindLen r i = 0) (hp : 0 < kindLen r j) : Lex.tokLen r = some (kindNo j, kindLen r j) := by
  have : j = 0 ∨ j = 1 ∨ j = 2 ∨ j = 3 := by omega
  rcases this with rfl | rfl | rfl | rfl
  · have hp : 0 < Lex.numLen r := hp
    simp [Lex.tokLen, hp, kindNo, kindLen]
  · have h0 : Lex.numLen r = 0 := h 0 (by omega)
    have hp : 0 < Lex.nameLen r := hp
    simp [Lex.tokLen, h0, hp, kindNo, kindLen]
  · have h0 : Lex.numLen r = 0 := h 0 (by omega)
    have h1 : Lex.nameLen r = 0 := h 1 (by omega)
    have hp : 0 < Lex.textLen r := hp
    simp [Lex.tokLen, h0, h1, hp, kindNo, kindLen]
  · have h0 : Lex.numLen r = 0 := h 0 (by omega)
    have h1 : Lex.nameLen r = 0 := h 1 (by omega)
    have h2 : Lex.textLen r = 0 := h 2 (by omega)
    have hp : 0 < Lex.symLen r := hp
    simp [Lex.tokLen, h0, h1, h2, hp, kindNo, kindLen]

set_option maxHeartbeats 1000000 in
theorem lex_any (l : List UInt8) (w : World) (hl : l.length ≤ 100000) (hS : Syms w) :
    Calls Tryd.prog 12 #[.string ⟨l.toArray⟩] w (LexPost l w) := by
  by_cases h8 : l.length ≤ 8000
  · have h8' : decide (8000 < (l.length : Int)) = false := by simp; omega
    have h8'' : decide (8000 < l.length) = false := by simp; omega
    have HS := Lib.hid hS; clear hS
    go_enter Tryd.func12, Tryd.ntmps12
    go_wp2
    go_step3
    go_wp2
    go_step3
    go_wp2
    go_loopg [6, 7] (l.length + 1) (fun g tk at_ wr => LexInv l w g tk at_ wr)
    case atStart =>
      refine ⟨0, [], rfl, Nat.zero_le _, by omega, by simp, (Below.refl _ _).alloc (Nat.le_refl _) _, heap_alloc_new w _, World.ownsRow_nil _ _ _ _, ?_⟩
      unfold Lex.lexF
      rw [if_neg (by omega)]
    case round =>
      obtain ⟨k, ts, rfl, hk, hkg, hts, hbel, hkind, hown, hF⟩ := hrel
      have HF := Lib.hid hF; clear hF
      have HK := Lib.hid hkind; clear hkind
      have HO := Lib.hid hown; clear hown
      have hk1 := Lex.skipF_ge l k
      have hk2 := Lex.skipF_le l k hk
      obtain ⟨A, c, rfl⟩ := own_form HO.out
      obtain ⟨q, hq⟩ : ∃ q, q = skipF l k := ⟨_, rfl⟩
      have HQ := Lib.hid hq
      rw [← hq] at hk1 hk2
      have cS := skip_any l k wr hl hk
      rw [← hq] at cS
      have CS := Lib.hid cS
      clear cS hq
      by_cases hql : q = l.length
      · have hqb : ((q : Int) == (l.length : Int)) = true := by simp [hql]
        have HQL := Lib.hid hql; clear hql
        go_wp2_with (go_at_call 26; refine CS.out.mono ?_; rintro e w' ⟨rfl, rfl⟩)
        rw [Exit.noGoto_ret]
        go_ret3
        refine ⟨hbel, ?_⟩
        obtain ⟨g', rfl⟩ : ∃ g', gk = g' + 1 := ⟨gk - 1, by omega⟩
        rw [HF.out]
        unfold Lex.lexAcc
        rw [← HQ.out, if_pos HQL.out]
        exact ⟨_, rfl, own_base HO.out (by omega)⟩
      · have hqb : ((q : Int) == (l.length : Int)) = false := by simp; omega
        by_cases h3 : ts.length = 3000
        · have h3b : ((ts.length : Int) == 3000) = true := by simp [h3]
          have H3 := Lib.hid h3; clear h3
          go_wp2_with (go_at_call 26; refine CS.out.mono ?_; rintro e w' ⟨rfl, rfl⟩)
          try rw [Exit.noGoto_ret]
          go_ret3
          refine ⟨hbel, ?_⟩
          obtain ⟨g', rfl⟩ : ∃ g', gk = g' + 1 := ⟨gk - 1, by omega⟩
          rw [HF.out]
          unfold Lex.lexAcc
          rw [← HQ.out, if_neg hql, if_pos H3.out]
          rfl
        · have h3b : ((ts.length : Int) == 3000) = false := by simp; omega
          go_wp2_with (go_at_call 26; refine CS.out.mono ?_; rintro e w' ⟨rfl, rfl⟩)
          have hr0 : 0 < (l.drop q).length := by simp; omega
          have hr1 : (l.drop q).length ≤ 100000 := by simp; omega
          obtain ⟨wo, rfl⟩ : ∃ wo : World, wo = wr := ⟨_, rfl⟩
          obtain ⟨g1, rfl⟩ : ∃ g1, gk = g1 + 1 := ⟨gk - 1, by omega⟩
          go_loopg [6, 7, 32] 4 (fun g2 s6 s7 s32 wy => ∃ j : Nat, j + g2 = 4 ∧ s6 = .slice A ts.length c ∧ s7 = .int .i64 q ∧ s32 = .int .i64 j ∧ Below wo.heap.size wo wy ∧ Hid (∀ i, i < j → kindLen (l.drop q) i = 0))
          case atStart => exact ⟨0, rfl, rfl, rfl, rfl, Below.refl _ _, fun i hi => absurd hi (by omega)⟩
          case round =>
            obtain ⟨j, hjg, rfl, rfl, rfl, hbj, HJ⟩ := hrel
            cases gk with
            | zero =>
              have hj4 : ¬ ((j : Int) < 4) := by omega
              go_wp2
              try rw [Exit.noGoto_ret]
              go_ret3
              refine ⟨hbel.trans (hbj.mono hbel.size), ?_⟩
              rw [HF.out]
              unfold Lex.lexAcc
              rw [← HQ.out, if_neg hql, if_neg h3, tokLen_none _ (fun i hi => HJ.out i (by omega))]
              rfl
            | succ g2 =>
              have hj4 : (j : Int) < 4 := by omega
              have hKj : wr.heap[w.heap.size]? = some (.cells kindCells 45 (0, 0)) := by
                rw [hbj.block _ (by have := block_lt HK.out; omega)]; exact HK.out
              obtain ⟨hc1, hc2⟩ := kind_cell hKj (show j < 4 by omega)
              clear hKj
              go_wp2
              have hSy : Syms wr := HS.out.below ((hbel.trans (hbj.mono hbel.size))) (by have := block_lt HS.out.choose_spec.choose_spec; omega)
              have hsz := hbj.size
              have hsz0 := hbel.size
              have hkl := kindLen_le (l.drop q) j
              simp only [List.length_drop] at hkl
              go_wp2
              have hrun := run_kind j
              go_quiet ((refine quiet_left (kind_any _ _ _ (by simp; omega) (by simp; omega) ?_); exact (Syms.alloc hSy _).drewN _))
              clear hrun
              obtain ⟨n, hn⟩ : ∃ n, n = kindLen (l.drop q) j := ⟨_, rfl⟩
              rw [← hn] at hkl ⊢
              have HN := Lib.hid hn; clear hn
              have hWb : Below wo.heap.size wo ((wr.alloc (Obj.cells #[.int .i64 ↑(kindNo j), .func (.func (kindFn j)) #[] #[]] 45)).drewN nq) := below_drewN (hbj.alloc hbj.size _) _
              have hWc : ((wr.alloc (Obj.cells #[.int .i64 ↑(kindNo j), .func (.func (kindFn j)) #[] #[]] 45)).drewN nq).cell? ⟨wr.heap.size, 0, none⟩ = some (.int .i64 ↑(kindNo j)) := by
                show (wr.alloc _).cell? _ = _
                rw [cell_of_row _ _ _ _ _ _ (heap_alloc_new wr _)]; rfl
              have hWs : wr.heap.size < ((wr.alloc (Obj.cells #[.int .i64 ↑(kindNo j), .func (.func (kindFn j)) #[] #[]] 45)).drewN nq).heap.size := by
                show _ < (wr.heap.push _).size
                simp
              generalize ((wr.alloc (Obj.cells #[.int .i64 ↑(kindNo j), .func (.func (kindFn j)) #[] #[]] 45)).drewN nq) = W at hWb hWc hWs ⊢
              clear hc1 hc2 hSy
              by_cases hp : 0 < n
              · have hp' : (0 : Int) < (n : Int) := by omega
                have hqn : q + n ≤ l.length := by omega
                have hqn' : (q : Int) + (n : Int) ≤ (l.length : Int) := by omega
                have hwr : IntKind.i64.wrap ((q : Int) + (n : Int)) = (q : Int) + (n : Int) := IntWalk.i64_in _ (by omega)
                have hrowW : Hid (W.drew.ownsRow (w.heap.size + 1) 31 3 (.slice A ts.length c) ts.length (toksCells ts)) := Lib.hid (own_below HO.out hWb.drew)
                have hne : some wr.heap.size ≠ (Value.slice A ts.length c).ownBlock := fun he => by
                  have := (HO.out.lt _ he.symm).2; omega
                have hwo := block_lt HK.out
                have hWsz := hWb.size
                obtain ⟨i0, hi0, hz0, hz1, hz2⟩ := info_parts tokInfo
                have hqi : (0 : Int) ≤ (q : Int) := Int.natCast_nonneg _
                have hqm : (q : Int) ≤ (q : Int) + (n : Int) := by omega
                have hpc : Hid ((l.take (q + n)).drop q = (l.drop q).take n) := by
                  show _ = _
                  rw [List.drop_take]; congr 1; omega
                have hpl : ((l.take (q + n)).drop q).length = n := by rw [hpc.out]; simp; omega
                have hk4 : kindNo j = 4 → 2 ≤ ((l.take (q + n)).drop q).length := by
                  intro h4
                  rw [hpl]
                  have : j = 2 := by
                    have : j = 0 ∨ j = 1 ∨ j = 2 ∨ j = 3 := by omega
                    rcases this with rfl | rfl | rfl | rfl <;> simp [kindNo] at h4 ⊢
                  subst this
                  have := (Lex.textLen_le (l.drop q)).2
                  have hh := HN.out
                  simp only [kindLen] at hh
                  omega
                have hk9 : kindNo j ≤ 9 := by
                  have : j = 0 ∨ j = 1 ∨ j = 2 ∨ j = 3 := by omega
                  rcases this with rfl | rfl | rfl | rfl <;> simp [kindNo]
                have cT : ∀ W', Calls Tryd.prog 27 _ W' _ := fun W' => token_any (kindNo j) ((l.take (q + n)).drop q) q W' hk4 (by omega) hk9
                have CT := Lib.hid cT
                clear cT hk4 hpl
                go_wp2
                go_region_held3 (fun w' => w'.cell? ⟨wr.heap.size, 0, none⟩ = some (.int .i64 ↑(kindNo j)))
                  (first | go_keep | (rw [hbt.cell (p := ⟨wr.heap.size, 0, none⟩) hWs]; exact hWc) | (rw [hgrow.cell_far _ (by simp; have : W.heap.size ≤ w1.heap.size := hbt.size; omega) hne]; assumption))
                  (first
                    | (go_at_call 27; refine (CT.out _).mono ?_; rintro e w1 ⟨rfl, hbt⟩)
                    | (refine step_append_lies _ (by rfl) _ _ _ (by rfl) (w.heap.size + 1) 31 i0 _ 3 32 Tryd.underlying24 hi0 hz0 hz1 hz2 rfl (by omega) _ _ _ (by rfl) ((own_below hrowW.out hbt).alloc _) ⟨w1.heap.size, 0, none⟩ 1 1 (tokCells ⟨kindNo j, Lex.tokText (kindNo j) ((l.take (q + n)).drop q), q⟩) (by rfl) (by rfl) (World.news_of_block (t := 31) (fr := (0, 0)) (heap_alloc_new w1 _)) (by simp [Value.oneCell', tokCells]) (by omega) (by unfold maxLen; omega) (by omega) (by simp; have : W.heap.size ≤ w1.heap.size := hbt.size; omega) (w1.heap.size + 1) (by simp) ?_; intro gg cap w2 hown1 hgrow hat hlt))
                go_wp2
                go_roundg g1
                case measure => omega
                case rel =>
                  have hb1 : Below wo.heap.size wo w1 := hWb.drew.trans (Below.mono hbt hWsz)
                  have hw1s : wo.heap.size ≤ w1.heap.size := hb1.size
                  have hb2 : Below w.heap.size w w2 := by
                    refine ((hbel.trans (hb1.mono hbel.size)).alloc (by omega) _).grown hgrow (by simp; omega) ?_
                    intro g' hg'
                    have := (HO.out.lt _ hg').1; omega
                  refine ⟨q + n, ts ++ [⟨kindNo j, Lex.tokText (kindNo j) ((l.take (q + n)).drop q), q⟩], by go_num, hqn, by omega, by simp; omega, hb2, ?_, ?_, ?_⟩
                  · rw [hgrow.block _ (by simp; omega) (fun he => by have := (HO.out.lt _ he.symm).1; omega), Below.heap_alloc _ _ _ (by omega), hb1.block _ hwo]
                    exact HK.out
                  · simpa [toksCells] using hown1
                  · rw [HF.out]
                    rw [Lex.lexAcc, ← HQ.out, if_neg hql, if_neg h3, tokLen_some _ j (by omega) HJ.out (by rw [← HN.out]; exact hp), ← HN.out, hpc.out]
              · have hp' : ¬ (0 : Int) < (n : Int) := by omega
                go_wp2
                go_roundg g2
                case measure => omega
                case rel =>
                  refine ⟨j + 1, by omega, rfl, rfl, by first | rfl | simp, hWb, fun i hi => ?_⟩
                  rcases Nat.lt_or_ge i j with h | h
                  · exact HJ.out i h
                  · obtain rfl : i = j := by omega
                    rw [← HN.out]; omega
  · have h8' : 8000 < (l.length : Int) := by omega
    go_enter Tryd.func12, Tryd.ntmps12
    go_wp2
    go_step3
    go_wp2
    try rw [Exit.noGoto_ret]
    go_ret3
    refine ⟨Below.refl _ _, ?_⟩
    unfold Lex.lexF
    rw [if_pos (by omega)]
    rfl
end Go.Proofs.YtbeodifgekhhpaaDoor
