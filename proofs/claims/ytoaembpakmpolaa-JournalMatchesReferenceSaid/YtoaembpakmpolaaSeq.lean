/-
  A range over a function whose iterator keeps a state in a cell of its own, and yields a known list; a round may panic. The law for the plain walk.
-/
import Derived.Test.YtoaembpakmpolaaBase
import Derived.RangeFuncNested
import Derived.RangeFuncBound
import Derived.RangeFuncCalls
import Derived.RangeFuncLeaves
import Derived.Shelf.Abstract
import Derived.Shelf.RegionOpen
import Derived.OwnWalkIn
import Derived.TacticsInMore
import Derived.LoopNIn
import Derived.LoopIn
namespace Go.Proofs.Ytoaembpakmpolaa
open Go.RowKit

/-- What a round of a loop leaves: it goes on, or it panics. -/
def roundPostP (P : Program) (l : Nat) (f : FuncId) (R : Ending → World → Prop) : Exit → Act → World → Prop
  | .normal, _, w => ∃ v w', (Instr.endRound l none).run P w = .ok v w' ∧ R (.returned v) w'
  | .panic ch, a, w => a.defers = [] ∧ (∃ fn, P.funcs[f]? = some fn) ∧ R (.panicked ch) w
  | _, _, _ => False

theorem round_any {F : Fence} {n : Nat} {P : Program} {l : Nat} {f : FuncId} {tmps : Array Value} {assign body : Code} {w : World} {R : Ending → World → Prop} (hF : F.fn f)
    (h : assign.wpIn (F.inRound l) n P (Exit.then (fun a₁ w₁ => ∃ w₂, (Instr.beginRound l).run P w₁ = .ok () w₂ ∧ body.wpIn (F.inRound l) n P (roundPostP P l f R) a₁ w₂) (fun _ _ _ => False))
      { tmps := tmps, defers := [] } w) :
    RoundIn F n P l f tmps assign body w R := by
  refine ⟨hF, fun c cs hr => ?_⟩
  let b : Frame := { (default : Frame) with fn := f, kind := .normal, roundOf := some l }
  have hb0 : Frame.round l f tmps assign body .normal = b.atR { tmps := tmps, defers := [] } [.code assign, .beginRound, .code body] := by
    simp [Frame.round, Frame.atR, b]
  have hr' : (F.inRound l).room ((c :: cs).length + 1 + n) := hr
  have hF' : (F.inRound l).fn b.fn := hF
  obtain ⟨e, a₁, w₁, hq, harr⟩ := h b [.beginRound, .code body] (c :: cs) rfl hF' hr'
  rw [← hb0] at harr
  cases e with
  | normal =>
    obtain ⟨w₂, hbr, hbody⟩ := hq
    have s1 : StepsIn (Machine.fenced P (F.inRound l)) P (lone (b.atR a₁ [.beginRound, .code body]) (c :: cs) w₁) (lone (b.atR a₁ [.code body]) (c :: cs) w₂) :=
      .one (fenced_calm (fr := b.atR a₁ [.beginRound, .code body]) hF' hr' rfl) (stepR_beginRound rfl hbr)
    obtain ⟨e₂, a₂, w₃, hq₂, harr₂⟩ := hbody b [] (c :: cs) rfl hF' hr'
    cases e₂ with
    | normal =>
      obtain ⟨v, w₄, hend, hR⟩ := hq₂
      exact ⟨.returned v, w₄, hR, (StepsIn.trans harr s1).trans (StepsIn.trans harr₂ (.one (fenced_calm (fr := b.atR a₂ []) hF' hr' rfl) (stepR_round_end rfl rfl hend)))⟩
    | panic chain =>
      obtain ⟨hd, ⟨fn, hfn⟩, hR⟩ := hq₂
      obtain ⟨todo, hs⟩ := harr₂
      have hlv : ({ b.atR a₂ todo with mode := .panicking chain } : Frame).leaving P w₃ (.panicked chain) := ⟨rfl, hd, fn, hfn⟩
      have hl : (lone { b.atR a₂ todo with mode := .panicking chain } (c :: cs) w₃).fenced P (F.inRound l) := fenced_leaving (F := F.inRound l) hF hr' hlv
      exact ⟨.panicked chain, w₃, hR, (StepsIn.trans harr s1).trans (StepsIn.trans hs (.one hl (step_leave_panicked hlv)))⟩
    | ret => exact hq₂.elim
    | exit id => exact hq₂.elim
    | goto t => exact hq₂.elim
    | outgrown => exact hq₂.elim
  | exit id => exact hq.elim
  | goto t => exact hq.elim
  | ret => exact hq.elim
  | panic chain => exact hq.elim
  | outgrown => exact hq.elim

/-- These blocks are as they were. -/
def Keep (B : List Nat) (W W' : World) : Prop := ∀ b ∈ B, W'.heap[b]? = W.heap[b]?
theorem Keep.trans {B : List Nat} {a b c : World} (h : Keep B a b) (k : Keep B b c) : Keep B a c := fun x hx => (k x hx).trans (h x hx)

/-- An iterator that yields m times, the k-th time encs k; q: the block of its own state; B: the blocks that it reads. -/
def SeqN (P : Program) (gf : Nat) (lb : Array Value) (m q : Nat) (encs : Nat → Array Value) (B : List Nat) (W0 : World) : Prop :=
  ∀ (l : Nat) (J : Nat → World → Prop) (Jp : List PanicEntry → World → Prop), (∀ k W W', J k W → W.grownBy W' (some q) → J k W') →
    (∀ k W1, k < m → J k W1 → YieldAt Fence.wide 7 P l (encs k) W1 fun e W' => (e = .returned (.bool true) ∧ J (k + 1) W' ∧ W1.heap.size ≤ W'.heap.size ∧ Keep B W1 W') ∨ (∃ ch, e = .panicked ch ∧ Jp ch W')) →
    ∀ W, Keep B W0 W → W0.heap.size ≤ W.heap.size → J 0 W →
    CallsIn Fence.wide 8 P gf (#[.func (.yield l) #[] #[]] ++ lb) W fun e W' => ((∃ v, e = .returned v) ∧ J m W') ∨ (∃ ch, e = .panicked ch ∧ Jp ch W')

/-- What the body of the loop must show. -/
def bodyPostN (I : World → Prop) (Ip : List PanicEntry → World → Prop) (B : List Nat) (W : World) : Exit → Act → World → Prop
  | .normal, _, W' => W.heap.size ≤ W'.heap.size ∧ Keep B W W' ∧ I W'
  | .panic ch, a, W' => a.defers = [] ∧ Ip ch W'
  | _, _, _ => False

theorem wp_seq {P : Program} {g : Operand} {ps : Array Tmp} {assign body : Code} {Q : Exit → Act → World → Prop} {a : Act} {w : World}
    {gf : Nat} {lb : Array Value} (hg : a.eval g = .func (.func gf) #[] lb) (eg : ∀ args w, (callFunc gf args).run P w = .ok (.enter gf args) w)
    {m q : Nat} {encs : Nat → Array Value} {B : List Nat} (hseq : SeqN P gf lb m q encs B w) (hq : q < w.heap.size) (hB : ∀ b ∈ B, b < w.heap.size) (hps : ∀ k, (encs k).size = ps.size)
    (I : Nat → World → Prop)
    (hI : ∀ k W W' r, I k W → W.grownBy W' (some r) → (r = q ∨ r = w.heap.size ∨ r = w.heap.size + 1) → I k W') (h0 : I 0 w) (a₁ : Nat → Act)
    (hassign : ∀ (l k : Nat) (W : World) (K : Act → World → Prop), K (a₁ k) W →
      assign.wpIn (Fence.wide.inRound l) 7 P (Exit.then K (fun _ _ _ => False)) { tmps := (ps.zip (encs k)).foldl (fun t (p, v) => t.setIfInBounds p v) a.tmps, defers := [] } W)
    (hbody : ∀ (l k : Nat) (W : World), k < m → I k W → w.heap.size + 2 ≤ W.heap.size → body.wpIn (Fence.wide.inRound l) 7 P (bodyPostN (I (k + 1)) (fun _ _ => False) (w.heap.size :: (w.heap.size + 1) :: B) W) (a₁ k) W)
    (hdone : ∀ (W : World), I m W → W.heap[w.heap.size]? = some (.deferred (some [])) → Q .normal { a with defers := { target := .collected w.heap.size, args := #[] } :: a.defers } W) :
    (Code.rangeFunc g ps assign body).wp P Q a w := by
  refine (wpIn_wide (n := 9)).1 (wpIn_rangeFunc ?_)
  intro fn hfn
  obtain ⟨lp, hlp⟩ : ∃ lp : LoopState → Option Code → Loop, lp = fun st pe => { state := st, pending := pe, fn, tmps := a.tmps, params := ps, assign, body, defers := w.heap.size } := ⟨_, rfl⟩
  obtain ⟨W1, hW1⟩ : ∃ W1, (w.alloc (.deferred (some []))).alloc (.loop (lp .ready none)) = W1 := ⟨_, rfl⟩
  have hL1 : W1.heap[w.heap.size + 1]? = some (.loop (lp .ready none)) := by
    rw [← hW1]; have := World.alloc_heap_new (w.alloc (.deferred (some []))) (.loop (lp .ready none)); rwa [World.size_alloc] at this
  have hK1 : W1.heap[w.heap.size]? = some (.deferred (some [])) := by
    rw [← hW1]; exact (Below.heap_alloc _ _ _ (by simp)).trans (World.alloc_heap_new w _)
  have hg1 : w.grownBy W1 (some w.heap.size) := by
    rw [← hW1]
    exact ⟨rfl, rfl, rfl, by simp; omega, fun i hi _ => (Below.heap_alloc _ _ _ (by simp; omega)).trans (Below.heap_alloc _ _ _ hi)⟩
  have hI1 : I 0 W1 := hI 0 w W1 _ h0 hg1 (.inr (.inl rfl))
  have hKB : Keep B w W1 := fun b hb => hg1.block b (hB b hb) (by have := hB b hb; simp; omega)
  refine ⟨w.heap.size + 1, [{ target := .collected w.heap.size, args := #[] }], W1, { target := .fn (.func gf) lb, args := #[.func (.yield (w.heap.size + 1)) #[] #[]] }, W1, gf,
    #[.func (.yield (w.heap.size + 1)) #[] #[]] ++ lb, W1, ?_, ?_, fun _ _ => trivial, ?_, fun h => by simp [Fence.wide] at h, ?_⟩
  · rw [← hW1, hlp]; exact run_enterLoop_outer _ _ _ _ _
  · simp only [resolve, hg]
    simp [go_sem]
  · simp [invoke, go_sem, eg]
  · refine (hseq (w.heap.size + 1) (fun k W => I k W ∧ W.heap[w.heap.size + 1]? = some (.loop (lp .ready none)) ∧ W.heap[w.heap.size]? = some (.deferred (some []))) (fun _ _ => False) ?_ ?_ W1 hKB hg1.size ⟨hI1, hL1, hK1⟩).mono ?_
    · rintro k W W' ⟨h1, h2, h3⟩ hgr
      exact ⟨hI k W W' q h1 hgr (.inl rfl), (hgr.block _ (Array.getElem?_eq_some_iff.1 h2).1 (by simp; omega)).trans h2, (hgr.block _ (Array.getElem?_eq_some_iff.1 h3).1 (by simp; omega)).trans h3⟩
    · rintro k W hk ⟨hi, hl, hd⟩
      have hlt : w.heap.size + 1 < W.heap.size := (Array.getElem?_eq_some_iff.1 hl).1
      have hy := run_yield (P := P) (args := encs k) hl (by rw [hlp]; exact hps k)
      rw [hlp] at hy
      refine ⟨fn, _, assign, body, hy, round_any hfn (hassign _ k W _ ⟨_, run_beginRound hl (by rw [hlp]), ?_⟩)⟩
      have hgb : W.grownBy (W.putObj (w.heap.size + 1) (.loop { lp .ready none with state := .busy })) (some (w.heap.size + 1)) := grownBy_putObj' _ _ _
      have hl2 : (W.putObj (w.heap.size + 1) (.loop { lp .ready none with state := .busy })).heap[w.heap.size + 1]? = some (.loop { lp .ready none with state := .busy }) := World.putObj_heap_same hlt
      have hd2 : (W.putObj (w.heap.size + 1) (.loop { lp .ready none with state := .busy })).heap[w.heap.size]? = some (.deferred (some [])) := (World.putObj_heap_other (by omega)).trans hd
      refine wpIn_mono (hbody _ k _ hk (hI k W _ _ hi hgb (.inr (.inr rfl))) (by rw [World.putObj_size]; omega)) ?_
      rintro e a3 W3 hp
      cases e with
      | normal =>
        obtain ⟨hs3, hk3, hi3⟩ := hp
        have hl3 := (hk3 (w.heap.size + 1) (by simp)).trans hl2
        have hd3 := (hk3 w.heap.size (by simp)).trans hd2
        have hend := run_endRound (P := P) none hl3
        refine ⟨_, _, hend, .inl ⟨rfl, ⟨hI _ W3 _ _ hi3 (grownBy_putObj' _ _ _) (.inr (.inr rfl)), ?_, (World.putObj_heap_other (by omega)).trans hd3⟩, ?_, ?_⟩⟩
        · rw [World.putObj_heap_same (Array.getElem?_eq_some_iff.1 hl3).1, hlp]; rfl
        · rw [World.putObj_size]; rw [World.putObj_size] at hs3; exact hs3
        · intro b hb
          have := hB b hb
          exact (World.putObj_heap_other (by omega)).trans ((hk3 b (by simp [hb])).trans (World.putObj_heap_other (by omega)))
      | panic ch => exact hp.2.elim
      | ret => exact hp.elim
      | exit id => exact hp.elim
      | goto t => exact hp.elim
      | outgrown => exact hp.elim
    · rintro e W2 (⟨⟨v, rfl⟩, hi, hl, hd⟩ | ⟨ch, _, h⟩)
      · refine ⟨none, _, by have := run_endLoop (P := P) hl (by rw [hlp]; simp); rw [hlp] at this; exact this, hdone _ (hI m W2 _ _ hi (grownBy_putObj' _ _ _) (.inr (.inr rfl))) ((World.putObj_heap_other (by omega)).trans hd)⟩
      · exact h.elim
/-- A function that ranges over a function, entered for the plain walk. -/
theorem calls_of_marks {P : Program} {f : FuncId} {fn : Func} {c : Code} {args : Array Value} {w : World} {R : Ending → World → Prop}
    (hf : P.funcs[f]? = some fn) (hb : fn.body = some c) (h : c.wp P (bodyPostM Fence.wide 9 P fn R) { tmps := args ++ Array.replicate (fn.ntmps - args.size) undef, defers := [] } w) : Calls P f args w R :=
  (callsIn_wide (n := 9)).1 (callsIn_of_wp_marks hf hb trivial (wpIn_wide.2 h) rfl)
end Go.Proofs.Ytoaembpakmpolaa
