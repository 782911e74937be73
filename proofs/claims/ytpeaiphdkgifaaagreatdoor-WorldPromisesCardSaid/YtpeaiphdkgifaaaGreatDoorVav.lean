/- Ranges over functions whose body may return: a yield for each of m -/
import Derived.Test.YtpeaiphdkgifaaaGreatDoorVaj
import Derived.Test.YtpeaiphdkgifaaaGreatDoorRows
import Derived.Test.YtpeaiphdkgifaaaGreatDoorVaa
import Derived.ProofKit
import Derived.OpenShut
import Derived.Deep.DeepHandedRow
import Derived.Deep.Slices
import Derived.WideKeyArgs
namespace Go.Proofs.YtpeaiphdkgifaaaGreatDoor
open Go.RowKit
set_option maxHeartbeats 20000000
set_option maxRecDepth 100000
def SeqB (P : Program) (gf : Nat) (lb : Array Value) (m : Nat) (encs : Nat -> Array Value) (view : World -> Prop) : Prop :=
 ∀ (l : Nat) (J : Nat -> World -> Prop) (Jx : World -> Prop), (∀ k W W', J k W -> Below W.heap.size W W' -> J k W') -> (∀ k W, J k W -> view W) ->
  (∀ k W, k < m -> J k W -> YieldAt Fence.wide 7 P l (encs k) W fun e W' => (e = .returned (.bool true) /\ J (k + 1) W') ∨ (e = .returned (.bool false) /\ Jx W')) ->
  ∀ W, J 0 W -> CallsIn Fence.wide 8 P gf (#[.func (.yield l) #[] #[]] ++ lb) W fun e W' => (∃ v, e = .returned v) /\ (J m W' ∨ Jx W')
theorem wp_seqB {P : Program} {f0 : FuncId} {g : Operand} {ps : Array Tmp} {assign body : Code} {Q : Exit -> Act -> World -> Prop} {a : Act} {w : World}
  {gf : Nat} {lb : Array Value} (hg : a.eval g = .func (.func gf) #[] lb) (eg : ∀ args w, (callFunc gf args).run P w = .ok (.enter gf args) w)
  {m : Nat} {encs : Nat -> Array Value} {view : World -> Prop} (hseq : SeqB P gf lb m encs view) (hps : ∀ k, (encs k).size = ps.size)
  (I : Nat -> World -> Prop) (Ix : World -> Prop)
  (hI : ∀ k W W' r, I k W -> W.grownBy W' (some r) -> (r = w.heap.size ∨ r = w.heap.size + 1) -> I k W')
  (hIx : ∀ W W' r, Ix W -> W.grownBy W' (some r) -> (r = w.heap.size ∨ r = w.heap.size + 1) -> Ix W')
  (hI2 : ∀ k W W', I k W -> Below W.heap.size W W' -> I k W') (hv : ∀ k W, I k W -> view W)
  (h0 : I 0 w) (a₁ : Nat -> World -> Act) (nw : Nat -> World -> World) (hnw : ∀ k W, Below W.heap.size W (nw k W))
  (hassign : ∀ (l k : Nat) (W : World) (K : Act -> World -> Prop), K (a₁ k W) (nw k W) ->
   assign.wpIn (Fence.wide.inRound l) 7 P (Exit.then K (fun _ _ _ => False)) { tmps := (ps.zip (encs k)).foldl (fun t (p, v) => t.setIfInBounds p v) a.tmps, defers := [] } W)
  (hbody : ∀ (l k : Nat) (W V : World), k < m -> I k W -> w.heap.size + 2 <= W.heap.size -> (nw k W).grownBy V (some (w.heap.size + 1)) -> I k V -> body.wpIn (Fence.wide.inRound l) 7 P (oe (I (k + 1)) Ix (fun b => b = w.heap.size ∨ b = w.heap.size + 1) V) (a₁ k W) V)
  (hstop : ∀ (W : World), Ix W -> W.heap[w.heap.size]? = some (.deferred (some [])) -> Code.ret.wpIn Fence.wide 9 P Q { a with defers := { target := .collected w.heap.size, args := #[] } :: a.defers } W)
  (hdone : ∀ (W : World), I m W -> W.heap[w.heap.size]? = some (.deferred (some [])) -> Q .normal { a with defers := { target := .collected w.heap.size, args := #[] } :: a.defers } W) :
  j9 f0 P (Code.rangeFunc g ps assign body) Q a w := by
 refine fX ?_
 obtain ⟨lp, hlp⟩ : ∃ lp : LoopState -> Option Code -> Loop, lp = fun st pe => { state := st, pending := pe, fn := f0, tmps := a.tmps, params := ps, assign, body, defers := w.heap.size } := ⟨_, rfl⟩
 obtain ⟨W1, hW1⟩ : ∃ W1, (w.alloc (.deferred (some []))).alloc (.loop (lp .ready none)) = W1 := ⟨_, rfl⟩
 have hL1 : W1.heap[w.heap.size + 1]? = some (.loop (lp .ready none)) := by
  rw [<- hW1]; have := World.alloc_heap_new (w.alloc (.deferred (some []))) (.loop (lp .ready none)); rwa [aT] at this
 have hK1 : W1.heap[w.heap.size]? = some (.deferred (some [])) := by
  rw [<- hW1]; exact (aK _ _ _ (by simp)).trans (World.alloc_heap_new w _)
 have hg1 : Below w.heap.size w W1 := by
  rw [<- hW1]
  exact ((aJ _ w).alloc (aH _) _).alloc (by simp) _
 have hI1 : I 0 W1 := hI2 0 w W1 h0 hg1
 refine ⟨w.heap.size + 1, [{ target := .collected w.heap.size, args := #[] }], W1, { target := .fn (.func gf) lb, args := #[.func (.yield (w.heap.size + 1)) #[] #[]] }, W1, gf,
  #[.func (.yield (w.heap.size + 1)) #[] #[]] ++ lb, W1, ?_, ?_, ?_, ?_⟩
 ·rw [<- hW1, hlp]; exact run_enterLoop_outer _ _ _ _ _
 ·simp only [resolve, hg]
  simp [go_sem]
 ·simp [invoke, go_sem, eg]
 ·refine (hseq (w.heap.size + 1) (fun k W => I k W /\ W.heap[w.heap.size + 1]? = some (.loop (lp .ready none)) /\ W.heap[w.heap.size]? = some (.deferred (some [])))
   (fun W => Ix W /\ W.heap[w.heap.size + 1]? = some (.loop (lp .done (some .ret))) /\ W.heap[w.heap.size]? = some (.deferred (some []))) ?_ (fun k W h => hv k W h.1) ?_ W1 ⟨hI1, hL1, hK1⟩).mono ?_
  ·rintro k W W' ⟨h1, h2, h3⟩ hgr
   exact ⟨hI2 k W W' h1 hgr, (hgr.block _ (Array.getElem?_eq_some_iff.1 h2).1).trans h2, (hgr.block _ (Array.getElem?_eq_some_iff.1 h3).1).trans h3⟩
  ·rintro k W hk ⟨hi, hl, hd⟩
   have hlt : w.heap.size + 1 < W.heap.size := (Array.getElem?_eq_some_iff.1 hl).1
   have hy := run_yield (P := P) (args := encs k) hl (by rw [hlp]; exact hps k)
   rw [hlp] at hy
   have hlN := ((hnw k W).block _ hlt).trans hl
   have hdN := ((hnw k W).block _ (by omega)).trans hd
   have hltN : w.heap.size + 1 < (nw k W).heap.size := (Array.getElem?_eq_some_iff.1 hlN).1
   refine ⟨f0, _, assign, body, hy, roundIn_of_wpIn trivial (hassign _ k W _ ⟨_, run_beginRound hlN (by rw [hlp]), ?_⟩)⟩
   have hgb : (nw k W).grownBy ((nw k W).putObj (w.heap.size + 1) (.loop { lp .ready none with state := .busy })) (some (w.heap.size + 1)) := grownBy_putObj' _ _ _
   have hl2 : ((nw k W).putObj (w.heap.size + 1) (.loop { lp .ready none with state := .busy })).heap[w.heap.size + 1]? = some (.loop { lp .ready none with state := .busy }) := World.putObj_heap_same hltN
   have hd2 : ((nw k W).putObj (w.heap.size + 1) (.loop { lp .ready none with state := .busy })).heap[w.heap.size]? = some (.deferred (some [])) := (World.putObj_heap_other (by omega)).trans hdN
   refine wpIn_mono (hbody _ k W _ hk hi (by omega) hgb (hI k _ _ _ (hI2 k W _ hi (hnw k W)) hgb (.inr rfl))) ?_
   rintro e a3 W3 hp
   cases e with
   | normal =>
    obtain ⟨hk3, hi3⟩ := hp
    have hl3 := (hk3 (w.heap.size + 1) (.inr rfl)).trans hl2
    have hd3 := (hk3 w.heap.size (.inl rfl)).trans hd2
    have hend := run_endRound (P := P) none hl3
    refine ⟨_, _, hend, .inl ⟨rfl, hI _ W3 _ _ hi3 (grownBy_putObj' _ _ _) (.inr rfl), ?_, (World.putObj_heap_other (by omega)).trans hd3⟩⟩
    rw [World.putObj_heap_same (Array.getElem?_eq_some_iff.1 hl3).1, hlp]; rfl
   | ret =>
    obtain ⟨hk3, hi3⟩ := hp
    have hl3 := (hk3 (w.heap.size + 1) (.inr rfl)).trans hl2
    have hd3 := (hk3 w.heap.size (.inl rfl)).trans hd2
    have hend := run_endRound (P := P) (some .ret) hl3
    refine ⟨_, _, hend, .inr ⟨rfl, hIx W3 _ _ hi3 (grownBy_putObj' _ _ _) (.inr rfl), ?_, (World.putObj_heap_other (by omega)).trans hd3⟩⟩
    rw [World.putObj_heap_same (Array.getElem?_eq_some_iff.1 hl3).1, hlp]; rfl
   | panic ch => exact hp.elim
   | exit id => exact hp.elim
   | goto t => exact hp.elim
   | outgrown => exact hp.elim
  ·rintro e W2 ⟨⟨v, rfl⟩, ⟨hi, hl, hd⟩ | ⟨hi, hl, hd⟩⟩
   ·refine ⟨none, _, by have := run_endLoop (P := P) hl (by rw [hlp]; simp); rw [hlp] at this; exact this, hdone _ (hI m W2 _ _ hi (grownBy_putObj' _ _ _) (.inr rfl)) ((World.putObj_heap_other (by omega)).trans hd)⟩
   ·exact ⟨some .ret, _, by have := run_endLoop (P := P) hl (by rw [hlp]; simp); rw [hlp] at this; exact this, hstop _ (hIx W2 _ _ hi (grownBy_putObj' _ _ _) (.inr rfl)) ((World.putObj_heap_other (by omega)).trans hd)⟩
section
open Go.ChangeShapes Go.WideShapes Go.ChangeAt Go.RowKit Go.WideMaps Go.WideElems
open Go.ChangeMaps (open_string shut_string)
abbrev OI64 (n : Int) : Prop := -9223372036854775808 <= n /\ n <= 9223372036854775807
theorem own : ownKnob Tryz.prog.godebug = none := by kernel_rfl
theorem lT : laidOutB Tryz.prog = true := by kernel_rfl
theorem rT {s : ByteArray} {l : List UInt8} (h : s.data.toList = l) : s = ⟨l.toArray⟩ := by
 cases s; simp at h; subst h; simp
section
variable {H : Type} {enc : TypeId × Value -> H} {P : Program}
theorem m6 {f : Func} {s : ChangeSpec} {apart fresh handsOn again : Bool} {W W' : World} {args : Array Value} {v : Value} {ds gs : List (DataW H)} {before pa pv : List MemPlace}
  (hW : DataW.Whole enc P f.params.toList s.vars apart W args.toList ds gs before)
  (hres : ∀ (b : Nat) (sp : Nat -> Bool) (hd : Bool), DataW.TrodAll enc P W' b sp hd f.resultTypes.toList (v.resultList f.resultTypes.size) (s.fn H (ds ++ gs)).results [])
  (hargs : ∀ sp : Nat -> Bool, (∀ p ∈ before, sp p.block = true) -> DataW.TrodAll enc P W' 0 sp true f.params.toList args.toList (s.fn H (ds ++ gs)).args pa)
  (hvars : ∀ sp : Nat -> Bool, (∀ p ∈ before, sp p.block = true) -> DataW.TrodVars enc P W' sp s.vars (s.fn H (ds ++ gs)).vars pv)
  (hps : before = pa ++ pv) (hb : Below W.heap.size W W')
  (hok : ∀ (j : Nat) (t : TypeId) (r : Value), f.resultTypes[j]? = some t -> (v.resultList f.resultTypes.size)[j]? = some r -> Value.okWide P W' .any 0 t r) :
  s.post enc P f apart fresh handsOn again W args v W' := by
 have hlt : ∀ p ∈ before, p.block < W.heap.size := fun p hp => hW.lt p hp
 have hold : ∀ p ∈ before, (fun b => decide (b < W.heap.size)) p.block = true := fun p hp => by simpa using hlt p hp
 refine ⟨ds, gs, before, [], pa, pv, hW, hres _ _ _, hargs _ hold, hvars _ hold, World.keptBut_mono (fun p hp => ⟨hp, ?_⟩) (hb.frame (· ∈ before)), fun _ => ?_⟩
 ·rw [hps, List.mem_append] at hp
  exact Or.inr hp
 ·obtain ⟨_, _, _, _, _, hz, hn⟩ := hW
  refine ⟨hok, _, _, ([] ++ pa) ++ pv, ⟨[] ++ pa, pv, trodAll_append (hargs _ (fun _ _ => rfl)) (hres _ _ _), hvars _ (fun _ _ => rfl), rfl, ?_, ?_⟩, ?_⟩
  ·intro b off hp
   have hin : MemPlace.cell b off ∈ before := by rw [hps]; simpa using hp
   rw [hb.frozen (hlt _ hin)]
   exact hz b off hin
  ·intro ha
   have := hn ha
   rw [hps] at this
   simpa using this
  ·intro p hp _
   rw [hps]
   simpa using hp
end
theorem cut (cs : List Value) (o n : Nat) : cs.drop o = (cs.drop o).take n ++ cs.drop (o + n) := by
 rw [<- List.drop_drop]; exact (List.take_append_drop n _).symm
theorem fld {H : Type} {enc : TypeId × Value -> H} {W : World} {m i o k : Nat} {t : TypeId} {cs : List Value} {xs : List (DataW H × List MemPlace)} (hc : Tryz.prog.cellsOf t = k) (hi : i < xs.length) (h : DataW.trod enc Tryz.prog W 0 (fun _ => true) true m t ((cs.drop o).take (Tryz.prog.cellsOf t)) = xs[i]?) :
  ∃ y, DataW.trod enc Tryz.prog W 0 (fun _ => true) true m t ((cs.drop o).take k) = some y := by
 rw [hc] at h
 exact ⟨_, h.trans (aD hi)⟩
theorem iR {H : Type} {enc : TypeId × Value -> H} {W : World} {fuel : Nat} {cs : List Value} {x : DataW H × List MemPlace} (h : DataW.trod enc Tryz.prog W 0 (fun _ => true) true fuel 9 cs = some x) : ∃ l : List UInt8, cs = [sV l] /\ l.length <= maxLen := by
 obtain ⟨s, hs, _, hm⟩ := DataW.trod_string Tryz.underlying9 h
 refine ⟨s.data.toList, by rw [hs], ?_⟩
 rw [Array.length_toList]
 exact hm
theorem cJ {H : Type} {enc : TypeId × Value -> H} {W : World} {fuel : Nat} {cs : List Value} {x : DataW H × List MemPlace} (h : DataW.trod enc Tryz.prog W 0 (fun _ => true) true fuel 3 cs = some x) : ∃ n : Int, cs = [iV n] /\ OI64 n := by
 obtain ⟨z, hz, _, hw⟩ := DataW.trod_int Tryz.underlying3 h
 exact ⟨z, hz, bounds_i64 hw⟩
theorem o_cell {W : World} {a : Addr} {v : Value} (h : W.cell? a = some v) : a.spot = none /\ a.block < W.heap.size := by
 unfold World.cell? at h
 split at h
 ·rename_i hb
  split at h
  ·cases h
  ·rename_i hs
   exact ⟨by cases ha : a.spot <;> simp_all, (Array.getElem?_eq_some_iff.1 hb).1⟩
 ·cases h
theorem o_cells {W : World} {base : Nat} {b off : Nat} : ∀ {n : Nat} {cs : List Value}, W.cells? base (aV b off) n = some cs -> cs.length = n /\ ∀ i u, cs[i]? = some u -> W.cell? (aV b (off + i)) = some u := fun {n cs} h => by
 have := World.cells?_some h
 refine ⟨this.2.1, fun i u hu => ?_⟩
 have hi : i < n := by rw [<- this.2.1]; exact (aE.1 hu).1
 have h2 := this.2.2 i hi
 rw [gr] at h2
 rw [h2, hu]
theorem dH {α : Type} {f : α -> List Value} {Q : α -> Prop} {H : Type} {enc : TypeId × Value -> H} {W : World} {t e : TypeId} (k : Nat) (hk0 : 0 < k) (ht : Tryz.prog.underlying t = some (.slice e)) (he : Tryz.prog.cellsOf e = k) (hfk : ∀ x, (f x).length = k)
  (hq : ∀ (fuel : Nat) (cs : List Value) (x : DataW H × List MemPlace), DataW.trod enc Tryz.prog W 0 (fun _ => true) true fuel e cs = some x -> ∃ r, cs = f r /\ Q r)
  {cs : List Value} {fuel : Nat} {x : DataW H × List MemPlace} (hf : DataW.trod enc Tryz.prog W 0 (fun _ => true) true fuel t cs = some x) :
  ∃ A c ns, cs = [.slice A (List.length ns) c] /\ Rd W A (ns.flatMap f) /\ ns.length <= c /\ c <= maxLen /\ ∀ n ∈ ns, Q n := by
 rcases Deep.open_slice ht hf with ⟨hcs, hx⟩ | ⟨a, len, cap, m, n, D, Pl, hcs, _, hl, hm, hmm, hx, hc⟩
 ·exact ⟨none, 0, [], hcs, Rd.nil _ _, aH _, Nat.zero_le _, fun n hn => by cases hn⟩
 ·simp at hmm
  subst hmm
  by_cases hz : len = 0
  ·subst hz
   exact ⟨some a, m, [], hcs, Rd.nil _ _, Nat.zero_le _, hm, fun n hn => by cases hn⟩
  rw [he] at hc
  obtain ⟨bl, off, sp⟩ := a
  have hsp : sp = none /\ bl < W.heap.size := by
   obtain ⟨cs0, h0, _⟩ := hc 0 (by omega)
   have h1 := World.cells?_some h0
   have h2 := h1.2.2 0 hk0
   rw [show (Addr.add (Addr.add ⟨bl, off, sp⟩ (0 * k)) 0) = ⟨bl, off, sp⟩ by rw [Nat.zero_mul]; rfl, aD (by rw [h1.2.1]; exact hk0)] at h2
   exact o_cell h2
  obtain ⟨rfl, hb⟩ := hsp
  have each : ∀ i, i < len -> ∃ r : α, (∀ j u, (f r)[j]? = some u -> W.cell? (aV bl (off + i * k + j)) = some u) /\ Q r := fun i hi => by
   obtain ⟨cs', h1, h2⟩ := hc i (by omega)
   obtain ⟨r, rfl, hr⟩ := hq _ _ _ h2
   rw [gr] at h1
   exact ⟨r, (o_cells h1).2, hr⟩
  have main : ∀ n, n <= len -> ∃ rows : List α, rows.length = n /\ (∀ i (h : i < rows.length) j u, (f rows[i])[j]? = some u -> W.cell? (aV bl (off + i * k + j)) = some u) /\ ∀ r ∈ rows, Q r := by
   intro n
   induction n with
   | zero => exact fun _ => ⟨[], rfl, fun i h => by simp at h, fun r hr => by cases hr⟩
   | succ n ih =>
    intro hn
    obtain ⟨rows, h1, h2, h3⟩ := ih (by omega)
    obtain ⟨r, hr1, hr2⟩ := each n (by omega)
    refine ⟨rows ++ [r], by simp [h1], fun i hi j u hu => ?_, fun x hx => ?_⟩
    ·by_cases hin : i < rows.length
     ·rw [List.getElem_append_left hin] at hu; exact h2 i hin j u hu
     ·have : i = rows.length := by simp at hi; omega
      subst this
      rw [List.getElem_append_right (aH _)] at hu
      simp at hu
      rw [h1]
      exact hr1 j u hu
    ·rcases List.mem_append.1 hx with hx | hx
     ·exact h3 x hx
     ·rw [aR.1 hx]; exact hr2
  obtain ⟨rows, h1, h2, h3⟩ := main len (aH _)
  have flen : ∀ xs : List α, (xs.flatMap f).length = xs.length * k := fun xs => by
   induction xs with
   | nil => simp
   | cons x xs ih => rw [List.flatMap_cons, List.length_append, hfk, ih, List.length_cons, Nat.add_mul]; omega
  have fget : ∀ (xs : List α) (i j : Nat) (hi : i < xs.length), j < k -> (xs.flatMap f)[i * k + j]? = (f xs[i])[j]? := by
   intro xs
   induction xs with
   | nil => intro i j hi; simp at hi
   | cons x xs ih =>
    intro i j hi hj
    cases i with
    | zero => rw [List.flatMap_cons]; simp; rw [List.getElem?_append_left (by rw [hfk]; exact hj)]
    | succ i =>
     rw [List.flatMap_cons, List.getElem?_append_right (by rw [hfk, Nat.add_mul]; omega), hfk, show (i + 1) * k + j - k = i * k + j by rw [Nat.add_mul]; omega, ih i j (by simpa using hi) hj]
     rfl
  refine ⟨some (aV bl off), m, rows, by rw [h1]; exact hcs, .inr ⟨bl, off, rfl, hb, fun q u hu => ?_⟩, by omega, hm, h3⟩
  have hq' : q < rows.length * k := by rw [<- flen]; exact (aE.1 hu).1
  have hd : q / k < rows.length := Nat.div_lt_of_lt_mul (by rw [Nat.mul_comm]; exact hq')
  have hqe : q / k * k + q % k = q := by rw [Nat.mul_comm]; exact Nat.div_add_mod q k
  have h5 := fget rows (q / k) (q % k) hd (Nat.mod_lt _ hk0)
  rw [hqe, hu] at h5
  have h6 := h2 (q / k) hd (q % k) u h5.symm
  rw [Nat.add_assoc, hqe] at h6
  exact h6
end
section
open Go.ChangeShapes Go.WideShapes Go.ChangeAt Go.RowKit Go.WideMaps Go.WideElems
theorem bJ : Tryz.prog.cellsOf 3 = 1 := by kernel_rfl
theorem uI : Tryz.prog.cellsOf 4 = 1 := by kernel_rfl
theorem eS : Tryz.prog.cellsOf 9 = 1 := by kernel_rfl
theorem kZ : Tryz.prog.cellsOf 46 = 1 := by kernel_rfl
theorem rP : Tryz.prog.cellsOf 108 = 1 := by kernel_rfl
theorem nZ : Tryz.prog.cellsOf 23 = 1 := by kernel_rfl
theorem uH : Tryz.prog.cellsOf 22 = 1 := by kernel_rfl
theorem wT : Tryz.prog.cellsOf 24 = 1 := by kernel_rfl
theorem uD : Tryz.prog.cellsOf 25 = 1 := by kernel_rfl
theorem uE : Tryz.prog.cellsOf 26 = 1 := by kernel_rfl
theorem uG : Tryz.prog.cellsOf 27 = 1 := by kernel_rfl
theorem qz : Tryz.prog.cellsOf 110 = 3 := by kernel_rfl
theorem sJ : Tryz.prog.cellsOf 148 = 1 := by kernel_rfl
theorem qw : Tryz.prog.cellsOf 54 = 7 := by kernel_rfl
theorem qx : Tryz.prog.cellsOf 52 = 6 := by kernel_rfl
theorem qy : Tryz.prog.cellsOf 135 = 3 := by kernel_rfl
theorem wU : Tryz.prog.cellsOf 29 = 6 := by kernel_rfl
theorem ja {α : Type} (f : α -> Value) (l : List α) : l.flatMap (fun x => [f x]) = l.map f := by
 induction l with
 | nil => rfl
 | cons x l ih => rw [List.flatMap_cons, ih]; rfl
section
variable {H : Type} {enc : TypeId × Value -> H} {W : World}
theorem bool_of {fuel : Nat} {cs : List Value} {x : DataW H × List MemPlace} (h : DataW.trod enc Tryz.prog W 0 (fun _ => true) true fuel 4 cs = some x) : ∃ b : Bool, cs = [oV b] /\ True := by
 obtain ⟨b, hb, _⟩ := DataW.trod_bool Tryz.underlying4 h
 exact ⟨b, hb, trivial⟩
theorem oK {fuel : Nat} {cs : List Value} {x : DataW H × List MemPlace} (h : DataW.trod enc Tryz.prog W 0 (fun _ => true) true fuel 46 cs = some x) :
  ∃ A c ns, cs = [.slice A (List.length ns) c] /\ Rd W A (ns.map iV) /\ ns.length <= maxLen /\ ∀ n ∈ ns, I64 n := by
 obtain ⟨A, c, ns, h1, h2, h3, h4, h5⟩ := dH (f := fun n => [iV n]) (Q := I64) 1 (by decide) Tryz.underlying46 bJ (fun _ => rfl) (fun _ _ _ h => cJ h) h
 rw [ja] at h2
 exact ⟨A, c, ns, h1, h2, aG h3 h4, h5⟩
theorem wV {fuel : Nat} {cs : List Value} {x : DataW H × List MemPlace} (h : DataW.trod enc Tryz.prog W 0 (fun _ => true) true fuel 108 cs = some x) :
  ∃ A c ns, cs = [.slice A (List.length ns) c] /\ Rd W A (ns.map oV) /\ ns.length <= maxLen := by
 obtain ⟨A, c, ns, h1, h2, h3, h4, h5⟩ := dH (f := fun n => [oV n]) (Q := fun _ => True) 1 (by decide) Tryz.underlying108 uI (fun _ => rfl) (fun _ _ _ h => bool_of h) h
 rw [ja] at h2
 exact ⟨A, c, ns, h1, h2, aG h3 h4⟩
theorem sl {fuel : Nat} {cs : List Value} {x : DataW H × List MemPlace} (h : DataW.trod enc Tryz.prog W 0 (fun _ => true) true fuel 23 cs = some x) :
  ∃ A c ns, cs = [.slice A (List.length ns) c] /\ Rd W A (ns.map sV) /\ ns.length <= maxLen /\ ∀ n ∈ ns, n.length <= maxLen := by
 obtain ⟨A, c, ns, h1, h2, h3, h4, h5⟩ := dH (f := fun n : List UInt8 => [sV n]) (Q := fun n => n.length <= maxLen) 1 (by decide) Tryz.underlying23 eS (fun _ => rfl) (fun _ _ _ h => iR h) h
 rw [ja] at h2
 exact ⟨A, c, ns, h1, h2, aG h3 h4, h5⟩
theorem cal_of {fuel : Nat} {cs : List Value} {x : DataW H × List MemPlace} (h : DataW.trod enc Tryz.prog W 0 (fun _ => true) true fuel 110 cs = some x) :
  ∃ r : Cal, cs = dZ r /\ cP W r := by
 obtain ⟨xs, m, _, _, hlen, hxl, hf⟩ := DataW.trod_struct Tryz.underlying110 h
 rw [qz] at hlen
 have hxl' : xs.length = 3 := hxl
 obtain ⟨y0, h0⟩ := fld (o := 0) bJ (by rw [hxl']; decide) (hf 0 _ rfl)
 obtain ⟨x0, e0, f0⟩ := cJ h0
 obtain ⟨y1, h1⟩ := fld (o := 1) rP (by rw [hxl']; decide) (hf 1 _ rfl)
 obtain ⟨A1, c1, x1, e1, f1, g1⟩ := wV h1
 obtain ⟨y2, h2⟩ := fld (o := 2) kZ (by rw [hxl']; decide) (hf 2 _ rfl)
 obtain ⟨A2, c2, x2, e2, f2, g2, k2⟩ := oK h2
 have hcs : cs = [iV x0, .slice A1 x1.length c1, .slice A2 x2.length c2] := by
  have hend : cs.drop 3 = [] := List.drop_eq_nil_of_le (by omega)
  have h00 : cs = cs.drop 0 := rfl
  rw [h00, cut cs 0 1, e0, show 0 + 1 = 1 from rfl, cut cs 1 1, e1, show 1 + 1 = 2 from rfl, cut cs 2 1, e2, show 2 + 1 = 3 from rfl, hend]
  rfl
 exact ⟨⟨x0, x1, A1, c1, x2, A2, c2⟩, hcs, f0, f1, f2, k2, g1, g2⟩
theorem op_of {fuel : Nat} {cs : List Value} {x : DataW H × List MemPlace} (h : DataW.trod enc Tryz.prog W 0 (fun _ => true) true fuel 148 cs = some x) :
  ∃ r : List UInt8, cs = nN r /\ r.length <= maxLen := by
 obtain ⟨xs, m, _, _, hlen, hxl, hf⟩ := DataW.trod_struct Tryz.underlying148 h
 rw [sJ] at hlen
 have hxl' : xs.length = 1 := hxl
 obtain ⟨y0, h0⟩ := fld (o := 0) eS (by rw [hxl']; decide) (hf 0 _ rfl)
 obtain ⟨x0, e0, f0⟩ := iR h0
 have hcs : cs = [sV x0] := by
  have hend : cs.drop 1 = [] := List.drop_eq_nil_of_le (by omega)
  have h00 : cs = cs.drop 0 := rfl
  rw [h00, cut cs 0 1, e0, show 0 + 1 = 1 from rfl, hend]
  rfl
 exact ⟨x0, hcs, f0⟩
theorem off_of {fuel : Nat} {cs : List Value} {x : DataW H × List MemPlace} (h : DataW.trod enc Tryz.prog W 0 (fun _ => true) true fuel 54 cs = some x) :
  ∃ r : Off, cs = jb r /\ jL W r := by
 obtain ⟨xs, m, _, _, hlen, hxl, hf⟩ := DataW.trod_struct Tryz.underlying54 h
 rw [qw] at hlen
 have hxl' : xs.length = 7 := hxl
 obtain ⟨y0, h0⟩ := fld (o := 0) eS (by rw [hxl']; decide) (hf 0 _ rfl)
 obtain ⟨x0, e0, f0⟩ := iR h0
 obtain ⟨y1, h1⟩ := fld (o := 1) bJ (by rw [hxl']; decide) (hf 1 _ rfl)
 obtain ⟨x1, e1, f1⟩ := cJ h1
 obtain ⟨y2, h2⟩ := fld (o := 2) bJ (by rw [hxl']; decide) (hf 2 _ rfl)
 obtain ⟨x2, e2, f2⟩ := cJ h2
 obtain ⟨y3, h3⟩ := fld (o := 3) bJ (by rw [hxl']; decide) (hf 3 _ rfl)
 obtain ⟨x3, e3, f3⟩ := cJ h3
 obtain ⟨y4, h4⟩ := fld (o := 4) bJ (by rw [hxl']; decide) (hf 4 _ rfl)
 obtain ⟨x4, e4, f4⟩ := cJ h4
 obtain ⟨y5, h5⟩ := fld (o := 5) bJ (by rw [hxl']; decide) (hf 5 _ rfl)
 obtain ⟨x5, e5, f5⟩ := cJ h5
 obtain ⟨y6, h6⟩ := fld (o := 6) nZ (by rw [hxl']; decide) (hf 6 _ rfl)
 obtain ⟨A6, c6, x6, e6, f6, g6, k6⟩ := sl h6
 have hcs : cs = [sV x0, iV x1, iV x2, iV x3, iV x4, iV x5, .slice A6 x6.length c6] := by
  have hend : cs.drop 7 = [] := List.drop_eq_nil_of_le (by omega)
  have h00 : cs = cs.drop 0 := rfl
  rw [h00, cut cs 0 1, e0, show 0 + 1 = 1 from rfl, cut cs 1 1, e1, show 1 + 1 = 2 from rfl, cut cs 2 1, e2, show 2 + 1 = 3 from rfl, cut cs 3 1, e3, show 3 + 1 = 4 from rfl, cut cs 4 1, e4, show 4 + 1 = 5 from rfl, cut cs 5 1, e5, show 5 + 1 = 6 from rfl, cut cs 6 1, e6, show 6 + 1 = 7 from rfl, hend]
  rfl
 exact ⟨⟨x0, x1, x2, x3, x4, x5, x6, A6, c6⟩, hcs, ⟨f0, f1, f2, f3, f4, f5⟩, f6, k6, g6⟩
theorem lin_of {fuel : Nat} {cs : List Value} {x : DataW H × List MemPlace} (h : DataW.trod enc Tryz.prog W 0 (fun _ => true) true fuel 52 cs = some x) :
  ∃ r : Lin, cs = kV r /\ xa r := by
 obtain ⟨xs, m, _, _, hlen, hxl, hf⟩ := DataW.trod_struct Tryz.underlying52 h
 rw [qx] at hlen
 have hxl' : xs.length = 6 := hxl
 obtain ⟨y0, h0⟩ := fld (o := 0) eS (by rw [hxl']; decide) (hf 0 _ rfl)
 obtain ⟨x0, e0, f0⟩ := iR h0
 obtain ⟨y1, h1⟩ := fld (o := 1) bJ (by rw [hxl']; decide) (hf 1 _ rfl)
 obtain ⟨x1, e1, f1⟩ := cJ h1
 obtain ⟨y2, h2⟩ := fld (o := 2) bJ (by rw [hxl']; decide) (hf 2 _ rfl)
 obtain ⟨x2, e2, f2⟩ := cJ h2
 obtain ⟨y3, h3⟩ := fld (o := 3) bJ (by rw [hxl']; decide) (hf 3 _ rfl)
 obtain ⟨x3, e3, f3⟩ := cJ h3
 obtain ⟨y4, h4⟩ := fld (o := 4) bJ (by rw [hxl']; decide) (hf 4 _ rfl)
 obtain ⟨x4, e4, f4⟩ := cJ h4
 obtain ⟨y5, h5⟩ := fld (o := 5) bJ (by rw [hxl']; decide) (hf 5 _ rfl)
 obtain ⟨x5, e5, f5⟩ := cJ h5
 have hcs : cs = [sV x0, iV x1, iV x2, iV x3, iV x4, iV x5] := by
  have hend : cs.drop 6 = [] := List.drop_eq_nil_of_le (by omega)
  have h00 : cs = cs.drop 0 := rfl
  rw [h00, cut cs 0 1, e0, show 0 + 1 = 1 from rfl, cut cs 1 1, e1, show 1 + 1 = 2 from rfl, cut cs 2 1, e2, show 2 + 1 = 3 from rfl, cut cs 3 1, e3, show 3 + 1 = 4 from rfl, cut cs 4 1, e4, show 4 + 1 = 5 from rfl, cut cs 5 1, e5, show 5 + 1 = 6 from rfl, hend]
  rfl
 exact ⟨⟨x0, x1, x2, x3, x4, x5⟩, hcs, f0, f1, f2, f3, f4, f5⟩
theorem cls_of {fuel : Nat} {cs : List Value} {x : DataW H × List MemPlace} (h : DataW.trod enc Tryz.prog W 0 (fun _ => true) true fuel 135 cs = some x) :
  ∃ r : Cls, cs = kW r /\ xe r := by
 obtain ⟨xs, m, _, _, hlen, hxl, hf⟩ := DataW.trod_struct Tryz.underlying135 h
 rw [qy] at hlen
 have hxl' : xs.length = 3 := hxl
 obtain ⟨y0, h0⟩ := fld (o := 0) eS (by rw [hxl']; decide) (hf 0 _ rfl)
 obtain ⟨x0, e0, f0⟩ := iR h0
 obtain ⟨y1, h1⟩ := fld (o := 1) bJ (by rw [hxl']; decide) (hf 1 _ rfl)
 obtain ⟨x1, e1, f1⟩ := cJ h1
 obtain ⟨y2, h2⟩ := fld (o := 2) bJ (by rw [hxl']; decide) (hf 2 _ rfl)
 obtain ⟨x2, e2, f2⟩ := cJ h2
 have hcs : cs = [sV x0, iV x1, iV x2] := by
  have hend : cs.drop 3 = [] := List.drop_eq_nil_of_le (by omega)
  have h00 : cs = cs.drop 0 := rfl
  rw [h00, cut cs 0 1, e0, show 0 + 1 = 1 from rfl, cut cs 1 1, e1, show 1 + 1 = 2 from rfl, cut cs 2 1, e2, show 2 + 1 = 3 from rfl, hend]
  rfl
 exact ⟨⟨x0, x1, x2⟩, hcs, f0, f1, f2⟩
theorem net_of {fuel : Nat} {cs : List Value} {x : DataW H × List MemPlace} (h : DataW.trod enc Tryz.prog W 0 (fun _ => true) true fuel 29 cs = some x) :
  ∃ n : Net, cs = (iW n).toList /\ bj W n := by
 obtain ⟨xs, m, _, _, hlen, hxl, hf⟩ := DataW.trod_struct Tryz.underlying29 h
 rw [wU] at hlen
 have hxl' : xs.length = 6 := hxl
 obtain ⟨y0, h0⟩ := fld (o := 0) uH (by rw [hxl']; decide) (hf 0 _ rfl)
 obtain ⟨A0, c0, x0, e0, f0, b0, d0, k0⟩ := dH (f := dZ) (Q := cP W) 3 (by decide) Tryz.underlying22 qz fp (fun _ _ _ h => cal_of h) h0
 obtain ⟨y1, h1⟩ := fld (o := 1) nZ (by rw [hxl']; decide) (hf 1 _ rfl)
 obtain ⟨A1, c1, x1, e1, f1, g1, k1⟩ := sl h1
 obtain ⟨y2, h2⟩ := fld (o := 2) wT (by rw [hxl']; decide) (hf 2 _ rfl)
 obtain ⟨A2, c2, x2, e2, f2, b2, d2, k2⟩ := dH (f := nN) (Q := fun r => r.length <= maxLen) 1 (by decide) Tryz.underlying24 sJ nM (fun _ _ _ h => op_of h) h2
 obtain ⟨y3, h3⟩ := fld (o := 3) uD (by rw [hxl']; decide) (hf 3 _ rfl)
 obtain ⟨A3, c3, x3, e3, f3, b3, d3, k3⟩ := dH (f := jb) (Q := jL W) 7 (by decide) Tryz.underlying25 qw cQ (fun _ _ _ h => off_of h) h3
 obtain ⟨y4, h4⟩ := fld (o := 4) uE (by rw [hxl']; decide) (hf 4 _ rfl)
 obtain ⟨A4, c4, x4, e4, f4, b4, d4, k4⟩ := dH (f := kV) (Q := xa) 6 (by decide) Tryz.underlying26 qx bT (fun _ _ _ h => lin_of h) h4
 obtain ⟨y5, h5⟩ := fld (o := 5) uG (by rw [hxl']; decide) (hf 5 _ rfl)
 obtain ⟨A5, c5, x5, e5, f5, b5, d5, k5⟩ := dH (f := kW) (Q := xe) 3 (by decide) Tryz.underlying27 qy dh (fun _ _ _ h => cls_of h) h5
 have hcs : cs = [.slice A0 x0.length c0, .slice A1 x1.length c1, .slice A2 x2.length c2, .slice A3 x3.length c3, .slice A4 x4.length c4, .slice A5 x5.length c5] := by
  have hend : cs.drop 6 = [] := List.drop_eq_nil_of_le (by omega)
  have h00 : cs = cs.drop 0 := rfl
  rw [h00, cut cs 0 1, e0, show 0 + 1 = 1 from rfl, cut cs 1 1, e1, show 1 + 1 = 2 from rfl, cut cs 2 1, e2, show 2 + 1 = 3 from rfl, cut cs 3 1, e3, show 3 + 1 = 4 from rfl, cut cs 4 1, e4, show 4 + 1 = 5 from rfl, cut cs 5 1, e5, show 5 + 1 = 6 from rfl, hend]
  rfl
 exact ⟨⟨x0, A0, c0, x1, A1, c1, x2, A2, c2, x3, A3, c3, x4, A4, c4, x5, A5, c5⟩, hcs, ⟨f0, k0, f1, k1, by rw [<- kU]; exact f2, k2, f3, k3, f4, k4, f5, k5, ⟨aG b0 d0, g1, aG b2 d2, aG b3 d3, aG b4 d4, aG b5 d5⟩⟩⟩
theorem vw {base : Nat} {v : Value} {d : DataW H} {ps : List MemPlace} (hval : Value.okWide Tryz.prog W .any base 29 v) (h : DataW.Trod enc Tryz.prog W 0 (fun _ => true) true 29 v d ps) :
  ∃ n : Net, v = bB n /\ bj W n := by
 have hv : ∃ cs, v = .agg cs := by
  unfold Value.okWide at hval
  rw [Tryz.underlying29] at hval
  obtain ⟨cs, hcs, _⟩ := hval
  exact ⟨cs, hcs⟩
 obtain ⟨cs, rfl⟩ := hv
 obtain ⟨fuel, hf⟩ := h
 obtain ⟨n, h1, h2⟩ := net_of hf
 have h3 : cs.toList = (iW n).toList := h1
 have h4 : cs = iW n := by rw [<- Array.toArray_toList (xs := cs), h3]
 exact ⟨n, by rw [h4]; rfl, h2⟩
theorem open_tab {base : Nat} {v : Value} {d : DataW H} {ps : List MemPlace} (hval : Value.okWide Tryz.prog W .any base 30 v) (h : DataW.Trod enc Tryz.prog W 0 (fun _ => true) true 30 v d ps) :
  ∃ A c nx, v = .slice A (List.length nx) c /\ Tab W A nx /\ nx.length <= maxLen := by
 obtain ⟨A, len, cap, rfl⟩ := okWide_slice Tryz.underlying30 hval
 obtain ⟨fuel, hf⟩ := h
 obtain ⟨A', c, ws, h1, h2, h3, h4, h5⟩ := dH (f := fun x : NsC => [slI x]) (Q := fun x => Rd W x.A (x.ns.map iV) /\ (∀ n ∈ x.ns, I64 n) /\ x.ns.length <= maxLen) 1 (by decide) Tryz.underlying30 kZ (fun _ => rfl)
  (fun _ _ _ h => by obtain ⟨A, c, ns, g1, g2, g3, g4⟩ := oK h; exact ⟨⟨ns, A, c⟩, g1, g2, g4, g3⟩) hf
 rw [ja] at h2
 simp [Value.cells] at h1
 obtain ⟨rfl, rfl, rfl⟩ := h1
 exact ⟨_, _, ws, rfl, ⟨h2, h5⟩, aG h3 h4⟩
end
end
end Go.Proofs.YtpeaiphdkgifaaaGreatDoor
