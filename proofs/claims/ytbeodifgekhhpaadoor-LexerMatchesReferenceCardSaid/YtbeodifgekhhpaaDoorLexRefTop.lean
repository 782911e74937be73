/-
  The walk over the reference's Lex.
-/
import Derived.Test.YtbeodifgekhhpaaDoorLexRefLex
namespace Go.Proofs.YtbeodifgekhhpaaDoor
open Go.RowKit
open Lex (skipF)
attribute [local go_sem] ba_get ba_extract ba_append

theorem heap_alloc_two (w : World) (a b : Obj) : ((w.alloc a).alloc b).heap[w.heap.size + 1]? = some b := by
  have := heap_alloc_new (w.alloc a) b
  simpa using this
/-- What holds at the head of the reference's loop. -/
def RefInv (l : List UInt8) (w : World) (g : Nat) (tk at_ : Value) (wr : World) : Prop :=
  ∃ (k : Nat) (ts : List Lex.Tok), at_ = .int .i64 (skipF l k) ∧ k ≤ l.length ∧ l.length - k < g ∧ ts.length ≤ 3000 ∧ Below w.heap.size w wr ∧
    wr.ownsRow w.heap.size 31 3 tk ts.length (toksCells ts) ∧ Lex.lexF l = Lex.lexAcc l g k ts
set_option maxHeartbeats 2000000 in
theorem refLex_any (l : List UInt8) (w : World) (hl : l.length ≤ 100000) :
    Calls Tryd.prog 13 #[.string ⟨l.toArray⟩] w (LexPost l w) := by
  by_cases h8 : l.length ≤ 8000
  · have h8' : decide (8000 < (l.length : Int)) = false := by simp; omega
    have h8'' : decide (8000 < l.length) = false := by simp; omega
    have cG0 := refGap_any l 0 w hl (by omega)
    have hs0 : (Lex.gapLen false (l.drop 0) : Int) = (skipF l 0 : Int) := by unfold skipF; omega
    rw [hs0] at cG0
    have CG0 := Lib.hid cG0
    clear cG0 hs0
    go_enter Tryd.func13, Tryd.ntmps13
    go_wp2_with fail
    refine CG0.out.mono ?_
    rintro e w1 ⟨rfl, rfl⟩
    go_wp2_with fail
    go_loopg [5, 6] (l.length + 1) (fun g tk at_ wr => RefInv l w g tk at_ wr)
    case atStart =>
      refine ⟨0, [], rfl, Nat.zero_le _, by omega, by simp, Below.refl _ _, World.ownsRow_nil _ _ _ _, ?_⟩
      unfold Lex.lexF
      rw [if_neg (by omega)]
    case round =>
      obtain ⟨k, ts, rfl, hk, hkg, hts, hbel, hown, hF⟩ := hrel
      have HF := Lib.hid hF; clear hF
      have HO := Lib.hid hown; clear hown
      have hk1 := Lex.skipF_ge l k
      have hk2 := Lex.skipF_le l k hk
      obtain ⟨A, c, rfl⟩ := own_form HO.out
      obtain ⟨g1, rfl⟩ : ∃ g', gk = g' + 1 := ⟨gk - 1, by omega⟩
      have HFF := HF.out
      rw [Lex.lexAcc] at HFF
      have HF2 := Lib.hid HFF
      clear HFF HF
      obtain ⟨q, hq⟩ : ∃ q, q = skipF l k := ⟨_, rfl⟩
      rw [← hq] at hk1 hk2 HF2 ⊢
      clear hq
      by_cases hql : q = l.length
      · have hqb : ¬ (q : Int) < (l.length : Int) := by omega
        have HF3 : Hid (Lex.lexF l = .ok ts) := by have := HF2.out; rw [if_pos hql] at this; exact this
        clear hql HF2
        go_wp2
        go_ret3
        refine ⟨hbel, ?_⟩
        rw [HF3.out]
        exact ⟨_, rfl, HO.out⟩
      · have hqb : (q : Int) < (l.length : Int) := by omega
        by_cases h3 : ts.length = 3000
        · have h3b : ((ts.length : Int) == 3000) = true := by simp [h3]
          have HF3 : Hid (Lex.lexF l = .error (2, q)) := by have := HF2.out; rw [if_neg hql, if_pos h3] at this; exact this
          clear h3 HF2
          go_wp2
          go_ret3
          refine ⟨hbel, ?_⟩
          rw [HF3.out]
          rfl
        · have h3b : ((ts.length : Int) == 3000) = false := by simp; omega
          have HF3 : Hid (Lex.lexF l = match Lex.tokLen (l.drop q) with
              | none => .error (30, q)
              | some (k, m) => Lex.lexAcc l g1 (q + m) (ts ++ [⟨k, Lex.tokText k ((l.drop q).take m), q⟩])) := by have := HF2.out; rw [if_neg hql, if_neg h3] at this; exact this
          clear HF2
          have cN := fun W => next_any (l.drop q) W (by simp; omega)
          cases ht : Lex.tokLen (l.drop q) with
          | none =>
            have cN' : ∀ W, Calls Tryd.prog 29 #[.string ⟨(l.drop q).toArray⟩] W fun e w' => e = .returned (.tuple #[.agg #[.int .i64 0, .string ⟨#[]⟩, .int .i64 0], .int .i64 0]) ∧ Below W.heap.size W w' := fun W => (cN W).mono fun e w' h => by
              obtain ⟨h1, h2⟩ := h
              rw [ht] at h2
              exact ⟨h2, h1⟩
            rw [ht] at HF3
            have CN := Lib.hid cN'
            clear cN cN' ht
            go_wp2_with fail
            refine (CN.out _).mono ?_
            rintro e w4 ⟨rfl, hb4⟩
            go_wp2
            go_ret3
            refine ⟨(hbel.trans (hb4.mono hbel.size)).alloc (Nat.le_trans hbel.size hb4.size) _, ?_⟩
            rw [HF3.out]
            rfl
          | some km =>
            obtain ⟨kk, m⟩ := km
            have cN' : ∀ W, Calls Tryd.prog 29 #[.string ⟨(l.drop q).toArray⟩] W fun e w' => e = .returned (.tuple #[.agg #[.int .i64 kk, .string ⟨(Lex.tokText kk ((l.drop q).take m)).toArray⟩, .int .i64 0], .int .i64 m]) ∧ Below W.heap.size W w' := fun W => (cN W).mono fun e w' h => by
              obtain ⟨h1, h2⟩ := h
              rw [ht] at h2
              exact ⟨h2, h1⟩
            obtain ⟨hm0, hml, _⟩ := Lex.tokLen_bound ht
            simp only [List.length_drop] at hml
            have HF4 : Hid (Lex.lexF l = Lex.lexAcc l g1 (q + m) (ts ++ [⟨kk, Lex.tokText kk ((l.drop q).take m), q⟩])) := by have := HF3.out; rw [ht] at this; exact this
            clear HF3
            have CN := Lib.hid cN'
            clear cN cN' ht
            obtain ⟨tx, htx⟩ : ∃ tx, tx = Lex.tokText kk ((l.drop q).take m) := ⟨_, rfl⟩
            rw [← htx] at CN HF4
            clear htx
            have hmb : ((m : Int) == 0) = false := by simp; omega
            have cG := fun W => refGap_any l (q + m) W hl (by omega)
            have CG := Lib.hid cG
            clear cG
            have hgl := Lex.gapLen_le false (l.drop (q + m))
            simp only [List.length_drop] at hgl
            obtain ⟨gp, hgp⟩ : ∃ gp, gp = Lex.gapLen false (l.drop (q + m)) := ⟨_, rfl⟩
            rw [← hgp] at CG hgl
            have HGP := Lib.hid hgp
            clear hgp
            obtain ⟨i0, hi0, hz0, hz1, hz2⟩ := info_parts tokInfo
            go_wp2_with fail
            refine (CN.out _).mono ?_
            rintro e w4 ⟨rfl, hb4⟩
            have hrow4 : w4.ownsRow w.heap.size 31 3 (.slice A ts.length c) ts.length (toksCells ts) := own_below HO.out hb4
            have HR4 := Lib.hid hrow4
            clear hrow4
            have hw4 : w.heap.size ≤ w4.heap.size := Nat.le_trans hbel.size hb4.size
            go_wp2_with (first
              | (at_builtin; refine wpList_append_lies _ rfl _ _ _ rfl w.heap.size 31 i0 _ 3 32 Tryd.underlying24 hi0 hz0 hz1 hz2 rfl (by omega) _ _ _ rfl ((HR4.out.alloc _).alloc _) ⟨w4.heap.size + 1, 0, none⟩ 1 1 (tokCells ⟨kk, tx, q⟩) rfl rfl (World.news_of_block (t := 31) (fr := (0, 0)) (heap_alloc_two w4 _ _)) (by simp [Value.oneCell', tokCells]) (by omega) (by unfold maxLen; omega) (by omega) (by simp; omega) (w4.heap.size + 1 + 1) (by simp) ?_; intro gg cap w5 hown1 hgrow hat hlt)
              | (go_at_call 28; refine (CG.out _).mono ?_; rintro e w6 ⟨rfl, rfl⟩))
            go_roundg g1
            case measure => omega
            case rel =>
              refine ⟨q + m, ts ++ [⟨kk, tx, q⟩], ?_, by omega, by omega, by simp; omega, ?_, ?_, HF4.out⟩
              · have := HGP.out
                unfold skipF
                rw [← this]
                first | rfl | simp | go_num
              · refine (((hbel.trans (hb4.mono hbel.size)).alloc hw4 _).alloc (by simp; omega) _).grown hgrow (by simp; omega) ?_
                intro g' hg'
                exact (HO.out.lt _ hg').1
              · simpa [toksCells] using hown1
  · have h8' : 8000 < (l.length : Int) := by omega
    go_enter Tryd.func13, Tryd.ntmps13
    go_wp2
    go_ret3
    refine ⟨Below.refl _ _, ?_⟩
    unfold Lex.lexF
    rw [if_pos (by omega)]
    rfl
end Go.Proofs.YtbeodifgekhhpaaDoor
