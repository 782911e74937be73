/-
  LexerLayout returns true, for every text and all numbers of gaps.
-/
import Derived.Test.YtbeodifgekhhpaaDoorLexRef
import Derived.Test.YtbeodifgekhhpaaDoorLexLayT
import Derived.Test.YtbeodifgekhhpaaDoorLawPrefixes
namespace Go.Proofs.YtbeodifgekhhpaaDoor
open Go.RowKit
attribute [local go_sem] ba_get ba_extract ba_append

def gapCells : Array Value := (Lex.refGaps.map fun s => Value.string ⟨s.toArray⟩).toArray
set_option maxHeartbeats 400000 in
theorem gaps_any (w : World) :
    Calls Tryd.prog 18 #[] w fun e w' => e = .returned (.slice (some ⟨w.heap.size, 0, none⟩) 6 6) ∧ w' = w.alloc (.cells gapCells 9) := by
  go_enter Tryd.func18, Tryd.ntmps18
  go_wp2
  go_ret
  exact ⟨rfl, rfl⟩
theorem gap_cell {w : World} {b : Nat} {t : TypeId} (h : w.heap[b]? = some (.cells gapCells t (0, 0))) (k : Nat) : w.cell? ⟨b, k % 6, none⟩ = some (.string ⟨(Lex.gapNo k).toArray⟩) := by
  rw [cell_of_row _ _ _ _ _ _ h]
  have hk : k % 6 < Lex.refGaps.length := Nat.mod_lt _ (by decide)
  simp [gapCells, Lex.gapNo, hk]
  rfl
theorem cell_app {w w5 : World} {o : Obj} {row : Option Nat} {p : Addr} {v : Value} (h : w.cell? p = some v) (hg : (w.alloc o).grownBy w5 row) (hne : some p.block ≠ row) : w5.cell? p = some v :=
  hg.cell ((World.cell?_alloc_lt w o p (World.block_lt_of_cell? w p h)).trans h) hne

set_option maxHeartbeats 1000000 in
theorem alike_any (ts us : List Lex.Tok) (n : Nat) (A A' : Option Addr) (c c' B B' : Nat) (w : World) (hn : ts.length = n) (hu : us.length = n) (hl : n ≤ 100000) (h : Toks w B A ts) (h' : Toks w B' A' us)
    (heq : ∀ i (hi : i < ts.length) (hi' : i < us.length), us[i].kind = ts[i].kind ∧ us[i].text = ts[i].text) :
    Calls Tryd.prog 19 #[.slice A n c, .slice A' n c'] w fun e w' => e = .returned (.bool true) ∧ Below w.heap.size w w' := by
  have H := Lib.hid h; clear h
  have H' := Lib.hid h'; clear h'
  have HE := Lib.hid heq; clear heq
  have HN := Lib.hid hn; clear hn
  have HU := Lib.hid hu; clear hu
  go_enter Tryd.func19, Tryd.ntmps19
  go_wp2
  go_loopg [5] n (fun g i wr => ∃ k m : Nat, k + g = n ∧ i = .int .i64 k ∧ w.drewN m = wr)
  case atStart => exact ⟨0, 0, by omega, rfl, rfl⟩
  case round =>
    obtain ⟨k, m, hk, rfl, rfl⟩ := hrel
    cases gk with
    | zero =>
      have hkz : ¬ ((k : Int) < (n : Int)) := by omega
      go_wp2
      go_ret
      exact ⟨rfl, below_drewN (Below.refl _ _) _⟩
    | succ g =>
      have hkz : (k : Int) < (n : Int) := by omega
      have hki : (0 : Int) ≤ (k : Int) := Int.natCast_nonneg _
      have hk1 : k < ts.length := by have := HN.out; omega
      have hk2 : k < us.length := by have := HU.out; omega
      obtain ⟨b, rfl, _, _⟩ := H.out.addr (by omega)
      obtain ⟨b', rfl, _, _⟩ := H'.out.addr (by omega)
      obtain ⟨a1, a2, a3⟩ := H.out.cells k hk1
      obtain ⟨c1, c2, c3⟩ := H'.out.cells k hk2
      obtain ⟨e1, e2⟩ := HE.out k hk1 hk2
      rw [e1] at c1
      rw [e2] at c2
      clear e1 e2
      obtain ⟨t, ht⟩ : ∃ t, ts[k] = t := ⟨_, rfl⟩
      rw [ht] at a1 a2 a3 c1 c2
      clear ht
      go_wp2
      go_quiet (fail)
      go_wp2
      go_roundg g
      case measure => omega
      case rel => exact ⟨k + 1, _, by omega, by first | rfl | simp, by first | rfl | simp⟩

/-- The offsets as cells of a slice of ints. -/
def intCells (l : List Nat) : List Value := l.map fun (n : Nat) => Value.int .i64 (n : Int)
theorem intInfo : (Tryd.prog.info? 3).map (fun i => (i.zero, i.size, i.bytes)) = some (some (.int .i64 0), 1, 8) := by kernel_rfl
/-- The numbers of the gaps. -/
def gapK (gs : List Nat) (i : Nat) : Nat := if i < gs.length then gs.getD i 0 else i
def layL (gs : List Nat) (ts : List Lex.Tok) : List (List UInt8 × Lex.Tok) := (List.range ts.length).map fun i => (Lex.gapNo (gapK gs i), ts.getD i ⟨0, [], 0⟩)
theorem layL_len (gs : List Nat) (ts : List Lex.Tok) : (layL gs ts).length = ts.length := by simp [layL]
theorem layL_get (gs : List Nat) (ts : List Lex.Tok) (i : Nat) (h : i < ts.length) : (layL gs ts)[i]'(by rw [layL_len]; exact h) = (Lex.gapNo (gapK gs i), ts[i]) := by simp [layL, h]
theorem layL_take (gs : List Nat) (ts : List Lex.Tok) (i : Nat) (h : i < ts.length) : (layL gs ts).take (i + 1) = (layL gs ts).take i ++ [(Lex.gapNo (gapK gs i), ts[i])] := by
  rw [List.take_succ_eq_append_getElem (by rw [layL_len]; exact h), layL_get gs ts i h]
theorem layL_ok (gs : List Nat) {s : List UInt8} {ts : List Lex.Tok} (h : Lex.lexF s = .ok ts) (hl : (Lex.layF (layL gs ts)).length ≤ 8000) : Lex.lexF (Lex.layF (layL gs ts)) = .ok (Lex.layT 0 (layL gs ts)) := by
  obtain ⟨_, hs, h3⟩ := Lex.lexF_ok h
  refine Lex.lexF_of_scan hl (Lex.scan_lay _ _ ?_ ?_) (by rw [Lex.layT_len, layL_len]; exact h3)
  · intro x hx
    simp only [layL, List.mem_map] at hx
    obtain ⟨i, _, rfl⟩ := hx
    exact Lex.gapNo_mem _
  · intro x hx
    simp only [layL, List.mem_map, List.mem_range] at hx
    obtain ⟨i, hi, rfl⟩ := hx
    have := Lex.scan_good s 0
    rw [hs] at this
    simp only [List.getD_eq_getElem?_getD, List.getElem?_eq_getElem hi, Option.getD_some]
    exact this _ (List.getElem_mem hi)

/-- The numbers of gaps that came in. -/
def GapArg (w : World) (A : Option Addr) (gs : List Nat) : Prop :=
  ∀ i (h : i < gs.length), ∃ b o, A = some ⟨b, o, none⟩ ∧ b < w.heap.size ∧ w.cell? ⟨b, o + i, none⟩ = some (.int .u8 (gs[i] : Nat))
theorem GapArg.below {w w' : World} {A : Option Addr} {gs : List Nat} (h : GapArg w A gs) (hb : Below w.heap.size w w') : GapArg w' A gs := by
  intro i hi
  obtain ⟨b, o, hA, hl, hc⟩ := h i hi
  exact ⟨b, o, hA, Nat.lt_of_lt_of_le hl hb.size, by rw [hb.cell (by exact hl)]; exact hc⟩
set_option maxHeartbeats 2000000 in
set_option maxRecDepth 100000 in
theorem layout_walk (s : List UInt8) (gs : List Nat) (Ag : Option Addr) (cg : Nat) (w : World) (hs : s.length ≤ maxLen) (hgl : gs.length ≤ maxLen) (hg256 : ∀ x ∈ gs, x < 256) (hG : GapArg w Ag gs) (hS : Syms w) :
    Calls Tryd.prog 5 #[.string ⟨s.toArray⟩, .slice Ag gs.length cg] w fun e w' => e = .returned (.bool true) ∧ Below w.heap.size w w' := by
  have HM := Lib.hid hs
  unfold maxLen at hs hgl
  have HS := Lib.hid hS; clear hS
  have HG := Lib.hid hG; clear hG
  have HG2 := Lib.hid hg256; clear hg256
  by_cases h1 : s.length ≤ 8100
  · have b1 : decide (s.length ≤ 8100) = true := by simp; omega
    cases hF : Lex.lexF s with
    | ok ts =>
      have HF := Lib.hid hF; clear hF
      have h3 := (Lex.lexF_ok HF.out).2.2
      have h8 := (Lex.lexF_ok HF.out).1
      obtain ⟨L, hL⟩ : ∃ L, L = layL gs ts := ⟨_, rfl⟩
      have HL := Lib.hid hL; clear hL
      obtain ⟨i0, hi0, hz0, hz1, hz2⟩ := info_parts intInfo
      go_enter Tryd.func5, Tryd.ntmps5
      go_wp2_with fail
      refine (head_any _ HS.out).mono ?_
      rintro e w1 ⟨rfl, hb1⟩
      have HS1 := Lib.hid (HS.out.below hb1 (sym_lt HS.out))
      go_wp2_with fail
      refine (small_any s _ HM.out).mono ?_
      rintro e w1 ⟨rfl, rfl⟩
      go_wp2_with fail
      refine (lex_ok s ts _ (by omega) HS1.out HF.out).mono ?_
      rintro e w2 ⟨hb2, A, c, rfl, hc1, ht1⟩
      have HS2 := Lib.hid (HS1.out.below hb2 (sym_lt HS1.out))
      go_wp2_with fail
      refine (gaps_any _).mono ?_
      rintro e w3 ⟨rfl, hw3⟩
      have hb3 : Below w2.heap.size w2 w3 := by rw [hw3]; exact (Below.refl _ _).alloc (Nat.le_refl _) _
      have hg3 : w3.heap[w2.heap.size]? = some (.cells gapCells 9 (0, 0)) := by rw [hw3]; exact heap_alloc_new w2 _
      clear hw3
      have HG3 := Lib.hid hg3; clear hg3
      have HGA := Lib.hid (((HG.out.below hb1).below hb2).below hb3)
      have HT1 := Lib.hid (ht1.below hb3); clear ht1
      have HS3 := Lib.hid (HS2.out.below hb3 (sym_lt HS2.out))
      go_wp2_with fail
      go_loopg [10, 11, 12] ts.length (fun g tx at_ i wr => ∃ (k : Nat) (x : List UInt8) (os : List Nat), k + g = ts.length ∧ i = .int .i64 k ∧ tx = .string ⟨x.toArray⟩ ∧ x.length ≤ k * 8100 ∧ Hid (x = Lex.layF (L.take k) ∧ os = (Lex.layT 0 (L.take k)).map (·.at_)) ∧ Below w3.heap.size w3 wr ∧
        os.length = k ∧ wr.ownsRow w3.heap.size 3 1 at_ k (intCells os))
      case atStart => exact ⟨0, [], [], by omega, rfl, rfl, by simp, ⟨rfl, rfl⟩, Below.refl _ _, rfl, World.ownsRow_nil _ _ _ _⟩
      case round =>
        obtain ⟨i, x, os, hig, rfl, rfl, hxl, HX, hbr, hol, hown⟩ := hrel
        have HO := Lib.hid hown; clear hown
        have HOL := Lib.hid hol; clear hol
        obtain ⟨Ao, co, rfl⟩ := own_form HO.out
        cases gk with
        | zero =>
          have hkz : ¬ ((i : Int) < (ts.length : Int)) := by omega
          have hLl : L.take i = L := List.take_of_length_le (by rw [HL.out, layL_len]; omega)
          have HX2 : Hid (x = Lex.layF L ∧ os = (Lex.layT 0 L).map (·.at_)) := by have := HX.out; rw [hLl] at this; exact this
          clear HX hLl
          have hsz := hbr.size
          have HS4 := Lib.hid (HS3.out.below hbr (sym_lt HS3.out))
          by_cases hx8 : x.length ≤ 8000
          · have hx8' : decide (8000 < (x.length : Int)) = false := by simp; omega
            have hx8'' : decide (8000 < x.length) = false := by simp; omega
            have HLX : Hid (Lex.lexF x = .ok (Lex.layT 0 L)) := by
              show _ = _
              rw [HX2.out.1, HL.out]
              exact layL_ok gs HF.out (by rw [← HL.out, ← HX2.out.1]; exact hx8)
            obtain ⟨us, hus⟩ : ∃ us, us = Lex.layT 0 L := ⟨_, rfl⟩
            have hul : us.length = ts.length := by rw [hus, Lex.layT_len, HL.out, layL_len]
            have HUL := Lib.hid hul
            have HUS := Lib.hid hus
            rw [← hus] at HLX
            clear hul hus
            go_wp2_with fail
            refine (lex_ok x us _ (by omega) HS4.out HLX.out).mono ?_
            rintro e w4 ⟨hb4, A4, c4, rfl, hc4, ht4⟩
            rw [HUL.out]
            have HT4 := Lib.hid ht4
            have HTT := Lib.hid ((HT1.out.below hbr).below hb4)
            clear ht4 hc4
            go_wp2_with fail
            refine (alike_any ts us ts.length _ _ _ _ _ _ _ rfl HUL.out (by omega) HTT.out HT4.out (fun j hj hj' => ?_)).mono ?_
            · have hjl : j < L.length := by rw [HL.out, layL_len]; exact hj
              have := Lex.layT_kind L 0 j hjl
              have e1 : L[j] = (Lex.gapNo (gapK gs j), ts[j]) := by simp only [HL.out]; exact layL_get gs ts j hj
              rw [e1] at this
              simp only [HUS.out]
              exact this
            rintro e w5 ⟨rfl, hb5⟩
            have HT5 := Lib.hid (HT4.out.below hb5)
            have HO5 := Lib.hid (own_below (own_below HO.out hb4) hb5)
            obtain rfl : i = ts.length := by omega
            go_wp2_with fail
            go_loopg [17] ts.length (fun g i wr => ∃ k n : Nat, k + g = ts.length ∧ i = .int .i64 k ∧ w5.drewN n = wr)
            case atStart => exact ⟨0, 0, by omega, rfl, rfl⟩
            case round =>
              obtain ⟨k, n, hk, rfl, rfl⟩ := hrel
              cases gk with
              | zero =>
                have hkz : ¬ ((k : Int) < (ts.length : Int)) := by omega
                go_wp2
                go_ret
                exact ⟨rfl, below_drewN (bt (bt (bt (bt (bt hb1 hb2) hb3) hbr) hb4) hb5) _⟩
              | succ g =>
                have hkz : (k : Int) < (ts.length : Int) := by omega
                have hki : (0 : Int) ≤ (k : Int) := Int.natCast_nonneg _
                have hku : k < us.length := by have := HUL.out; omega
                obtain ⟨b', rfl, _, _⟩ := HT5.out.addr (by have := HUL.out; omega)
                obtain ⟨c1, c2, c3⟩ := HT5.out.cells k hku
                obtain ⟨bo, hAo, hco⟩ : ∃ bo, Ao = some ⟨bo, 0, none⟩ ∧ w5.cell? ⟨bo, k, none⟩ = some (.int .i64 (us[k].at_ : Nat)) := by
                  rcases HO5.out.2 with ⟨_, h0⟩ | ⟨gb, cap, cur, hv, _⟩
                  · omega
                  · have hA : Ao = some ⟨gb, 0, none⟩ := by injection hv
                    subst hA
                    refine ⟨gb, rfl, ?_⟩
                    have := HO5.out.cells (g := gb) rfl k (.int .i64 (us[k].at_ : Nat)) (by
                      simp only [intCells, HX2.out.2, ← HUS.out, List.map_map, List.getElem?_map, List.getElem?_eq_getElem hku]
                      rfl)
                    rw [add_lit] at this
                    exact this
                subst hAo
                obtain ⟨v, hv⟩ : ∃ v, us[k].at_ = v := ⟨_, rfl⟩
                rw [hv] at c3 hco
                clear hv c1 c2
                go_wp2
                go_quiet (fail)
                go_wp2
                go_roundg g
                case measure => omega
                case rel => exact ⟨k + 1, _, by omega, by first | rfl | simp, by first | rfl | simp⟩
          · have hx8' : 8000 < (x.length : Int) := by omega
            go_wp2
            go_ret
            exact ⟨rfl, bt (bt (bt hb1 hb2) hb3) hbr⟩
        | succ g =>
          have hil : i < ts.length := by omega
          have hkz : (i : Int) < (ts.length : Int) := by omega
          have hki : (0 : Int) ≤ (i : Int) := Int.natCast_nonneg _
          obtain ⟨hk1, hk2, hk3⟩ := tok_kind HF.out i hil
          obtain ⟨b, rfl, _, hbl⟩ := HT1.out.addr (by omega)
          have HBL := Lib.hid hbl; clear hbl
          obtain ⟨a1, a2, a3⟩ := (HT1.out.below hbr).cells i hil
          have hgp : wr.heap[w2.heap.size]? = some (.cells gapCells 9 (0, 0)) := by rw [hbr.block _ (block_lt HG3.out)]; exact HG3.out
          have HGP := Lib.hid hgp; clear hgp
          have hgc := gap_cell HGP.out (gapK gs i)
          have hgnl := Lex.gapNo_len (gapK gs i)
          obtain ⟨t, ht⟩ : ∃ t, ts[i] = t := ⟨_, rfl⟩
          have HT := Lib.hid ht
          rw [ht] at hk1 hk2 hk3 a1 a2 a3
          clear ht
          obtain ⟨k, tx, a⟩ := t
          simp only at hk1 hk2 hk3 a1 a2 a3
          have cT := fun W => source_any k tx (a : Int) W hk1 (by omega)
          obtain ⟨q, hq⟩ : ∃ q, q = srcF k tx := ⟨_, rfl⟩
          have hqx : q.length ≤ tx.length + 2 := by rw [hq]; exact srcF_len k tx
          rw [← hq] at cT
          have CT := Lib.hid cT
          have HQ := Lib.hid hq
          clear cT hq
          obtain ⟨gp, hgp⟩ : ∃ gp, gp = Lex.gapNo (gapK gs i) := ⟨_, rfl⟩
          rw [← hgp] at hgc hgnl
          have HGN := Lib.hid hgp; clear hgp
          by_cases hgi : i < gs.length
          · have hgi' : (i : Int) < (gs.length : Int) := by omega
            obtain ⟨bg, og, rfl, hbg, hcg⟩ := HGA.out.below hbr i hgi
            have hkv : gapK gs i = gs[i] := by simp [gapK, hgi]
            rw [hkv] at hgc
            have hlt := HG2.out gs[i] (List.getElem_mem hgi)
            obtain ⟨v, hv⟩ : ∃ v, gs[i] = v := ⟨_, rfl⟩
            rw [hv] at hgc hcg hlt
            clear hv hkv
            have hbl3 := HBL.out
            have hne : some b ≠ (Value.slice Ao i co).ownBlock := fun he => by have := (HO.out.lt _ he.symm).1; omega
            have hsz := hbr.size
            go_wp2_with (first
              | (at_builtin; refine wpList_append_lies _ rfl _ _ _ rfl w3.heap.size 3 i0 _ 1 8 Tryd.underlying37 hi0 hz0 hz1 hz2 rfl (by omega) _ _ _ rfl (HO.out.alloc _) ⟨wr.heap.size, 0, none⟩ 1 1 [.int .i64 ((x.length : Int) + (gp.length : Int))] rfl rfl (cell_one_new _ _ _) (fun y hy => by simp at hy; subst hy; rfl) (by omega) (by unfold maxLen; omega) (by omega) (by simp; omega) (wr.heap.size + 1) (by simp) ?_; intro gg cap w5 hown1 hgrow hat hlt; have c1 := cell_app a1 hgrow hne; have c2 := cell_app a2 hgrow hne; have c3 := cell_app a3 hgrow hne)
              | (go_at_call 15; refine (CT.out _).mono ?_; rintro e w6 ⟨rfl, hb6⟩))
            go_roundg g
            case measure => omega
            case rel =>
              have hb5 : Below w3.heap.size w3 w5 := (hbr.alloc hbr.size _).grown hgrow (by simp; omega) (fun g' hg' => (HO.out.lt _ hg').1)
              refine ⟨i + 1, x ++ gp ++ q, os ++ [x.length + gp.length], by omega, by first | rfl | simp | go_num, by first | rfl | simp, by simp; omega, ⟨?_, ?_⟩, hb5.trans (hb6.mono hb5.size), by simp; exact HOL.out, ?_⟩
              · rw [HL.out, layL_take gs ts i hil, Lex.layF_snoc, ← HL.out, ← HX.out.1, HT.out, ← HGN.out, HQ.out]; rfl
              · rw [HL.out, layL_take gs ts i hil, Lex.layT_snoc, ← HL.out, List.map_append, ← HX.out.2, ← HX.out.1, ← HGN.out]; simp
              · have := own_below hown1 hb6
                simpa [intCells] using this
          · have hgi' : ¬ (i : Int) < (gs.length : Int) := by omega
            have hkv : gapK gs i = i := by simp [gapK, hgi]
            rw [hkv] at hgc
            clear hkv
            have hbl3 := HBL.out
            have hne : some b ≠ (Value.slice Ao i co).ownBlock := fun he => by have := (HO.out.lt _ he.symm).1; omega
            have hsz := hbr.size
            go_wp2_with (first
              | (at_builtin; refine wpList_append_lies _ rfl _ _ _ rfl w3.heap.size 3 i0 _ 1 8 Tryd.underlying37 hi0 hz0 hz1 hz2 rfl (by omega) _ _ _ rfl (HO.out.alloc _) ⟨wr.heap.size, 0, none⟩ 1 1 [.int .i64 ((x.length : Int) + (gp.length : Int))] rfl rfl (cell_one_new _ _ _) (fun y hy => by simp at hy; subst hy; rfl) (by omega) (by unfold maxLen; omega) (by omega) (by simp; omega) (wr.heap.size + 1) (by simp) ?_; intro gg cap w5 hown1 hgrow hat hlt; have c1 := cell_app a1 hgrow hne; have c2 := cell_app a2 hgrow hne; have c3 := cell_app a3 hgrow hne)
              | (go_at_call 15; refine (CT.out _).mono ?_; rintro e w6 ⟨rfl, hb6⟩))
            go_roundg g
            case measure => omega
            case rel =>
              have hb5 : Below w3.heap.size w3 w5 := (hbr.alloc hbr.size _).grown hgrow (by simp; omega) (fun g' hg' => (HO.out.lt _ hg').1)
              refine ⟨i + 1, x ++ gp ++ q, os ++ [x.length + gp.length], by omega, by first | rfl | simp | go_num, by first | rfl | simp, by simp; omega, ⟨?_, ?_⟩, hb5.trans (hb6.mono hb5.size), by simp; exact HOL.out, ?_⟩
              · rw [HL.out, layL_take gs ts i hil, Lex.layF_snoc, ← HL.out, ← HX.out.1, HT.out, ← HGN.out, HQ.out]; rfl
              · rw [HL.out, layL_take gs ts i hil, Lex.layT_snoc, ← HL.out, List.map_append, ← HX.out.2, ← HX.out.1, ← HGN.out]; simp
              · have := own_below hown1 hb6
                simpa [intCells] using this
    | error y =>
      obtain ⟨er, at_⟩ := y
      have HF := Lib.hid hF
      have he := (Lex.lexF_err hF).1
      clear hF
      have e1 : ((er : Int) != 0) = true := by simp; omega
      go_enter Tryd.func5, Tryd.ntmps5
      go_wp2_with fail
      refine (head_any _ HS.out).mono ?_
      rintro e w1 ⟨rfl, hb1⟩
      have HS1 := Lib.hid (HS.out.below hb1 (sym_lt HS.out))
      go_wp2_with fail
      refine (small_any s _ HM.out).mono ?_
      rintro e w1 ⟨rfl, rfl⟩
      go_wp2_with fail
      refine (lex_err s _ at_ _ (by omega) HS1.out HF.out).mono ?_
      rintro e w2 ⟨rfl, hb2⟩
      go_wp2
      go_ret
      exact ⟨rfl, bt hb1 hb2⟩
  · have b1 : decide (s.length ≤ 8100) = false := by simp; omega
    go_enter Tryd.func5, Tryd.ntmps5
    go_wp2_with fail
    refine (head_any _ HS.out).mono ?_
    rintro e w1 ⟨rfl, hb1⟩
    go_wp2_with fail
    refine (small_any s _ HM.out).mono ?_
    rintro e w1 ⟨rfl, rfl⟩
    go_wp2
    go_ret
    exact ⟨rfl, hb1⟩
end Go.Proofs.YtbeodifgekhhpaaDoor
