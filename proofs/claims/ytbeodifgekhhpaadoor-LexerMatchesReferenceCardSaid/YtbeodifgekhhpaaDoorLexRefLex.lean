/-
  The walks over the reference's Gap, next and Lex.
-/
import Derived.Test.YtbeodifgekhhpaaDoorLexKind
import Derived.Test.YtbeodifgekhhpaaDoorLexNextT
namespace Go.Proofs.YtbeodifgekhhpaaDoor
open Go.RowKit
open Lex (skipF)
attribute [local go_sem] ba_get ba_extract ba_append

theorem gapT_step (l : List UInt8) (m : Nat) (h : m < l.length) (hn : l[m].toNat ≠ 10) : m + Lex.gapLen true (l.drop m) = (m + 1) + Lex.gapLen true (l.drop (m + 1)) := by
  rw [List.drop_eq_getElem_cons h]; simp [Lex.gapLen, hn]; omega
theorem gapT_nl (l : List UInt8) (m : Nat) (h : m < l.length) (hn : l[m].toNat = 10) : m + Lex.gapLen true (l.drop m) = skipF l m := by
  unfold skipF; rw [List.drop_eq_getElem_cons h]; simp [Lex.gapLen, hn]
theorem gapT_pct (l : List UInt8) (m : Nat) (h : m < l.length) (hn : l[m].toNat = 37) : skipF l m = m + Lex.gapLen true (l.drop m) := by
  unfold skipF; rw [List.drop_eq_getElem_cons h, gapLen_pct _ _ hn]
set_option maxHeartbeats 1000000 in
theorem refGap_any (l : List UInt8) (k0 : Nat) (w : World) (hl : l.length ≤ 100000) (hk0 : k0 ≤ l.length) :
    Calls Tryd.prog 28 #[.string ⟨l.toArray⟩, .int .i64 k0] w fun e w' => e = .returned (.int .i64 (Lex.gapLen false (l.drop k0))) ∧ w = w' := by
  go_enter Tryd.func28, Tryd.ntmps28
  go_wp2
  go_loopg [5] (l.length + 1) (fun g i wr => ∃ k : Nat, k0 ≤ k ∧ k ≤ l.length ∧ l.length - k < g ∧ i = .int .i64 k ∧ Hid (skipF l k0 = skipF l k) ∧ w = wr)
  case atStart => exact ⟨k0, Nat.le_refl _, hk0, by omega, rfl, rfl, rfl⟩
  case round =>
    obtain ⟨k, hk1, hk, hkg, rfl, H, rfl⟩ := hrel
    have fin : ∀ j : Nat, Hid (skipF l k0 = j → ((j : Int) - (k0 : Int)) = (Lex.gapLen false (l.drop k0) : Int)) := fun j => by
      intro hj; unfold skipF at hj; omega
    by_cases hlt : k < l.length
    · by_cases hw : l[k].toNat = 32 ∨ l[k].toNat = 9 ∨ l[k].toNat = 10 ∨ l[k].toNat = 13
      · have HW := Lib.hid (skipF_ws l k hlt hw)
        rcases hw with hw | hw | hw | hw
        all_goals
          have b1 : ((l[k].toNat : Int) == 32) = decide (l[k].toNat = 32) := by rw [hw]; decide
          have b2 : ((l[k].toNat : Int) == 9) = decide (l[k].toNat = 9) := by rw [hw]; decide
          have b3 : ((l[k].toNat : Int) == 10) = decide (l[k].toNat = 10) := by rw [hw]; decide
          have b4 : ((l[k].toNat : Int) == 13) = decide (l[k].toNat = 13) := by rw [hw]; decide
          go_wp2
          go_roundg (gk - 1)
          case measure => omega
          case rel => exact ⟨k + 1, by omega, hlt, by omega, by first | rfl | simp | go_num, by have := H.out; rw [HW.out] at this; exact this, rfl⟩
      · have b1 : ((l[k].toNat : Int) == 32) = false := by simp; omega
        have b2 : ((l[k].toNat : Int) == 9) = false := by simp; omega
        have b3 : ((l[k].toNat : Int) == 10) = false := by simp; omega
        have b4 : ((l[k].toNat : Int) == 13) = false := by simp; omega
        by_cases hp : l[k].toNat = 37
        · have b5 : ((l[k].toNat : Int) != 37) = false := by simp [hp]
          have HP : Hid (skipF l k0 = k + Lex.gapLen true (l.drop k)) := by show _ = _; rw [H.out]; exact gapT_pct l k hlt hp
          have hn10 : l[k].toNat ≠ 10 := by omega
          have H10 := Lib.hid hn10
          clear hp hw hn10
          go_wp2
          obtain ⟨wo, rfl⟩ : ∃ wo : World, wo = w := ⟨_, rfl⟩
          obtain ⟨g1, rfl⟩ : ∃ g1, gk = g1 + 1 := ⟨gk - 1, by omega⟩
          go_loopg [5] l.length (fun g2 i wr => ∃ m : Nat, k ≤ m ∧ m ≤ l.length ∧ l.length - m ≤ g2 ∧ i = .int .i64 m ∧ Hid (skipF l k0 = m + Lex.gapLen true (l.drop m)) ∧ wo = wr)
          case atStart => exact ⟨k, Nat.le_refl _, hk, by omega, rfl, HP, rfl⟩
          case round =>
            obtain ⟨m, hm1, hm2, hmg, rfl, HM, rfl⟩ := hrel
            clear HP
            by_cases hml : m < l.length
            · by_cases h10 : l[m].toNat = 10
              · have c1 : ((l[m].toNat : Int) != 10) = false := by simp [h10]
                have HE : Hid (skipF l k0 = skipF l m) := by show _ = _; rw [HM.out]; exact gapT_nl l m hml h10
                have hkm : k < m := by
                  rcases Nat.lt_or_ge k m with hh | hh
                  · exact hh
                  · obtain rfl : k = m := by omega
                    exact absurd h10 H10.out
                clear h10
                go_wp2
                go_roundg g1
                case measure => omega
                case rel => exact ⟨m, by omega, hm2, by omega, rfl, HE, rfl⟩
              · have c1 : ((l[m].toNat : Int) != 10) = true := by simp; omega
                have HE : Hid (skipF l k0 = (m + 1) + Lex.gapLen true (l.drop (m + 1))) := by show _ = _; rw [HM.out]; exact gapT_step l m hml h10
                clear h10
                go_wp2
                go_roundg (gk - 1)
                case measure => omega
                case rel => exact ⟨m + 1, by omega, by omega, by omega, by first | rfl | simp | go_num, HE, rfl⟩
            · have hml' : ¬ (m : Int) < (l.length : Int) := by omega
              have HE : Hid (skipF l k0 = skipF l m) := by
                show _ = _
                rw [HM.out, skipF_end l m (by omega), List.drop_eq_nil_of_le (by omega)]; rfl
              go_wp2
              go_roundg g1
              case measure => omega
              case rel => exact ⟨m, by omega, hm2, by omega, rfl, HE, rfl⟩
        · have b5 : ((l[k].toNat : Int) != 37) = true := by simp; omega
          have HO := Lib.hid (skipF_other l k hlt hw hp)
          clear hp hw
          go_wp2
          go_ret
          exact ⟨ret_int ((fin k).out (by rw [H.out, HO.out])), rfl⟩
    · go_wp2
      go_ret
      exact ⟨ret_int ((fin k).out (by rw [H.out, skipF_end l k (by omega)])), rfl⟩

/-- What next leaves. -/
def NextPost (s : List UInt8) (w : World) (e : Ending) (w' : World) : Prop :=
  Below w.heap.size w w' ∧ match Lex.tokLen s with
    | none => e = .returned (.tuple #[.agg #[.int .i64 0, .string ⟨#[]⟩, .int .i64 0], .int .i64 0])
    | some (k, m) => e = .returned (.tuple #[.agg #[.int .i64 k, .string ⟨(Lex.tokText k (s.take m)).toArray⟩, .int .i64 0], .int .i64 m])
theorem refKind_le (p : List UInt8) : (Lex.refKind p).1 ≤ 4 := by
  have := refRun_le p
  unfold Lex.refKind
  split
  · simp
  · split
    · simp
    · split
      · simp
      · simp; omega
theorem next_found {s : List UInt8} {n kk : Nat} {tt : List UInt8} (hn : 1 ≤ n) (hl : n ≤ s.length) (hk : Lex.refKind (s.take n) = (kk, tt)) (h0 : kk ≠ 0) (hb : ¬ ((kk = 1 ∨ kk = 2) ∧ ∃ h : n < s.length, Lex.isWord s[n] = true))
    (hall : ∀ n', n < n' → n' ≤ s.length → n' ≤ 202 → ¬ Lex.okAt s n') : Lex.tokLen s = some (kk, n) ∧ tt = Lex.tokText kk (s.take n) := by
  have hok : Lex.okAt s n := by unfold Lex.okAt; rw [hk]; exact ⟨h0, hb⟩
  obtain ⟨k', m', ht, hnm⟩ := Lex.okAt_tok hn hl hok
  obtain ⟨h202, hok'⟩ := Lex.tok_okAt ht
  obtain ⟨_, hml, _⟩ := Lex.tokLen_bound ht
  obtain rfl : n = m' := by
    rcases Nat.lt_or_ge n m' with hh | hh
    · exact absurd hok' (hall m' hh hml h202)
    · omega
  have := Lex.refKind_piece ht
  rw [hk] at this
  simp only [Prod.mk.injEq] at this
  rw [this.1]
  exact ⟨ht, this.2⟩
theorem blk_cells {w : World} {b : Nat} {t : TypeId} {c0 c1 c2 : Value} (h : w.heap[b]? = some (.cells #[c0, c1, c2] t (0, 0))) :
    w.cell? ⟨b, 0, none⟩ = some c0 ∧ w.cell? ⟨b, 1, none⟩ = some c1 ∧ w.cell? ⟨b, 2, none⟩ = some c2 ∧ w.frozen? ⟨b, 0, none⟩ = false ∧ w.frozen? ⟨b, 1, none⟩ = false ∧ w.frozen? ⟨b, 2, none⟩ = false := by
  simp [World.cell?, World.frozen?, h]
set_option maxHeartbeats 1000000 in
theorem next_any (s : List UInt8) (w : World) (hs : s.length ≤ 100000) :
    Calls Tryd.prog 29 #[.string ⟨s.toArray⟩] w (NextPost s w) := by
  obtain ⟨n0, hn0⟩ : ∃ n0, n0 = min s.length 202 := ⟨_, rfl⟩
  have HN0 : Hid (min (s.length : Int) 202 = (n0 : Int)) := by show _ = _; omega
  have hna : n0 ≤ s.length := by omega
  have hnb : n0 ≤ 202 := by omega
  have HN := Lib.hid hn0; clear hn0
  go_enter Tryd.func29, Tryd.ntmps29
  go_wp2
  rw [HN0.out]
  go_loopg [4] n0 (fun g i wr => ∃ n : Nat, n = g ∧ n ≤ n0 ∧ i = .int .i64 n ∧ Hid (∀ n', n < n' → n' ≤ s.length → n' ≤ 202 → ¬ Lex.okAt s n') ∧ Below w.heap.size w wr ∧ Hid (wr.heap[w.heap.size]? = some (.cells #[.int .i64 0, .string ⟨#[]⟩, .int .i64 0] 31 (0, 0))))
  case atStart => exact ⟨n0, rfl, Nat.le_refl _, rfl, fun n' h1 h2 h3 => by have := HN.out; omega, (Below.refl _ _).alloc (Nat.le_refl _) _, heap_alloc_new w _⟩
  case round =>
    obtain ⟨n, rfl, hn, rfl, H, hb, HB⟩ := hrel
    cases n with
    | zero =>
      obtain ⟨c0, c1, c2, f0, f1, f2⟩ := blk_cells HB.out
      have hT : Lex.tokLen s = none := by
        cases ht : Lex.tokLen s with
        | none => rfl
        | some km =>
          obtain ⟨k, m⟩ := km
          obtain ⟨h202, hok⟩ := Lex.tok_okAt ht
          obtain ⟨hp, hml, _⟩ := Lex.tokLen_bound ht
          exact absurd hok (H.out m (by omega) hml h202)
      have HT := Lib.hid hT
      clear hT
      go_wp2
      exact bodyPost_ret (v := .tuple #[.agg #[.int .i64 0, .string ⟨#[]⟩, .int .i64 0], .int .i64 0]) (by simp [results, Tryd.results29, go_sem, c0, c1, c2]) rfl ⟨((hb.setCell (by simp) _).setCell (by simp) _).setCell (by simp) _, by rw [HT.out]⟩
    | succ g =>
      have hns : g + 1 ≤ s.length := by omega
      have hns' : (g : Int) + 1 ≤ (s.length : Int) := by omega
      have cK := fun W => kind_call (s.take (g + 1)) W (by simp; omega)
      have hkle := refKind_le (s.take (g + 1))
      obtain ⟨kt, hkt⟩ : ∃ kt, Lex.refKind (s.take (g + 1)) = kt := ⟨_, rfl⟩
      rw [hkt] at cK hkle
      obtain ⟨kk, tt⟩ := kt
      simp only at cK hkle
      have CK := Lib.hid cK
      have HKT := Lib.hid hkt
      clear cK hkt
      by_cases h0 : kk = 0
      · subst h0
        have HNX : Hid (∀ n', g < n' → n' ≤ s.length → n' ≤ 202 → ¬ Lex.okAt s n') := by
          intro n' h1 h2 h3
          rcases Nat.lt_or_ge (g + 1) n' with hh | hh
          · exact H.out n' hh h2 h3
          · obtain rfl : n' = g + 1 := by omega
            unfold Lex.okAt; rw [HKT.out]; simp
        go_wp2_with fail
        refine (CK.out _).mono ?_
        rintro e w4 ⟨rfl, hb4⟩
        go_wp2
        go_roundg g
        case measure => omega
        case rel => exact ⟨g, rfl, by omega, by first | rfl | simp | go_num, HNX, hb.trans (hb4.mono hb.size), by rw [hb4.block _ (block_lt HB.out)]; exact HB.out⟩
      · have k0 : ((kk : Int) == 0) = false := by simp; omega
        by_cases hbw : (kk = 1 ∨ kk = 2) ∧ ∃ h : g + 1 < s.length, Lex.isWord s[g + 1] = true
        · have HNX : Hid (∀ n', g < n' → n' ≤ s.length → n' ≤ 202 → ¬ Lex.okAt s n') := by
            intro n' h1 h2 h3
            rcases Nat.lt_or_ge (g + 1) n' with hh | hh
            · exact H.out n' hh h2 h3
            · obtain rfl : n' = g + 1 := by omega
              unfold Lex.okAt; rw [HKT.out]; exact fun hh => hh.2 hbw
          obtain ⟨hk12, hlt, hword⟩ := hbw
          have hlt' : (g : Int) + 1 < (s.length : Int) := by omega
          have cW := fun W => refWord_any s[g + 1] W
          rw [hword] at cW
          have CW := Lib.hid cW
          clear cW hword
          rcases hk12 with rfl | rfl
          all_goals
            go_wp2_with fail
            refine (CK.out _).mono ?_
            rintro e w4 ⟨rfl, hb4⟩
            go_wp2_with (go_at_call 20; refine (CW.out _).mono ?_; rintro e w5 ⟨rfl, rfl⟩)
            go_roundg g
            case measure => omega
            case rel => exact ⟨g, rfl, by omega, by first | rfl | simp | go_num, HNX, hb.trans (hb4.mono hb.size), by rw [hb4.block _ (block_lt HB.out)]; exact HB.out⟩
        · obtain ⟨ht, htt⟩ := next_found (by omega) hns HKT.out h0 hbw H.out
          have HT := Lib.hid ht
          have HTT := Lib.hid htt
          clear ht htt
          have hend : ∀ (w4 : World), Below wr.heap.size wr w4 → Hid (w4.cell? ⟨w.heap.size, 0, none⟩ = some (.int .i64 0) ∧ w4.cell? ⟨w.heap.size, 1, none⟩ = some (.string ⟨#[]⟩) ∧ w4.cell? ⟨w.heap.size, 2, none⟩ = some (.int .i64 0) ∧ w4.frozen? ⟨w.heap.size, 0, none⟩ = false ∧ w4.frozen? ⟨w.heap.size, 1, none⟩ = false ∧ w4.frozen? ⟨w.heap.size, 2, none⟩ = false) := fun w4 hb4 =>
            blk_cells (by rw [hb4.block _ (block_lt HB.out)]; exact HB.out)
          have HEND := Lib.hid hend
          clear hend
          by_cases hk12 : kk = 1 ∨ kk = 2
          · by_cases hlt : g + 1 < s.length
            · have hlt' : (g : Int) + 1 < (s.length : Int) := by omega
              have hword : Lex.isWord s[g + 1] = false := by
                cases hx : Lex.isWord s[g + 1] with
                | false => rfl
                | true => exact absurd ⟨hk12, hlt, hx⟩ hbw
              have cW := fun W => refWord_any s[g + 1] W
              rw [hword] at cW
              have CW := Lib.hid cW
              clear cW hword hbw
              rcases hk12 with rfl | rfl
              all_goals
                go_wp2_with fail
                refine (CK.out _).mono ?_
                rintro e w4 ⟨rfl, hb4⟩
                obtain ⟨c0, c1, c2, f0, f1, f2⟩ := (HEND.out w4 hb4).out
                go_wp2_with (go_at_call 20; refine (CW.out _).mono ?_; rintro e w5 ⟨rfl, rfl⟩)
                refine bodyPost_ret (v := .tuple #[.agg #[.int .i64 _, .string ⟨tt.toArray⟩, .int .i64 0], .int .i64 (g + 1)]) (by simp [results, Tryd.results29, go_sem, c0, c1, c2]; rfl) rfl ⟨(((hb.trans (hb4.mono hb.size)).setCell (by simp) _).setCell (by simp) _).setCell (by simp) _, ?_⟩
                rw [HT.out, HTT.out]; rfl
            · have hlt' : ¬ (g : Int) + 1 < (s.length : Int) := by omega
              clear hbw
              rcases hk12 with rfl | rfl
              all_goals
                go_wp2_with fail
                refine (CK.out _).mono ?_
                rintro e w4 ⟨rfl, hb4⟩
                obtain ⟨c0, c1, c2, f0, f1, f2⟩ := (HEND.out w4 hb4).out
                go_wp2
                refine bodyPost_ret (v := .tuple #[.agg #[.int .i64 _, .string ⟨tt.toArray⟩, .int .i64 0], .int .i64 (g + 1)]) (by simp [results, Tryd.results29, go_sem, c0, c1, c2]; rfl) rfl ⟨(((hb.trans (hb4.mono hb.size)).setCell (by simp) _).setCell (by simp) _).setCell (by simp) _, ?_⟩
                rw [HT.out, HTT.out]; rfl
          · have k1 : ((kk : Int) == 1) = false := by simp; omega
            have k2 : ((kk : Int) == 2) = false := by simp; omega
            clear hbw
            go_wp2_with fail
            refine (CK.out _).mono ?_
            rintro e w4 ⟨rfl, hb4⟩
            obtain ⟨c0, c1, c2, f0, f1, f2⟩ := (HEND.out w4 hb4).out
            go_wp2
            refine bodyPost_ret (v := .tuple #[.agg #[.int .i64 kk, .string ⟨tt.toArray⟩, .int .i64 0], .int .i64 (g + 1)]) (by simp [results, Tryd.results29, go_sem, c0, c1, c2]) rfl ⟨(((hb.trans (hb4.mono hb.size)).setCell (by simp) _).setCell (by simp) _).setCell (by simp) _, ?_⟩
            rw [HT.out, HTT.out]; rfl
end Go.Proofs.YtbeodifgekhhpaaDoor
