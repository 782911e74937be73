/-
  Rows that are read, rows that are made: what all walks of the journal's seat use.
-/
import Derived.Test.YtoaembpakmpolaaBase
import Derived.Deep.AppendSrc
import Derived.Deep.AppendLies
import Derived.Deep.DeepMust
import Derived.OwnWalk
import Derived.Deep.RegionHeld3
import Derived.Laws.BytesArg
namespace Go.Proofs.Ytoaembpakmpolaa
open Go.RowKit

theorem block_lt {w : World} {k : Nat} {o : Obj} (h : w.heap[k]? = some o) : k < w.heap.size := (Array.getElem?_eq_some_iff.1 h).1
theorem add_at (b o j : Nat) : (⟨b, o, none⟩ : Addr).add j = ⟨b, o + j, none⟩ := by unfold Addr.add; split <;> simp_all
theorem frozen_row {w : World} {B : Nat} {cs : Array Value} {t : TypeId} (h : w.heap[B]? = some (.cells cs t (0, 0))) (j : Nat) : w.frozen? ⟨B, j, none⟩ = false := by
  simp only [World.frozen?]
  rw [h]
  simp
abbrev bV (c : UInt8) : Value := .int .u8 c.toNat
abbrev sV (l : List UInt8) : Value := .string ⟨l.toArray⟩
abbrev iV (n : Int) : Value := .int .i64 n

/-- A row of one-cell elements that is read at A. -/
def Rd (w : World) (A : Option Addr) (xs : List Value) : Prop :=
  xs = [] ∨ ∃ b off, A = some ⟨b, off, none⟩ ∧ b < w.heap.size ∧ ∀ i u, xs[i]? = some u → w.cell? ⟨b, off + i, none⟩ = some u
/-- It lies below B. -/
def Low (B : Nat) (A : Option Addr) : Prop := ∀ a, A = some a → a.block < B
theorem Low.mono {B C : Nat} {A : Option Addr} (h : Low B A) (hB : B ≤ C) : Low C A := fun a ha => Nat.lt_of_lt_of_le (h a ha) hB

theorem Rd.nil (w : World) (A : Option Addr) : Rd w A [] := .inl rfl
theorem Rd.get {w : World} {A : Option Addr} {xs : List Value} (h : Rd w A xs) {i : Nat} (hi : i < xs.length) :
    ∃ b off, A = some ⟨b, off, none⟩ ∧ b < w.heap.size ∧ ∀ i u, xs[i]? = some u → w.cell? ⟨b, off + i, none⟩ = some u := by
  rcases h with rfl | h
  · simp at hi
  · exact h
theorem Rd.same {w w' : World} {A : Option Addr} {xs : List Value} (h : Rd w A xs) (hs : w.heap.size ≤ w'.heap.size) (hk : ∀ a, A = some a → a.block < w.heap.size → w'.heap[a.block]? = w.heap[a.block]?) : Rd w' A xs := by
  rcases h with h | ⟨b, off, rfl, hb, hc⟩
  · exact .inl h
  · refine .inr ⟨b, off, rfl, by omega, fun i u hu => ?_⟩
    rw [World.cell?_of_block (w := w) (w' := w') (a := ⟨b, off + i, none⟩) (hk ⟨b, off, none⟩ rfl hb)]
    exact hc i u hu
theorem Rd.below {w w' : World} {A : Option Addr} {xs : List Value} (h : Rd w A xs) (hb : Below w.heap.size w w') : Rd w' A xs :=
  h.same hb.size fun _ _ ha => hb.block _ ha
theorem Rd.low {w w' : World} {B : Nat} {A : Option Addr} {xs : List Value} (h : Rd w A xs) (hl : Low B A) (hb : Below B w w') : Rd w' A xs :=
  h.same hb.size fun a ha _ => hb.block _ (hl a ha)
theorem Rd.drewN {w : World} {A : Option Addr} {xs : List Value} (h : Rd w A xs) (n : Nat) : Rd (w.drewN n) A xs := h
theorem Rd.take {w : World} {A : Option Addr} {xs : List Value} (h : Rd w A xs) (n : Nat) : Rd w A (xs.take n) := by
  rcases h with rfl | ⟨b, off, rfl, hb, hc⟩
  · exact .inl (by simp)
  · refine .inr ⟨b, off, rfl, hb, fun i u hu => hc i u ?_⟩
    rw [List.getElem?_take] at hu
    split at hu
    · exact hu
    · cases hu
theorem Rd.drop {w : World} {b off : Nat} {xs : List Value} (h : Rd w (some ⟨b, off, none⟩) xs) (n : Nat) : Rd w (some ⟨b, off + n, none⟩) (xs.drop n) := by
  rcases h with rfl | ⟨b, off, he, hb, hc⟩
  · exact .inl (by simp)
  · cases he
    refine .inr ⟨b, off + n, rfl, hb, fun i u hu => ?_⟩
    rw [List.getElem?_drop] at hu
    rw [Nat.add_assoc]
    exact hc _ u hu
theorem Rd.dropA {w : World} {A : Option Addr} {xs : List Value} (h : Rd w A xs) (n : Nat) : Rd w (A.map fun x => x.add n) (xs.drop n) := by
  cases A with
  | none =>
    rcases h with rfl | ⟨_, _, h, _⟩
    · exact .inl (by simp)
    · cases h
  | some a =>
    rcases h with rfl | ⟨b, off, ha, hb, hc⟩
    · exact .inl (by simp)
    · cases ha
      have := Rd.drop (.inr ⟨b, off, rfl, hb, hc⟩) n
      simpa [add_at] using this
theorem Rd.of_own {w : World} {base : Nat} {e : TypeId} {v : Value} {n : Nat} {xs : List Value} (h : w.ownsRow base e 1 v n xs) : ∃ A c, v = .slice A n c ∧ n ≤ c ∧ c ≤ maxLen ∧ Rd w A xs := by
  rcases h.2 with ⟨rfl, rfl⟩ | ⟨g, cap, cur, rfl, hb, hg, hc, hm, hs, ht⟩
  · exact ⟨none, 0, rfl, Nat.le_refl _, Nat.zero_le _, .inl (List.eq_nil_of_length_eq_zero (by simpa using h.1))⟩
  · refine ⟨_, cap, rfl, hc, hm, .inr ⟨g, 0, rfl, block_lt hg, fun i u hu => ?_⟩⟩
    have := h.cells (g := g) rfl i u hu
    rw [show (⟨g, 0, none⟩ : Addr).add i = ⟨g, 0 + i, none⟩ by rw [add_at]] at this
    exact this
theorem Rd.cell {w : World} {b off : Nat} {xs : List Value} (h : Rd w (some ⟨b, off, none⟩) xs) {i : Nat} (hi : i < xs.length) : w.cell? ⟨b, off + i, none⟩ = some xs[i] := by
  obtain ⟨b, off, he, _, hc⟩ := h.get hi
  cases he
  exact hc i _ (List.getElem?_eq_getElem hi)

theorem Rd.byte {w : World} {b off : Nat} {l : List UInt8} (h : Rd w (some ⟨b, off, none⟩) (l.map bV)) {i : Nat} (hi : i < l.length) : w.cell? ⟨b, off + i, none⟩ = some (bV l[i]) := by
  have := h.cell (i := i) (by simpa using hi)
  simpa using this

/-- append of whatever source onto a row of the call's own. -/
theorem run_app {P : Program} (w : World) (base : Nat) (t tx ty e : TypeId) (i : TypeInfo) (z : Value) (size bytes : Nat) (ht : P.underlying t = some (.slice e)) (hi : P.info? e = some i) (hz : i.zero = some z)
    (hsize : i.size = size) (hby : i.bytes = bytes) (hzs : z.cells.size = size)
    (v : Value) (n : Nat) (xs : List Value) (hown : w.ownsRow base e size v n xs) (x : Value) (m : Nat) (news : List Value) (hs : Src P size tx x m news w)
    (h63 : n + m ≤ maxLen) (hbytes : (n + m) * bytes ≤ 140737488355328) (hbase : base ≤ w.heap.size) :
    ∃ v' w', (Builtin.append_ #[t, tx] ty #[v, x]).run P w = .ok v' w' ∧ w'.ownsRow base e size v' (n + m) (xs ++ news) ∧ w.grownBy w' v.ownBlock ∧ (v'.ownBlock = v.ownBlock ∨ v'.ownBlock = some w.heap.size) := by
  subst hsize
  subst hby
  have hsmall : n + m ≤ 9223372036854775807 := by simp only [maxLen] at h63; omega
  have hl := hs.newsLen
  have hlen : (xs ++ news).length = (n + m) * i.size := by rw [List.length_append, hown.1, hl, Nat.add_mul]
  have grown : ∀ (old : Nat), old < n + m → ∀ (row : Option Nat),
      (w.drew.alloc (.cells ((xs ++ news).toArray ++ Builtin.zeroCells z.cells (grownCap w (n + m) old e - (n + m))) e)).ownsRow base e i.size
        (.slice (some ⟨w.heap.size, 0, none⟩) (n + m) (grownCap w (n + m) old e)) (n + m) (xs ++ news) ∧
      w.grownBy (w.drew.alloc (.cells ((xs ++ news).toArray ++ Builtin.zeroCells z.cells (grownCap w (n + m) old e - (n + m))) e)) row := by
    intro old ho row
    have hge := grownCap_ge w (n + m) old e
    have hcm : grownCap w (n + m) old e ≤ maxLen := grownCap_le_maxLen w (n + m) old e h63
    refine ⟨⟨hlen, .inr ⟨w.heap.size, _, _, rfl, hbase, heap_alloc_new w.drew _, hge, hcm, ?_, ?_⟩⟩, ⟨rfl, rfl, rfl, by simp, fun k hk _ => Below.heap_alloc w.drew _ k hk⟩⟩
    · rw [Array.size_append, List.size_toArray, size_zeroCells, hzs, hlen, ← Nat.add_mul]
      congr 1
      omega
    · rw [Array.toList_append, List.toList_toArray, ← hlen]
      exact List.take_left
  rcases hown.2 with ⟨rfl, rfl⟩ | ⟨g, cap, cur, rfl, hbg, hg, hnc, hcm, hcs, htake⟩
  · have hx : xs = [] := List.eq_nil_of_length_eq_zero (by simpa using hown.1)
    subst hx
    by_cases hm : m = 0
    · subst hm
      have hn : news = [] := List.eq_nil_of_length_eq_zero (by simpa using hl)
      subst hn
      refine ⟨.slice none 0 0, w, ?_, World.ownsRow_nil w base e i.size, ⟨rfl, rfl, rfl, Nat.le_refl _, fun _ _ _ => rfl⟩, .inl rfl⟩
      rcases hs.kind with ⟨e', hk⟩ | hk <;>
        simp [Builtin.append_, run_underlying ht, run_underlying hk, sizeOf, typeInfo, hi, hs.len, hs.cells]
    · have hr := run_append_grow_src (P := P) w t tx ty e i z ht hi hz none 0 0 [] (run_firstCells_none w.drew i.size 0 0 0) x m news hs (by omega) (by omega) (growslice_fits (by omega) hbytes)
      have hgr := grown 0 (by omega) (Value.ownBlock (.slice none 0 0))
      exact ⟨_, _, hr, hgr.1, hgr.2, .inr rfl⟩
  · by_cases hroom : n + m ≤ cap
    · have hfit : n * i.size + news.length ≤ cur.size := by rw [hl, hcs, ← Nat.add_mul]; exact Nat.mul_le_mul_right _ hroom
      have hst := run_storeCells_at P g (n * i.size) e news 0 cur w hg (by simpa using hfit) hs.one
      simp only [Nat.add_zero] at hst
      have hr : (Builtin.append_ #[t, tx] ty #[.slice (some ⟨g, 0, none⟩) n cap, x]).run P w =
          .ok (.slice (some ⟨g, 0, none⟩) (n + m) cap) (w.setRow g (cur.toList.take (n * i.size) ++ news ++ cur.toList.drop (n * i.size + news.length)).toArray) := by
        rcases hs.kind with ⟨e', hk⟩ | hk <;>
          simp [Builtin.append_, run_underlying ht, run_underlying hk, sizeOf, typeInfo, hi, hs.len, hroom, hs.cells, Addr.add_lit, hst]
      refine ⟨_, _, hr, ⟨hlen, .inr ⟨g, cap, _, rfl, hbg, setRow_heap w g cur _ e _ hg, hroom, hcm, ?_, ?_⟩⟩, ⟨rfl, rfl, rfl, by simp, fun k _ hk => setRow_other w g k _ (fun e => hk (by simp [Value.ownBlock, e]))⟩, .inl rfl⟩
      · simp only [List.size_toArray, List.length_append, List.length_take, List.length_drop, Array.length_toList]
        omega
      · rw [htake, ← hlen]
        exact List.take_left
    · have holds : ∀ j u, xs[j]? = some u → w.cell? ((⟨g, 0, none⟩ : Addr).add j) = some u := hown.cells (g := g) rfl
      have hr := run_append_grow_src (P := P) w t tx ty e i z ht hi hz (some ⟨g, 0, none⟩) n cap xs (run_firstCells_some w.drew i.size n ⟨g, 0, none⟩ n cap xs hown.1 (by simpa using holds)) x m news hs (by omega) (by omega) (growslice_fits (by omega) hbytes)
      have hgr := grown cap (by omega) (Value.ownBlock (.slice (some ⟨g, 0, none⟩) n cap))
      exact ⟨_, _, hr, hgr.1, hgr.2, .inr rfl⟩

theorem wp_app {P : Program} {w : World} {o : Oper} {a : Act} {K : Act → World → Prop} {Q : Exit → Act → World → Prop} (s x : Operand) (t tx : TypeId)
    (ho : o.op = .call { callee := .builtin .append, args := #[s, x], argTypes := #[t, tx] })
    (base : Nat) (e : TypeId) (i : TypeInfo) (z : Value) (size bytes : Nat) (ht : P.underlying t = some (.slice e)) (hi : P.info? e = some i) (hz : i.zero = some z)
    (hsize : i.size = size) (hby : i.bytes = bytes) (hzs : z.cells.size = size)
    (v : Value) (n : Nat) (xs : List Value) (hs : a.eval s = v) (hown : w.ownsRow base e size v n xs) (vx : Value) (hx : a.eval x = vx) (m : Nat) (news : List Value) (hsrc : Src P size tx vx m news w)
    (h63 : n + m ≤ maxLen) (hbytes : (n + m) * bytes ≤ 140737488355328) (hbase : base ≤ w.heap.size)
    (h : ∀ A c w', w'.ownsRow base e size (.slice A (n + m) c) (n + m) (xs ++ news) → w.grownBy w' v.ownBlock → ((Value.slice A (n + m) c).ownBlock = v.ownBlock ∨ (Value.slice A (n + m) c).ownBlock = some w.heap.size) → K (a.put o.dst (.slice A (n + m) c)) w') : o.wp P a w K Q := by
  obtain ⟨v', w', hr, h2, h3, h4⟩ := run_app (P := P) w base t tx o.type e i z size bytes ht hi hz hsize hby hzs v n xs hown vx m news hsrc h63 hbytes hbase
  obtain ⟨A, c, rfl⟩ := own_form h2
  unfold Oper.wp execOp
  simp only [ho, resolve, invoke, builtin, Sem.run_bind, Sem.run_pure, Result.andThen_ok, List.map_toArray, List.map_cons, List.map_nil, hs, hx, hr]
  exact h A c w' h2 h3 h4
theorem wpList_app {P : Program} {w : World} {ops : Array Oper} {rest : List Oper} {o : Oper} {a : Act} {Q : Exit → Act → World → Prop} (hgd : o.guard = none) (s x : Operand) (t tx : TypeId)
    (ho : o.op = .call { callee := .builtin .append, args := #[s, x], argTypes := #[t, tx] })
    (base : Nat) (e : TypeId) (i : TypeInfo) (z : Value) (size bytes : Nat) (ht : P.underlying t = some (.slice e)) (hi : P.info? e = some i) (hz : i.zero = some z)
    (hsize : i.size = size) (hby : i.bytes = bytes) (hzs : z.cells.size = size)
    (v : Value) (n : Nat) (xs : List Value) (hs : a.eval s = v) (hown : w.ownsRow base e size v n xs) (vx : Value) (hx : a.eval x = vx) (m : Nat) (news : List Value) (hsrc : Src P size tx vx m news w)
    (h63 : n + m ≤ maxLen) (hbytes : (n + m) * bytes ≤ 140737488355328) (hbase : base ≤ w.heap.size)
    (h : ∀ A c w', w'.ownsRow base e size (.slice A (n + m) c) (n + m) (xs ++ news) → w.grownBy w' v.ownBlock → ((Value.slice A (n + m) c).ownBlock = v.ownBlock ∨ (Value.slice A (n + m) c).ownBlock = some w.heap.size) → wpList P ops Q rest (a.put o.dst (.slice A (n + m) c)) w') : wpList P ops Q (o :: rest) a w :=
  wpList_plain hgd fun _ hK => wp_app s x t tx ho base e i z size bytes ht hi hz hsize hby hzs v n xs hs hown vx hx m news hsrc h63 hbytes hbase fun A c w' h2 h3 h4 => hK _ _ (h A c w' h2 h3 h4)
theorem step_app {P : Program} {w : World} {ops : Array Oper} {o : Oper} {a : Act} {K : Act → World → Prop} {Q : Exit → Act → World → Prop} {E : Prop} (hgd : o.guard = none) (s x : Operand) (t tx : TypeId)
    (ho : o.op = .call { callee := .builtin .append, args := #[s, x], argTypes := #[t, tx] })
    (base : Nat) (e : TypeId) (i : TypeInfo) (z : Value) (size bytes : Nat) (ht : P.underlying t = some (.slice e)) (hi : P.info? e = some i) (hz : i.zero = some z)
    (hsize : i.size = size) (hby : i.bytes = bytes) (hzs : z.cells.size = size)
    (v : Value) (n : Nat) (xs : List Value) (hs : a.eval s = v) (hown : w.ownsRow base e size v n xs) (vx : Value) (hx : a.eval x = vx) (m : Nat) (news : List Value) (hsrc : Src P size tx vx m news w)
    (h63 : n + m ≤ maxLen) (hbytes : (n + m) * bytes ≤ 140737488355328) (hbase : base ≤ w.heap.size)
    (h : ∀ A c w', w'.ownsRow base e size (.slice A (n + m) c) (n + m) (xs ++ news) → w.grownBy w' v.ownBlock → ((Value.slice A (n + m) c).ownBlock = v.ownBlock ∨ (Value.slice A (n + m) c).ownBlock = some w.heap.size) → K (a.put o.dst (.slice A (n + m) c)) w') :
    if Region.wanted o (yielded ops a.tmps) = true then Oper.wp P o a w K Q else E := by
  have hw : Region.wanted o (yielded ops a.tmps) = true := by simp [Region.wanted, hgd]
  rw [if_pos hw]
  exact wp_app s x t tx ho base e i z size bytes ht hi hz hsize hby hzs v n xs hs hown vx hx m news hsrc h63 hbytes hbase h

/-- What is appended: a row that is read, a text. -/
theorem src_rd {P : Program} {w : World} {tx e' : TypeId} (hk : P.underlying tx = some (.slice e')) {A : Option Addr} {m c : Nat} {xs : List Value} (h : Rd w A xs) (hn : xs.length = m) (h1 : ∀ u ∈ xs, u.oneCell' = true) : Src P 1 tx (.slice A m c) m xs w := by
  rcases h with rfl | ⟨b, off, rfl, hb, hc⟩
  · obtain rfl : m = 0 := by simpa using hn.symm
    cases A with
    | none => exact Src.ofNil w hk c
    | some a => exact Src.ofSlice w hk a 0 c [] (by simp) (fun j u hu => by simp at hu) (fun u hu => by cases hu)
  · refine Src.ofSlice w hk _ m c xs (by omega) (fun j u hu => ?_) h1
    rw [show (⟨b, off, none⟩ : Addr).add j = ⟨b, off + j, none⟩ by rw [add_at]]
    exact hc j u hu
theorem src_text {P : Program} {w : World} {tx : TypeId} (hk : P.underlying tx = some .string) (l : List UInt8) : Src P 1 tx (sV l) l.length (l.map bV) w := by
  have := Src.ofString (P := P) w hk ⟨l.toArray⟩
  have e : (ByteArray.mk l.toArray).size = l.length := by simp [ByteArray.size]
  rw [e] at this
  simpa [byteCells] using this
/-- A text out of bytes that are read. -/
theorem conv_rd {P : Program} {w : World} {src e dst : TypeId} (hs : P.underlying src = some (.slice e)) (he : P.underlying e = some (.int .u8)) (hd : P.underlying dst = some .string) {A : Option Addr} {l : List UInt8} (c : Nat) (h : Rd w A (l.map bV)) :
    (convert src dst (.slice A l.length c)).run P w = .ok (sV l) w := by
  cases A with
  | none =>
    have h0 : l = [] := by
      rcases h with h | ⟨_, _, h, _⟩
      · simpa using h
      · cases h
    subst h0
    exact run_convert_bytes_nil w src e hs he _ _ dst hd
  | some a =>
    have hl : (loadCells a l.length).run P w = .ok ((l.map fun b => (b.toNat : Int)).map (Value.int .u8)).toArray w := by
      have := run_loadCells_list (P := P) w a ((l.map fun b => (b.toNat : Int)).map (Value.int .u8)) (fun j v hj => by
        rcases h with h | ⟨b, off, ha, hb, hc⟩
        · have h0 : l = [] := by simpa using h
          subst h0
          simp at hj
        · cases ha
          rw [add_at]
          exact hc j v (by rw [List.map_map] at hj; exact hj))
      simpa using this
    rw [run_convert_bytes_string w src dst e _ _ c hs he hd, run_bytesToString w _ _ c _ hl, foldl_push_bytes]
    have e1 : ((l.map fun b => (b.toNat : Int)).map fun n => UInt8.ofNat n.toNat) = l := by
      rw [List.map_map]
      conv => rhs; rw [← List.map_id l]
      refine List.map_congr_left fun b _ => ?_
      simp
    rw [e1]
    simp [ByteArray.empty, ByteArray.emptyWithCapacity]
    rfl
theorem one_b (l : List UInt8) : ∀ u ∈ l.map bV, u.oneCell' = true := fun u hu => by
  obtain ⟨_, _, rfl⟩ := List.mem_map.1 hu
  rfl
end Go.Proofs.Ytoaembpakmpolaa
