/-
  The keys of a set of sights in increasing order: the walk.
-/
import Derived.Test.YtpmogdddngbneaaCapCmp2
import Derived.Test.YtpmogdddngbneaaCapThe
import Derived.Outline
import Derived.Deep.DeepMust
namespace Go.Proofs.Ytpmogdddngbneaa
open Go.RowKit Go.Sort

abbrev fn0 (n : FuncId) : Value := .func (.func n) #[] #[]
theorem by_any (n : FuncId) (w : World) : Calls Try.prog 29 #[fn0 n] w fun e w' => ∃ b, e = .returned (.func (.func 36) #[] #[.pointer (some ⟨b, 0, none⟩)]) ∧ w'.cell? ⟨b, 0, none⟩ = some (fn0 n) ∧ Gr w w' := by
  go_enter Try.func29, Try.ntmps29
  go_wp2
  go_ret
  exact ⟨_, rfl, cell_of_blk _ _ 0 _ _ (heap_alloc_new w _) rfl, Gr.alloc _ _⟩
theorem then_any (f g : FuncId) (cs ds : Array Value) (w : World) : Calls Try.prog 31 #[.func (.func f) #[] cs, .func (.func g) #[] ds] w fun e w' => ∃ b c, e = .returned (.func (.func 38) #[] #[.pointer (some ⟨b, 0, none⟩), .pointer (some ⟨c, 0, none⟩)]) ∧ w'.cell? ⟨b, 0, none⟩ = some (.func (.func f) #[] cs) ∧ w'.cell? ⟨c, 0, none⟩ = some (.func (.func g) #[] ds) ∧ Gr w w' := by
  go_enter Try.func31, Try.ntmps31
  go_wp2
  go_ret
  refine ⟨_, _, rfl, ?_, ?_, (Gr.alloc _ _).trans (Gr.alloc _ _)⟩
  rotate_left
  · have := heap_alloc_new (w.alloc (.cells #[Value.func (Fn.func f) #[] cs] 58)) (.cells #[Value.func (Fn.func g) #[] ds] 58)
    rw [show (w.alloc (.cells #[Value.func (Fn.func f) #[] cs] 58)).heap.size = w.heap.size + 1 by simp] at this
    exact cell_of_blk _ _ 0 _ _ this rfl
  exact (Gr.alloc _ _).cell (by simp) (cell_of_blk _ _ 0 _ _ (heap_alloc_new w _) rfl)
/-- Cells that are known in a world that has grown. -/
def Cl (W w' : World) (F : List (Nat × Value)) : Prop := Gr W w' ∧ ∀ p ∈ F, w'.cell? ⟨p.1, 0, none⟩ = some p.2
theorem Cl.call {W w0 w1 : World} {F : List (Nat × Value)} (h : Cl W w0 F) (g : Gr w0 w1) {b : Nat} {v : Value} (hc : w1.cell? ⟨b, 0, none⟩ = some v) : Cl W w1 ((b, v) :: F) :=
  ⟨h.1.trans g, fun p hp => by
    rcases List.mem_cons.1 hp with rfl | hp
    · exact hc
    · exact g.cell (cell_lt (h.2 p hp)) (h.2 p hp)⟩
theorem Cl.call2 {W w0 w1 : World} {F : List (Nat × Value)} (h : Cl W w0 F) (g : Gr w0 w1) {b c : Nat} {v u : Value} (hc : w1.cell? ⟨b, 0, none⟩ = some v) (hd : w1.cell? ⟨c, 0, none⟩ = some u) : Cl W w1 ((c, u) :: (b, v) :: F) :=
  ((h.call g hc).call (Gr.refl _) hd)
theorem Cl.get {W w' : World} {F : List (Nat × Value)} (h : Cl W w' F) {b : Nat} {v : Value} (hm : (b, v) ∈ F) : w'.cell? ⟨b, 0, none⟩ = some v := h.2 _ hm
/-- What is still to come of a set of sights. -/
def LeftIs (ks xs : List Sight) (left : Lit → Bool) : Prop := ∀ s : Sight, s.ok → left (skey s) = decide (s ∈ ks ∧ s ∉ xs)
theorem LeftIs.start {ks : List Sight} (hk : ∀ x ∈ ks, x.ok) : LeftIs ks [] (Maps.has (sset ks)) := fun s hs => by
  unfold sset
  rw [has_setD _ (skeys ks), sset_any hk hs]
  simp
theorem LeftIs.step {ks xs : List Sight} {left : Lit → Bool} {x : Sight} (h : LeftIs ks xs left) (hx : x.ok) : LeftIs ks (xs ++ [x]) (fun z => left z && !z.sameKey (skey x)) := fun s hs => by
  show (left (skey s) && !(skey s).sameKey (skey x)) = _
  rw [h s hs, skey_same hs hx, Bool.eq_iff_iff]
  simp [and_assoc]
theorem LeftIs.mem {ks xs : List Sight} {left : Lit → Bool} {x : Sight} (h : LeftIs ks xs left) (hx : x.ok) (hl : left (skey x) = true) : x ∈ ks ∧ x ∉ xs := by
  rw [h x hx] at hl
  exact of_decide_eq_true hl
theorem LeftIs.done {ks xs : List Sight} {left : Lit → Bool} (h : LeftIs ks xs left) (hk : ∀ x ∈ ks, x.ok) (hl : ∀ kl, left kl = false) : ∀ s ∈ ks, s ∈ xs := fun s hs => by
  have := h s (hk s hs)
  rw [hl] at this
  have := of_decide_eq_false this.symm
  exact Decidable.byContradiction fun hn => this ⟨hs, hn⟩
theorem nodup_snoc {xs : List Sight} {x : Sight} (h : xs.Nodup) (hx : x ∉ xs) : (xs ++ [x]).Nodup := by
  rw [List.nodup_append]
  exact ⟨h, by simp, fun a ha b hb => by rw [List.mem_singleton.1 hb]; exact fun e => hx (e ▸ ha)⟩
theorem encS_len (s : Sight) : (encS s).length = 3 := rfl
theorem one_s (s : Sight) : ∀ v ∈ encS s, v.oneCell' = true := by
  intro v hv
  simp [encS] at hv
  rcases hv with rfl | rfl | rfl <;> rfl
theorem flat_len {α : Type} (enc : α → List Value) (k : Nat) (hk : ∀ x, (enc x).length = k) : ∀ xs : List α, (xs.flatMap enc).length = xs.length * k
  | [] => by simp
  | x :: xs => by rw [List.flatMap_cons, List.length_append, hk, flat_len enc k hk xs, List.length_cons, Nat.add_mul]; omega
theorem flat_get {α : Type} (enc : α → List Value) (k : Nat) (hk : ∀ x, (enc x).length = k) : ∀ (xs : List α) (i j : Nat) (hi : i < xs.length), j < k → (xs.flatMap enc)[i * k + j]? = (enc xs[i])[j]?
  | [], i, j, hi, _ => by simp at hi
  | x :: xs, 0, j, _, hj => by rw [List.flatMap_cons]; simp; rw [List.getElem?_append_left (by rw [hk]; exact hj)]
  | x :: xs, i + 1, j, hi, hj => by
    rw [List.flatMap_cons, List.getElem?_append_right (by rw [hk, Nat.add_mul]; omega), hk, show (i + 1) * k + j - k = i * k + j by rw [Nat.add_mul]; omega, flat_get enc k hk xs i j (by simpa using hi) hj]
    rfl
theorem own_holds {w : World} {base g c : Nat} {e : TypeId} {xs : List Sight} (h : w.ownsRow base e 3 (.slice (some ⟨g, 0, none⟩) xs.length c) xs.length (xs.flatMap encS)) : HoldsK encS 3 w g 0 xs.toArray ∧ g < w.heap.size ∧ base ≤ g := by
  have hg := h.2
  rcases hg with ⟨hv, _⟩ | ⟨g', cap, cur, hv, hb, hg, hc, hm, hs, ht⟩
  · cases hv
  · cases hv
    refine ⟨fun j hj => ?_, block_lt hg, hb⟩
    rw [size_flatK] at hj
    simp only [List.size_toArray] at hj
    have e1 : (flatK encS 3 xs.toArray)[j]! = (encS xs.toArray[j / 3]!)[j % 3]! := get_flatK _ _ _ _ (by simpa using hj)
    have hd : j / 3 < xs.length := by omega
    have hgt := flat_get encS 3 encS_len xs (j / 3) (j % 3) hd (by omega)
    rw [show j / 3 * 3 + j % 3 = j by omega] at hgt
    have e2 : (encS xs[j / 3])[j % 3]? = some (encS xs[j / 3])[j % 3]! := by
      rw [List.getElem!_eq_getElem?_getD, List.getElem?_eq_getElem (by rw [encS_len]; omega)]
      rfl
    rw [e2] at hgt
    have := h.cells (g := g) rfl j _ hgt
    rw [add_at] at this
    refine ⟨?_, frozen_row hg _⟩
    rw [this, e1]
    congr 1
    simp [hd]
theorem sightInf : (Try.prog.info? 39).map (fun i => (i.zero, i.size, i.bytes)) = some (some (.agg #[iV 0, iV 0, iV 0]), 3, 24) := by kernel_rfl
theorem then_enters (args : Array Value) (w : World) : (callFunc 38 args).run Try.prog w = .ok (.enter 38 args) w := by simp [go_sem]
theorem boolInv {v : Value} {y : DataW Unit × List MemPlace} (h : plainElem Try.prog 4 v = some y) : ∃ c, v = .bool c := by
  unfold plainElem at h
  rw [Try.underlying4] at h
  cases v <;> simp at h
  exact ⟨_, rfl⟩
theorem news_at (w : World) (cs : List Value) (t : TypeId) (H : Nat) (hH : w.heap.size = H) (j : Nat) (u : Value) (h : cs[j]? = some u) : (w.alloc (.cells cs.toArray t)).cell? ((⟨H, 0, none⟩ : Addr).add j) = some u := by
  subst hH
  exact World.news_of_block (heap_alloc_new w (.cells cs.toArray t)) j u (by simpa using h)
theorem mapBlock_other (w : World) (b i : Nat) (f : Array Value → Array Value) (h : i ≠ b) : (mapBlock w b f).heap[i]? = w.heap[i]? := by
  simp only [mapBlock]
  rw [Array.getElem?_modify]
  simp [Ne.symm h]
theorem below_sort {w : World} {blk off n B : Nat} {d : Array Sight} {os : Array Obj} (h : B ≤ blk) (hb : blk < w.heap.size) : Below B w (sortWorldK encS 3 w blk off n d os) := by
  refine ⟨rfl, rfl, rfl, by unfold sortWorldK; rw [size_grow, size_putRowK]; exact Nat.le_add_right _ _, fun i hi => ?_⟩
  have e : (sortWorldK encS 3 w blk off n d os).heap[i]? = (putRowK encS 3 (Sort.ahead w n) blk off d).heap[i]? := by
    simp only [sortWorldK, grow]
    rw [Array.getElem?_append_left (by rw [size_putRowK]; show i < w.heap.size; omega)]
  rw [e]
  exact mapBlock_other (Sort.ahead w n) blk i _ (by omega)
theorem holds_rd {w : World} {g : Nat} {l : List Sight} (h : HoldsK encS 3 w g 0 l.toArray) (hg : g < w.heap.size) : Rd w (some ⟨g, 0, none⟩) (l.flatMap encS) := by
  refine .inr ⟨g, 0, rfl, hg, fun j u hu => ?_⟩
  have hj : j < l.length * 3 := by rw [← flat_len encS 3 encS_len l]; exact (List.getElem?_eq_some_iff.1 hu).1
  have hd : j / 3 < l.length := by omega
  have hgt := flat_get encS 3 encS_len l (j / 3) (j % 3) hd (by omega)
  rw [show j / 3 * 3 + j % 3 = j by omega, hu] at hgt
  have := h j (by rw [size_flatK]; simpa using hj)
  rw [this.1, get_flatK _ _ _ _ (by simpa using hj)]
  have e3 : l.toArray[j / 3]! = l[j / 3] := by simp [hd]
  rw [e3, show ((encS l[j / 3])[j % 3]!) = u from by rw [List.getElem!_eq_getElem?_getD, ← hgt]; rfl]
  rfl
/-- slices.SortFunc at sights. -/
theorem sortf_any (xs : List Sight) (g c : Nat) (b5 : Nat) (w5 wr : World) (b1 p1 b2 p2 c1 c2 p3 : Nat) (HE : Env2 w5 b1 p1 b2 p2 c1 c2 p3) (h5 : b5 = w5.heap.size) (hB : Below b5 w5 wr) (hg : b5 ≤ g) (hgw : g < wr.heap.size) (hH : HoldsK encS 3 wr g 0 xs.toArray) (hl : xs.length ≤ 1000000) (hn : xs.Nodup) :
    Calls Try.prog 34 #[.slice (some ⟨g, 0, none⟩) xs.length c, .func (.func 38) #[] #[.pointer (some ⟨c1, 0, none⟩), .pointer (some ⟨c2, 0, none⟩)]] wr fun e w' => e = .returned (.tuple #[]) ∧ ∃ l : List Sight, l.length = xs.length ∧ Rd w' (some ⟨g, 0, none⟩) (l.flatMap encS) ∧ g < w'.heap.size ∧ (∀ s, s ∈ l ↔ s ∈ xs) ∧ Strict l ∧ Below b5 wr w' := by
  have hc : CmpLays Try.prog 38 #[.pointer (some ⟨c1, 0, none⟩), .pointer (some ⟨c2, 0, none⟩)] encS 3 cmpS g 0 xs.toArray.size wr := fun m os dk _ x y => by
    have hb := hB.trans (below_sort (w := wr) (off := 0) (n := m) (d := dk) (os := os) hg hgw)
    have k : ∀ {a v}, w5.cell? ⟨a, 0, none⟩ = some v → (sortWorldK encS 3 wr g 0 m dk os).cell? ⟨a, 0, none⟩ = some v := fun {a v} h => (hb.cell (p := ⟨a, 0, none⟩) (by rw [h5]; exact cell_lt h)).trans h
    have E : Env2 (sortWorldK encS 3 wr g 0 m dk os) b1 p1 b2 p2 c1 c2 p3 := ⟨⟨k HE.env.e1, k HE.env.e2, k HE.env.e3, k HE.env.e4⟩, k HE.e5, k HE.e6, k HE.e7⟩
    exact (then2 x y b1 p1 b2 p2 c1 c2 p3 _ E).mono fun e w' ⟨he, hg⟩ => ⟨he, hg⟩
  have := AnyQ.slices_SortFunc Try.sortS 3 Try.isAgg39 Try.sizeOf39 encS encS_len one_s cmpS cmpS_swo 38 #[.pointer (some ⟨c1, 0, none⟩), .pointer (some ⟨c2, 0, none⟩)] g 0 c xs.toArray wr then_enters hc hH hgw (by simp; omega)
  rw [show xs.toArray.size = xs.length from List.size_toArray] at this
  refine this.mono ?_
  rintro e w' ⟨he, d', n, os, hp, hs, rfl⟩
  refine ⟨he, d'.toList, by have := hp.1; simpa using this, ?_⟩
  have hd := hp.1
  simp only [List.size_toArray] at hd
  have hH' : HoldsK encS 3 (sortWorldK encS 3 wr g 0 n d' os) g 0 d' := holdsK_sortWorldK_c encS 3 wr g 0 xs.toArray d' n os hH hgw (by simpa using hd)
  have hz := size_sortWorldK_c encS 3 wr g 0 n d' os
  have hperm : d'.toList.Perm xs := by
    have := hp.2.2
    rw [show d'.extract 0 xs.length = d' by rw [← hd]; simp, show xs.toArray.extract 0 xs.length = xs.toArray by simp] at this
    simpa using this
  refine ⟨holds_rd (by simpa using hH') (by omega), by omega, fun s => hperm.mem_iff, strict_of_sorted (hperm.nodup_iff.2 hn) (fun i j hi hj hij => ?_), below_sort hg hgw⟩
  have := hs i j (Nat.zero_le _) hij (by rw [← hd]; simpa using hj)
  rw [cmpS_lt] at this
  simp only [Array.length_toList] at hi hj
  simpa [hi, hj] using this
/-- A step of a range over a set of sights. -/
structure NextS (w w' : World) (b r n : Nat) (D : DataW Unit) (left : Lit → Bool) (cnt cnt' : Nat) (x : Sight) (v : Value) : Prop where
  ok : x.ok
  lf : left (skey x) = true
  rg : w'.ranges Try.prog 39 (plainElem Try.prog 4) b r n D (fun z => left z && !z.sameKey (skey x)) cnt'
  lt : cnt' < cnt
  gr : w.grownBy w' (some r)
  sz : w'.heap.size = w.heap.size
  en : (Instr.entry (.pointer (some ⟨r, 0, none⟩))).run Try.prog w' = .ok (.tuple #[gV x, v]) w'
theorem wpList_next_S {w : World} {ops : Array Oper} {rest : List Oper} {o : Oper} {a : Act} {Q : Exit → Act → World → Prop} (hg : o.guard = none) (it : Operand) (hop : o.op = Op.next it false)
    (b r n : Nat) (D : DataW Unit) (left : Lit → Bool) (cnt : Nat) (hit : a.eval it = .pointer (some ⟨r, 0, none⟩)) (h : w.ranges Try.prog 39 (plainElem Try.prog 4) b r n D left cnt)
    (hDone : Hid (∀ kl, left kl = false) → wpList Try.prog ops Q rest (a.put o.dst (.tuple #[.bool false])) w)
    (hMore : ∀ (x : Sight) (v : Value) (w' : World) (cnt' : Nat), NextS w w' b r n D left cnt cnt' x v → wpList Try.prog ops Q rest (a.put o.dst (.tuple #[.bool true, gV x, v])) w') :
    wpList Try.prog ops Q (o :: rest) a w :=
  wpList_next_ranges w hg it hop 39 lawS _ gV id (fun key kl hkey => by obtain ⟨x, hx, _⟩ := key_inv hkey; exact ⟨x, hx⟩) (fun v y hv => ⟨v, rfl⟩) b r n D left cnt hit h (fun _ hl => hDone hl)
    (fun x c kl y w' cnt' hkey hlk hv hat hrg hlt hgr hsz hen => by
      obtain ⟨x', hx, hok, rfl⟩ := key_inv hkey
      obtain rfl : x = x' := by cases x; cases x'; simpa using hx
      exact hMore x c w' cnt' ⟨hok, hlk, hrg, hlt, hgr, hsz, hen⟩)
set_option maxHeartbeats 4000000 in
set_option maxRecDepth 100000 in
theorem sorted_any (ks : List Sight) (B n : Nat) (w : World) (hm : w.ownsMap Try.prog 39 (plainElem Try.prog 4) B n (sset ks)) (hk : ∀ x ∈ ks, x.ok) (hB : B < w.heap.size) (hn : n ≤ 1000000) :
    Calls Try.prog 23 #[.map (some B)] w fun e w' => ∃ g c l, e = .returned (.slice (some ⟨g, 0, none⟩) (List.length l) c) ∧ Rd w' (some ⟨g, 0, none⟩) (l.flatMap encS) ∧ g < w'.heap.size ∧ l.length ≤ 1000000 ∧ Strict l ∧ (∀ s, s ∈ l ↔ s ∈ ks) ∧ Below w.heap.size w w' := by
  obtain ⟨i0, hi0, hz0, hz1, hz2⟩ := info_parts sightInf
  have HM := Lib.hid hm; clear hm
  have HK := Lib.hid hk; clear hk
  go_enter Try.func23, Try.ntmps23
  go_wp2_with fail
  refine (by_any 30 _).mono ?_
  rintro e w1 ⟨p1, rfl, hc1, hg1⟩
  have HS1 := Lib.hid (Cl.call (F := []) ⟨Gr.refl w, fun p hp => by cases hp⟩ hg1 hc1); clear hc1 hg1
  go_wp2_with fail
  refine (by_any 32 _).mono ?_
  rintro e w2 ⟨p2, rfl, hc1, hg1⟩
  have HS2 := Lib.hid (Cl.call HS1.out hg1 hc1); clear hc1 hg1 HS1
  go_wp2_with fail
  refine (then_any _ _ _ _ _).mono ?_
  rintro e w3 ⟨b1, b2, rfl, hc1, hc2, hg1⟩
  have HS3 := Lib.hid (Cl.call2 HS2.out hg1 hc1 hc2); clear hc1 hc2 hg1 HS2
  go_wp2_with fail
  refine (by_any 33 _).mono ?_
  rintro e w4 ⟨p3, rfl, hc1, hg1⟩
  have HS4 := Lib.hid (Cl.call HS3.out hg1 hc1); clear hc1 hg1 HS3
  go_wp2_with fail
  refine (then_any _ _ _ _ _).mono ?_
  rintro e w5 ⟨c1, c2, rfl, hc1, hc2, hg1⟩
  have HS5 := Lib.hid (Cl.call2 HS4.out hg1 hc1 hc2); clear hc1 hc2 hg1 HS4
  have HE : Hid (Env2 w5 b1 p1 b2 p2 c1 c2 p3) := ⟨⟨HS5.out.get (by simp), HS5.out.get (by simp), HS5.out.get (by simp), HS5.out.get (by simp)⟩, HS5.out.get (by simp), HS5.out.get (by simp), HS5.out.get (by simp)⟩
  have HB5 := Lib.hid HS5.out.1.below
  have hsz5 : w.heap.size ≤ w5.heap.size := HB5.out.size
  clear HS5
  have HM5 := Lib.hid (HM.out.kept (grown_of_below HB5.out none) (by simp)); clear HM
  have HZ := Lib.hid (HM5.out.size_le)
  go_wp2_with (first
    | (at_len; refine wpList_len_own _ rfl _ _ rfl 39 4 Try.underlying50 _ B n _ rfl HM5.out ?_)
    | (at_make; refine wpList_make_own _ rfl _ _ 27 rfl w5.heap.size 39 i0 _ 3 Try.underlying27 hi0 hz0 hz1 .i64 .i64 _ (Maps.size (sset ks)) (by rfl) (by rfl) (by rfl) (by rw [hz2]; have := HZ.out; omega) (by have := HZ.out; unfold maxLen; omega) (Nat.le_refl _) ?_; intro w6 hown6 hgrow6; have HO6 := Lib.hid hown6; clear hown6; have HG6 := Lib.hid hgrow6; clear hgrow6; have HM6 := Lib.hid (HM5.out.kept HG6.out (by simp)))
    | (at_range; refine wpList_range_own _ rfl _ _ rfl 39 4 lawS Try.underlying50 _ B n _ rfl HM6.out ?_; intro w7 hrg7 hgr7 hs7; have HR7 := Lib.hid hrg7; clear hrg7; have HG7 := Lib.hid hgr7; clear hgr7; have HS7 := Lib.hid hs7; clear hs7))
  go_frame
  have hr5 : w5.heap.size ≤ w6.heap.size := HG6.out.size
  have HB7 : Hid (Below w5.heap.size w5 w7) := (below_grown HG6.out).trans ((below_grown HG7.out).mono hr5)
  have hr6 : w6.heap.size < w7.heap.size := by have := HS7.out; omega
  have hne6 : w5.heap.size < w6.heap.size := by
    rcases HO6.out.2 with ⟨hv, _⟩ | ⟨g', cap, cur, hv, hb, hg, _⟩
    · cases hv
    · cases hv; exact block_lt hg
  have hO7 : Hid (w7.ownsRow w5.heap.size 39 3 (.slice (some ⟨w5.heap.size, 0, none⟩) 0 (Maps.size (sset ks))) 0 []) := HO6.out.kept HG7.out (by simp [Value.ownBlock])
  clear HO6 HG7 HG6 HM6 HS7 HM5
  obtain ⟨r, hr⟩ : ∃ r, w6.heap.size = r := ⟨_, rfl⟩
  obtain ⟨b5, hb5⟩ : ∃ b5, w5.heap.size = b5 := ⟨_, rfl⟩
  rw [hr] at HR7 hr5 hr6 hne6 ⊢
  rw [hb5] at hsz5 hr5 HB7 hne6 hO7 ⊢
  have HRr := Lib.hid hr; clear hr
  have hb5s : b5 ≤ w5.heap.size := by omega
  have HB5s := Lib.hid hb5; clear hb5
  go_loopw [4] (fun v wr => ∃ xs g c left cnt, v = .slice (some ⟨g, 0, none⟩) (List.length xs) c ∧ Hid (wr.ownsRow b5 39 3 (.slice (some ⟨g, 0, none⟩) (List.length xs) c) xs.length (xs.flatMap encS)) ∧ Hid (wr.ranges Try.prog 39 (plainElem Try.prog 4) B r n (sset ks) left cnt) ∧ Hid (LeftIs ks xs left) ∧ Hid (xs.Nodup ∧ (∀ x ∈ xs, x ∈ ks) ∧ xs.length + cnt ≤ n) ∧ g ≠ r ∧ Hid (Below b5 w5 wr) ∧ r < wr.heap.size) (fun _ wr => wr.rangeLeft B r)
  case atStart =>
    exact ⟨[], b5, _, _, _, rfl, hO7, HR7, LeftIs.start HK.out, ⟨List.nodup_nil, fun x hx => (by cases hx), by simpa using HZ.out⟩, by omega, HB7, hr6⟩
  case round =>
    obtain ⟨xs, g, c, left, cnt, rfl, HO, HR, HL, HX, hgr, HB, hrw⟩ := hrel
    go_wp2_with (at_next; refine wpList_next_S rfl _ rfl B r n _ _ _ rfl HR.out ?_ ?_)
    · intro hl0
      have CS := Lib.hid (sortf_any xs g c b5 w5 wr b1 p1 b2 p2 c1 c2 p3 HE.out HB5s.out.symm HB.out (own_holds HO.out).2.2 (own_holds HO.out).2.1 (own_holds HO.out).1 (by have := HX.out.2.2; omega) HX.out.1)
      go_wp2_with (go_at_call 34; refine CS.out.mono ?_; rintro e w9 ⟨rfl, l, hll, hrd, hgz, hmem, hst, hbl⟩; have HF := Lib.hid (And.intro hll (And.intro hrd (And.intro hgz (And.intro hmem (And.intro hst hbl))))); clear hll hrd hgz hmem hst hbl)
      go_ret
      obtain ⟨hll, hrd, hgz, hmem, hst, hbl⟩ := HF.out
      refine ⟨g, c, l, by rw [hll]; rfl, hrd, hgz, by rw [hll]; have := HX.out.2.2; omega, hst, fun s => (hmem s).trans ⟨fun h => HX.out.2.1 s h, fun h => HL.out.done HK.out hl0.out s h⟩, ?_⟩
      exact HB5.out.trans ((HB.out.trans hbl).mono hsz5)
    · intro x v w8 cnt8 HN
      have hen := HN.en
      have hok := Lib.hid HN.ok
      have hz8 : r < w8.heap.size := by rw [HN.sz]; exact hrw
      have HO8 : Hid (w8.ownsRow b5 39 3 (.slice (some ⟨g, 0, none⟩) (List.length xs) c) xs.length (xs.flatMap encS)) := HO.out.kept HN.gr (by simp [Value.ownBlock]; exact hgr)
      have hcn : Hid (cnt8 < cnt) := HN.lt
      have HB8 : Hid (Below b5 w5 w8) := HB.out.trans ⟨HN.gr.os, HN.gr.tape, HN.gr.output, HN.gr.size, fun i hi => HN.gr.block i (by have := hb5s; omega) (by simp; omega)⟩
      have hxl : Hid (x ∈ ks ∧ x ∉ xs) := HL.out.mem hok.out HN.lf
      have HR8 := Lib.hid HN.rg
      have HNO := Lib.hid HN
      clear HN
      go_wp2_with (at_builtin; go_must (refine wpList_append_lies _ rfl _ _ _ rfl b5 39 i0 _ 3 24 Try.underlying27 hi0 hz0 hz1 hz2 rfl (by omega) _ _ _ rfl ((HO8.out.alloc _).alloc _) ⟨w8.heap.size + 1, 0, none⟩ 1 1 (encS x) (by rfl) (by rfl) (news_at _ (encS x) _ _ (by simp)) (one_s x) (by omega) (by unfold maxLen; have := HX.out.2.2; omega) (by have := HX.out.2.2; omega) (by simp; have := HB8.out.size; have := hb5s; omega) (w8.heap.size + 2) (by simp) ?_); intro g2 cap2 w9 hown9 hgrow9 hat9 hlt9; have HO9 := Lib.hid hown9; have HG9 := Lib.hid hgrow9; have HA9 := Lib.hid hat9; clear hown9 hgrow9 hat9)
      have hg2 : g2 ≠ r := by
        have := HA9.out
        rcases this with h | h
        · have h' : some g = some g2 := h
          injection h' with h'
          rw [← h']; exact hgr
        · omega
      have HR9 := ((HR8.out.alloc (.cells #[.int .i64 x.o, .int .i64 x.lo, .int .i64 x.hi] 39)).alloc (.cells #[.int .i64 x.o, .int .i64 x.lo, .int .i64 x.hi] 39)).kept HG9.out (show some B ≠ some g from fun h => by have h1 := (own_holds HO.out).2.2; injection h with h; omega) (show some r ≠ some g from fun h => by injection h with h; omega)
      have HR9 := Lib.hid HR9
      go_roundw
      case rel =>
        refine ⟨xs ++ [x], g2, cap2, _, cnt8, by simp, ?_, HR9, HL.out.step hok.out, ⟨nodup_snoc HX.out.1 hxl.out.2, fun y hy => ?_, by simp; have := HX.out.2.2; have := hcn.out; omega⟩, hg2, ?_, ?_⟩
        · show World.ownsRow _ _ _ _ _ _ _
          rw [List.flatMap_append, List.length_append]
          simpa using HO9.out
        · rcases List.mem_append.1 hy with hy | hy
          · exact HX.out.2.1 y hy
          · rw [List.mem_singleton.1 hy]; exact hxl.out.1
        · exact app_below (HB8.out.trans (((ba w8 _).trans ((ba _ _).mono (by simp))).mono (by have := HB8.out.size; omega))) hb5s ((HO8.out.alloc _).alloc _) (Nat.le_refl _) HG9.out
        · have := HG9.out.size; simp at this; omega
      case measure =>
        rw [HR9.out.left_eq, HR.out.left_eq]
        exact hcn.out
end Go.Proofs.Ytpmogdddngbneaa
