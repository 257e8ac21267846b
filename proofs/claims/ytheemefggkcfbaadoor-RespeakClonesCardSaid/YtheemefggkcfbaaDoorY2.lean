import Derived.Test.YtheemefggkcfbaaDoorW1
namespace Go.Proofs.YtheemefggkcfbaaDoor
open Go Go.Lib Go.RowKit Go.Shelf
/-! ### a speaker that the law owns, and what is known not to be the speaker's -/
/-- A speaker all of whose blocks were made since w0; the blocks in F are not its own. -/
def Ow (w0 w : World) (b : Nat) (S : Sp) (F : Nat → Prop) : Prop :=
  ∃ O, SpAt w O b S ∧ (∀ k, O k → w0.heap.size ≤ k ∧ k < w.heap.size ∧ ¬ F k) ∧ (∀ k, F k → k < w.heap.size) ∧ Below w0.heap.size w0 w
/-- What lies in F stands. -/
structure Keep (F : Nat → Prop) (w w' : World) : Prop where
  size : w.heap.size ≤ w'.heap.size
  block : ∀ k, k < w.heap.size → F k → w'.heap[k]? = w.heap[k]?
/-- F, and what was made meanwhile. -/
def also (F : Nat → Prop) (w w' : World) : Nat → Prop := fun k => F k ∨ (w.heap.size ≤ k ∧ k < w'.heap.size)
section
variable {w0 w w' w'' W W' : World} {b n : Nat} {S S' : Sp} {F G : Nat → Prop} {v u : Value} {xs : List Value} {B e s : Nat}
theorem Ow.dn (h : Ow w0 w b S F) : Below w0.heap.size w0 w := h.choose_spec.2.2.2
theorem Ow.lt (h : Ow w0 w b S F) {k : Nat} (hk : F k) : k < w.heap.size := h.choose_spec.2.2.1 k hk
theorem Ow.base (h : Ow w0 w b S F) : w0.heap.size ≤ b ∧ b < w.heap.size := by
  obtain ⟨O, hS, hO, _, _⟩ := h
  exact ⟨(hO b hS.own).1, (hO b hS.own).2.1⟩
theorem Ow.weaken (h : Ow w0 w b S F) (hG : ∀ k, G k → F k) : Ow w0 w b S G := by
  obtain ⟨O, hS, hO, hF, hb⟩ := h
  exact ⟨O, hS, fun k hk => ⟨(hO k hk).1, (hO k hk).2.1, fun g => (hO k hk).2.2 (hG k g)⟩, fun k hk => hF k (hG k hk), hb⟩
/-- Behind what changes no old block: all that is new is not the speaker's. -/
theorem Ow.below (h : Ow w0 w b S F) (hb : Below w.heap.size w w') : Ow w0 w' b S (also F w w') := by
  obtain ⟨O, hS, hO, hF, hb0⟩ := h
  have hz := hb.size
  refine ⟨O, hS.below hb, fun k hk => ⟨(hO k hk).1, Nat.lt_of_lt_of_le (hO k hk).2.1 hz, ?_⟩, ?_, hb0.trans (hb.mono hb0.size)⟩
  · rintro (g | g)
    · exact (hO k hk).2.2 g
    · have := (hO k hk).2.1; omega
  · rintro k (g | g)
    · have := hF k g; omega
    · exact g.2
/-- Behind a step of the speaker's own. -/
theorem Ow.step {O : Nat → Prop} (hO : ∀ k, O k → w0.heap.size ≤ k ∧ k < w.heap.size ∧ ¬ F k) (hF : ∀ k, F k → k < w.heap.size) (hb0 : Below w0.heap.size w0 w) (hS : SpAt w' (grow O w w') b S') (hW : Within O w w') : Ow w0 w' b S' F ∧ Keep F w w' := by
  have hz := hW.size
  have hz0 := hb0.size
  refine ⟨⟨fun k => grow O w w' k ∧ k < w'.heap.size, hS.tight, ?_, fun k hk => by have := hF k hk; omega, hW.below hb0 hz0 (fun k hk => (hO k hk).1)⟩, ⟨hz, fun k hk g => hW.block k hk (fun o => (hO k o).2.2 g)⟩⟩
  rintro k ⟨g | g, h2⟩
  · exact ⟨(hO k g).1, h2, (hO k g).2.2⟩
  · exact ⟨by omega, h2, fun f => by have := hF k f; omega⟩
theorem Keep.of_below (hb : Below w.heap.size w w') : Keep F w w' := ⟨hb.size, fun k hk _ => hb.block k hk⟩
theorem Keep.refl : Keep F w w := ⟨Nat.le_refl _, fun _ _ _ => rfl⟩
theorem Keep.trans (h : Keep F w w') (k : Keep F w' w'') : Keep F w w'' := ⟨Nat.le_trans h.size k.size, fun j hj f => (k.block j (Nat.lt_of_lt_of_le hj h.size) f).trans (h.block j hj f)⟩
theorem Keep.weaken (h : Keep F w w') (hG : ∀ k, G k → F k) : Keep G w w' := ⟨h.size, fun k hk g => h.block k hk (hG k g)⟩
theorem Keep.obj {k : Nat} {o : Obj} (h : Keep F w w') (hk : w.heap[k]? = some o) (hf : F k) : w'.heap[k]? = some o := by rw [h.block k (heap_lt hk) hf]; exact hk
theorem Keep.own (h : Keep F w w') (ho : w.ownsRow B e s v n xs) (hv : ∀ k, v.ownBlock = some k → F k) : w'.ownsRow B e s v n xs := by
  refine ⟨ho.1, ?_⟩
  rcases ho.2 with h2 | ⟨g, cap, cur, rfl, hb, hg, rest⟩
  · exact Or.inl h2
  · exact Or.inr ⟨g, cap, cur, rfl, hb, h.obj hg (hv g rfl), rest⟩
theorem Keep.row (h : Keep F w w') (hr : RowR w s v n xs) (hv : ∀ k, v.ownBlock = some k → F k) : RowR w' s v n xs :=
  hr.kept h.size (fun k hk => h.block k (hr.lt hk) (hv k hk))
theorem Keep.rf (h : Keep F w w') (hr : RfAt w F v S) : RfAt w' F v S := by
  obtain ⟨vo, vt, e1, r1, r2, o1, o2⟩ := hr
  exact ⟨vo, vt, e1, h.row r1 o1, h.row r2 o2, o1, o2⟩
/-- Behind an append to a row that is not the speaker's. -/
theorem Ow.grown {r : Option Nat} (h : Ow w0 w b S F) (hg : w.grownBy w' r) (hr : ∀ k, r = some k → F k ∧ w0.heap.size ≤ k) : Ow w0 w' b S (also F w w') := by
  obtain ⟨O, hS, hO, hF, hb0⟩ := h
  have hz := hg.size
  have hkeep : ∀ k, O k → w'.heap[k]? = w.heap[k]? := fun k hk => hg.block k (hO k hk).2.1 (fun e => (hO k hk).2.2 (hr k e.symm).1)
  refine ⟨O, ?_, fun k hk => ⟨(hO k hk).1, Nat.lt_of_lt_of_le (hO k hk).2.1 hz, ?_⟩, ?_, hb0.grown hg hb0.size (fun k e => (hr k e).2)⟩
  · obtain ⟨vo, vt, h1, h2, h3, h4, h5, h6⟩ := hS
    have row : ∀ {E s n : Nat} {v : Value} {xs : List Value}, w.ownsRow 0 E s v n xs → (∀ k, v.ownBlock = some k → O k) → w'.ownsRow 0 E s v n xs := by
      intro E s n v xs ho hv
      refine ⟨ho.1, ?_⟩
      rcases ho.2 with h2 | ⟨g, cap, cur, rfl, hb, hgg, rest⟩
      · exact Or.inl h2
      · exact Or.inr ⟨g, cap, cur, rfl, hb, by rw [hkeep g (hv g rfl)]; exact hgg, rest⟩
    exact ⟨vo, vt, by rw [hkeep b h4]; exact h1, row h2 h5, row h3 h6, h4, h5, h6⟩
  · rintro (g | g)
    · exact (hO k hk).2.2 g
    · have := (hO k hk).2.1; omega
  · rintro k (g | g)
    · have := hF k g; omega
    · exact g.2
/-- Behind a store into a block that is not the speaker's. -/
theorem Ow.far {k o : Nat} (h : Ow w0 w b S F) (hk : F k) (h0 : w0.heap.size ≤ k) : Ow w0 (w.setCell ⟨k, o, none⟩ u) b S F := by
  obtain ⟨O, hS, hO, hF, hb0⟩ := h
  exact ⟨O, hS.far (fun e => (hO k e).2.2 hk), fun j hj => by simpa using hO j hj, fun j hj => by simpa using hF j hj, hb0.setCell (p := ⟨k, o, none⟩) h0 u⟩
theorem Ow.drew (h : Ow w0 w b S F) : Ow w0 w.drew b S F := by
  obtain ⟨O, hS, hO, hF, hb0⟩ := h
  exact ⟨O, hS, hO, hF, hb0.drew⟩
end
section
variable {w0 w : World} {b : Nat} {S : Sp} {F : Nat → Prop}
theorem new_ow (n : Nat) (hn : n ≤ 16) (hb : Below w0.heap.size w0 w) :
    Calls Tryd.prog 37 #[.int .i64 n] w fun e w' => ∃ b, e = .returned (.tuple #[ptr b, .int .i64 0]) ∧ Ow w0 w' b (Sp.new n) (fun k => k < w.heap.size) ∧ Below w.heap.size w w' := by
  refine (new_any w n hn).mono ?_
  rintro e w' ⟨b, rfl, hS, hb'⟩
  exact ⟨b, rfl, ⟨_, hS, fun k hk => ⟨by have := hb.size; have := hk.1; omega, hk.2, fun g => by have := hk.1; omega⟩, fun k hk => by have := hb'.size; omega, hb.trans (hb'.mono hb.size)⟩, hb'⟩
theorem say_ow (h : Ow w0 w b S F) (hS : S.ok) (t : ByteArray) (ht : t.size ≤ 65536) (hE : Env w0) :
    Calls Tryd.prog 38 #[ptr b, .string t] w fun e w' => e = .returned (.int .i64 (S.say t.data.toList).2) ∧ Ow w0 w' b (S.say t.data.toList).1 F ∧ Keep F w w' := by
  have hE' := hE.below h.dn
  obtain ⟨O, hA, hO, hF, hb⟩ := h
  refine (say_any w O b S t hA hS ht hE').mono ?_
  rintro e w' ⟨rfl, hA', hW⟩
  exact ⟨rfl, Ow.step hO hF hb hA' hW⟩
theorem take_ow (h : Ow w0 w b S F) (hS : S.ok) :
    Calls Tryd.prog 41 #[ptr b] w fun e w' => e = .returned (.tuple #[spkV S.peek, .bool S.can]) ∧ Ow w0 w' b S.take F ∧ Keep F w w' := by
  obtain ⟨O, hA, hO, hF, hb⟩ := h
  refine (take_any w O b S hA hS).mono ?_
  rintro e w' ⟨rfl, hA', hW⟩
  exact ⟨rfl, Ow.step hO hF hb hA' hW⟩
theorem fix_ow (h : Ow w0 w b S F) (hS : S.ok) (n : Int) (t : ByteArray) (ht : t.size ≤ 65536) (hE : Env w0) :
    Calls Tryd.prog 42 #[ptr b, .int .i64 n, .string t] w fun e w' => e = .returned (.int .i64 (S.fix n t.data.toList).2) ∧ Ow w0 w' b (S.fix n t.data.toList).1 F ∧ Keep F w w' := by
  by_cases hn : n < 1 ∨ 8 < n
  · refine (fix_range_any w b n t hn).mono ?_
    rintro e w' ⟨rfl, rfl⟩
    rw [fix_range hn]
    exact ⟨rfl, h, Keep.refl⟩
  · obtain ⟨k, rfl⟩ : ∃ k : Nat, n = k := ⟨n.toNat, by omega⟩
    have hE' := hE.below h.dn
    obtain ⟨O, hA, hO, hF, hb⟩ := h
    refine (fix_any w O b S k t hA hS (by omega) (by omega) ht hE').mono ?_
    rintro e w' ⟨rfl, hA', hW⟩
    exact ⟨rfl, Ow.step hO hF hb hA' hW⟩
theorem break_ow (h : Ow w0 w b S F) :
    Calls Tryd.prog 52 #[ptr b] w fun e w' => e = .returned (.int .i64 0) ∧ Ow w0 w' b { S with brk := true } F ∧ Keep F w w' := by
  obtain ⟨O, hA, hO, hF, hb⟩ := h
  refine (break_any w O b S hA).mono ?_
  rintro e w' ⟨rfl, hA', hW, _⟩
  exact ⟨rfl, Ow.step hO hF hb (hA'.weaken (fun k hk => Or.inl hk)) hW⟩
theorem flush_ow (h : Ow w0 w b S F) :
    Calls Tryd.prog 53 #[ptr b] w fun e w' => e = .returned (.int .i64 0) ∧ Ow w0 w' b { S with free := S.opn.length } F ∧ Keep F w w' := by
  obtain ⟨O, hA, hO, hF, hb⟩ := h
  refine (flush_any w O b S hA).mono ?_
  rintro e w' ⟨rfl, hA', hW, _⟩
  exact ⟨rfl, Ow.step hO hF hb (hA'.weaken (fun k hk => Or.inl hk)) hW⟩
theorem peek_ow (h : Ow w0 w b S F) (hS : S.ok) :
    Calls Tryd.prog 51 #[ptr b] w fun e w' => e = .returned (.tuple #[spkV S.peek, .bool S.can]) ∧ Ow w0 w' b S (also F w w') ∧ Below w.heap.size w w' := by
  have h' := h
  obtain ⟨O, hA, hO, hF, hb⟩ := h'
  refine (peek_any w O b S hA hS).mono ?_
  rintro e w' ⟨rfl, hb'⟩
  exact ⟨rfl, h.below hb', hb'⟩
/-- Open: a row of its own. -/
theorem open_ow (h : Ow w0 w b S F) (hS : S.ok) :
    Calls Tryd.prog 39 #[ptr b] w fun e w' => ∃ v, e = .returned v ∧ w'.ownsRow w.heap.size 59 3 v S.opn.length (scells S.opn) ∧ Ow w0 w' b S (also F w w') ∧ Below w.heap.size w w' := by
  have h' := h
  obtain ⟨O, hA, hO, hF, hb⟩ := h'
  refine (open_any w O b S hA hS).mono ?_
  rintro e w' ⟨v, rfl, ho, hb'⟩
  exact ⟨v, rfl, ho, h.below hb', hb'⟩
theorem said_ow (h : Ow w0 w b S F) (hS : S.ok) :
    Calls Tryd.prog 43 #[ptr b] w fun e w' => ∃ v, e = .returned v ∧ RowR w' 1 v S.said.length (wcells S.said) ∧ Ow w0 w' b S (also F w w') ∧ Below w.heap.size w w' := by
  have h' := h
  obtain ⟨O, hA, hO, hF, hb⟩ := h'
  refine (said_any w O b S hA hS).mono ?_
  rintro e w' ⟨v, rfl, ho, hb'⟩
  exact ⟨v, rfl, ho, h.below hb', hb'⟩
end
end Go.Proofs.YtheemefggkcfbaaDoor
