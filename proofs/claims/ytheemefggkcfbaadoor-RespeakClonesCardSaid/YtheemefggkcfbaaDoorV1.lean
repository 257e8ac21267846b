import Derived.Test.YtheemefggkcfbaaDoorR24
import Derived.Laws.AppendOwnNone
import Derived.Maps.AppendAt
import Derived.RegionTactic
namespace Go.Proofs.YtheemefggkcfbaaDoor
open Go Go.Lib Go.RowKit Go.Shelf
/-! ### the reference's speaker, by value; an append whose source is a row that is read -/
section
variable {P : Program} {w : World}
theorem run_append_row (base : Nat) (t ty e : TypeId) (i : TypeInfo) (z : Value) (size bytes : Nat) (ht : P.underlying t = some (.slice e)) (hi : P.info? e = some i) (hz : i.zero = some z)
    (hsize : i.size = size) (hby : i.bytes = bytes) (hzs : z.cells.size = size) (hsz : 0 < size) (v : Value) (n : Nat) (xs : List Value) (hown : w.ownsRow base e size v n xs)
    (v2 : Value) (m : Nat) (news : List Value) (hr : RowR w size v2 m news) (h1 : ∀ u ∈ news, u.oneCell' = true) (h63 : n + m ≤ maxLen) (hbytes : (n + m) * bytes ≤ 140737488355328) (hbase : base ≤ w.heap.size) :
    ∃ v' w', (Builtin.append_ #[t, t] ty #[v, v2]).run P w = .ok v' w' ∧ w'.ownsRow base e size v' (n + m) (xs ++ news) ∧ w.grownBy w' v.ownBlock ∧ (v'.ownBlock = v.ownBlock ∨ v'.ownBlock = some w.heap.size) := by
  rcases hr.2 with ⟨rfl, rfl⟩ | ⟨g, off, cap, rfl, hg, hc, hx⟩
  · have hn : news = [] := List.length_eq_zero_iff.1 (by have := hr.1; omega)
    subst hn
    exact ⟨v, w, run_append_owned_none (P := P) (w := w) base t ty e i size ht hi v n xs hown, by simpa using hown, World.grownBy.refl w _, .inl rfl⟩
  · obtain ⟨v', w', hrun, h2, h3, _, h5⟩ := run_append_own_at (P := P) w base t ty e i z size bytes ht hi hz hsize hby hzs hsz v n xs hown ⟨g, off, none⟩ m cap news hr.1 (fun j u hu => by rw [add_addr]; exact hx j u hu) h1 h63 hbytes hbase
    exact ⟨v', w', hrun, h2, h3, h5⟩
theorem wp_append_row {o : Oper} {a : Act} {K : Act → World → Prop} {Q : Exit → Act → World → Prop} (s x : Operand) (t : TypeId) (ho : o.op = .call { callee := .builtin .append, args := #[s, x], argTypes := #[t, t] })
    (base : Nat) (e : TypeId) (i : TypeInfo) (z : Value) (size bytes : Nat) (ht : P.underlying t = some (.slice e)) (hi : P.info? e = some i) (hz : i.zero = some z)
    (hsize : i.size = size) (hby : i.bytes = bytes) (hzs : z.cells.size = size) (hsz : 0 < size) (v : Value) (n : Nat) (xs : List Value) (hs : a.eval s = v) (hown : w.ownsRow base e size v n xs)
    (v2 : Value) (m : Nat) (news : List Value) (hx : a.eval x = v2) (hr : RowR w size v2 m news) (h1 : ∀ u ∈ news, u.oneCell' = true) (h63 : n + m ≤ maxLen) (hbytes : (n + m) * bytes ≤ 140737488355328) (hbase : base ≤ w.heap.size)
    (h : ∀ v' w', w'.ownsRow base e size v' (n + m) (xs ++ news) → w.grownBy w' v.ownBlock → (v'.ownBlock = v.ownBlock ∨ v'.ownBlock = some w.heap.size) → K (a.put o.dst v') w') : o.wp P a w K Q := by
  obtain ⟨v', w', hrun, h2, h3, h4⟩ := run_append_row (P := P) base t o.type e i z size bytes ht hi hz hsize hby hzs hsz v n xs hown v2 m news hr h1 h63 hbytes hbase
  unfold Oper.wp execOp
  simp only [ho, resolve, invoke, builtin, Sem.run_bind, Sem.run_pure, Result.andThen_ok, List.map_toArray, List.map_cons, List.map_nil, hs, hx, hrun]
  exact h v' w' h2 h3 h4
theorem wpList_append_row {ops : Array Oper} {rest : List Oper} {o : Oper} {a : Act} {Q : Exit → Act → World → Prop} (hgd : o.guard = none) (s x : Operand) (t : TypeId) (ho : o.op = .call { callee := .builtin .append, args := #[s, x], argTypes := #[t, t] })
    (base : Nat) (e : TypeId) (i : TypeInfo) (z : Value) (size bytes : Nat) (ht : P.underlying t = some (.slice e)) (hi : P.info? e = some i) (hz : i.zero = some z)
    (hsize : i.size = size) (hby : i.bytes = bytes) (hzs : z.cells.size = size) (hsz : 0 < size) (v : Value) (n : Nat) (xs : List Value) (hs : a.eval s = v) (hown : w.ownsRow base e size v n xs)
    (v2 : Value) (m : Nat) (news : List Value) (hx : a.eval x = v2) (hr : RowR w size v2 m news) (h1 : ∀ u ∈ news, u.oneCell' = true) (h63 : n + m ≤ maxLen) (hbytes : (n + m) * bytes ≤ 140737488355328) (hbase : base ≤ w.heap.size)
    (h : ∀ v' w', w'.ownsRow base e size v' (n + m) (xs ++ news) → w.grownBy w' v.ownBlock → (v'.ownBlock = v.ownBlock ∨ v'.ownBlock = some w.heap.size) → wpList P ops Q rest (a.put o.dst v') w') : wpList P ops Q (o :: rest) a w :=
  wpList_plain hgd fun _ hK => wp_append_row s x t ho base e i z size bytes ht hi hz hsize hby hzs hsz v n xs hs hown v2 m news hx hr h1 h63 hbytes hbase fun v' w' h2 h3 h4 => hK _ _ (h v' w' h2 h3 h4)
theorem step_append_row {ops : Array Oper} {o : Oper} {a : Act} {K : Act → World → Prop} {Q : Exit → Act → World → Prop} {E : Prop} (hgd : o.guard = none) (s x : Operand) (t : TypeId) (ho : o.op = .call { callee := .builtin .append, args := #[s, x], argTypes := #[t, t] })
    (base : Nat) (e : TypeId) (i : TypeInfo) (z : Value) (size bytes : Nat) (ht : P.underlying t = some (.slice e)) (hi : P.info? e = some i) (hz : i.zero = some z)
    (hsize : i.size = size) (hby : i.bytes = bytes) (hzs : z.cells.size = size) (hsz : 0 < size) (v : Value) (n : Nat) (xs : List Value) (hs : a.eval s = v) (hown : w.ownsRow base e size v n xs)
    (v2 : Value) (m : Nat) (news : List Value) (hx : a.eval x = v2) (hr : RowR w size v2 m news) (h1 : ∀ u ∈ news, u.oneCell' = true) (h63 : n + m ≤ maxLen) (hbytes : (n + m) * bytes ≤ 140737488355328) (hbase : base ≤ w.heap.size)
    (h : ∀ v' w', w'.ownsRow base e size v' (n + m) (xs ++ news) → w.grownBy w' v.ownBlock → (v'.ownBlock = v.ownBlock ∨ v'.ownBlock = some w.heap.size) → K (a.put o.dst v') w') :
    if Region.wanted o (yielded ops a.tmps) = true then Oper.wp P o a w K Q else E := by
  have hw : Region.wanted o (yielded ops a.tmps) = true := by simp [Region.wanted, hgd]
  rw [if_pos hw]
  exact wp_append_row s x t ho base e i z size bytes ht hi hz hsize hby hzs hsz v n xs hs hown v2 m news hx hr h1 h63 hbytes hbase h
end
theorem RowR.alloc {w : World} {size n : Nat} {v : Value} {xs : List Value} (h : RowR w size v n xs) (o : Obj) : RowR (w.alloc o) size v n xs := h.below (below1 o (Nat.le_refl _))
theorem RowR.drewN {w : World} {size n : Nat} {v : Value} {xs : List Value} (h : RowR w size v n xs) (k : Nat) : RowR (w.drewN k) size v n xs := h
theorem RowR.drew {w : World} {size n : Nat} {v : Value} {xs : List Value} (h : RowR w size v n xs) : RowR w.drew size v n xs := h
theorem RowR.len {w : World} {size n : Nat} {v : Value} {xs : List Value} (h : RowR w size v n xs) : ∃ a c, v = .slice a n c := by
  rcases h.2 with ⟨rfl, rfl⟩ | ⟨g, off, cap, rfl, _⟩
  · exact ⟨none, 0, rfl⟩
  · exact ⟨_, _, rfl⟩
theorem RowR.cap {w : World} {size n m c : Nat} {a : Option Addr} {xs : List Value} (h : RowR w size (.slice a m c) n xs) : n ≤ c := by
  rcases h.2 with ⟨e, h0⟩ | ⟨g, off, cap, e, _, hc, _⟩
  · omega
  · injection e with _ _ e; omega
theorem RowR.lt {w : World} {size n k : Nat} {v : Value} {xs : List Value} (h : RowR w size v n xs) (hk : v.ownBlock = some k) : k < w.heap.size := by
  rcases h.2 with ⟨rfl, _⟩ | ⟨g, off, cap, rfl, hg, _⟩
  · cases hk
  · injection hk with e; subst e; exact hg
/-- A row keeps where its block stays. -/
theorem RowR.kept {w w' : World} {size n : Nat} {v : Value} {xs : List Value} (h : RowR w size v n xs) (hz : w.heap.size ≤ w'.heap.size) (hk : ∀ k, v.ownBlock = some k → w'.heap[k]? = w.heap[k]?) : RowR w' size v n xs := by
  refine ⟨h.1, ?_⟩
  rcases h.2 with h2 | ⟨g, off, cap, rfl, hg, hc, hx⟩
  · exact Or.inl h2
  · exact Or.inr ⟨g, off, cap, rfl, by omega, hc, fun j u hu => (World.cell?_of_block (a := ⟨g, off + j, none⟩) (hk g rfl)).trans (hx j u hu)⟩
theorem RowR.at3 {w : World} {n g off cap : Nat} {l : List Spk} (h : RowR w 3 (.slice (some ⟨g, off, none⟩) n cap) l.length (scells l)) (i : Nat) (hi : i < l.length) :
    w.cell? ⟨g, off + i * 3, none⟩ = some (.string (ba (l.getD i default).1)) ∧ w.cell? ⟨g, off + (i * 3 + 1), none⟩ = some (.bool (l.getD i default).2.1) ∧ w.cell? ⟨g, off + (i * 3 + 2), none⟩ = some (.bool (l.getD i default).2.2) := by
  obtain ⟨hl, h' | ⟨g', off', cap', e, hg, hc, hx⟩⟩ := h
  · cases h'.1
  · injection e with e1 _ e3
    injection e1 with e1
    injection e1 with e1 e2
    subst e1 e2
    obtain ⟨y0, y1, y2⟩ := scells_get l i hi
    exact ⟨by rw [← strV_ba]; exact hx _ _ y0, hx _ _ y1, hx _ _ y2⟩
theorem RowR.at1 {w : World} {n g off cap : Nat} {l : List (List UInt8)} (h : RowR w 1 (.slice (some ⟨g, off, none⟩) n cap) l.length (wcells l)) (i : Nat) (hi : i < l.length) : w.cell? ⟨g, off + i, none⟩ = some (.string (ba (l.getD i []))) := by
  obtain ⟨hl, h' | ⟨g', off', cap', e, hg, hc, hx⟩⟩ := h
  · cases h'.1
  · injection e with e1 _ e3
    injection e1 with e1
    injection e1 with e1 e2
    subst e1 e2
    have y : (wcells l)[i]? = some (strV (l.getD i [])) := by
      unfold wcells
      rw [List.getElem?_map, List.getElem?_eq_getElem hi, List.getD_eq_getElem?_getD, List.getElem?_eq_getElem hi]; rfl
    rw [← strV_ba]
    exact hx _ _ y
/-- A reference speaker, by value. -/
abbrev rv (h : Nat) (vo : Value) (m : Bool) (f : Nat) (vt : Value) (b : Bool) : Value := .agg #[.int .i64 h, vo, .bool m, .int .i64 f, vt, .bool b]
abbrev rc (h : Nat) (vo : Value) (m : Bool) (f : Nat) (vt : Value) (b : Bool) : Array Value := #[.int .i64 h, vo, .bool m, .int .i64 f, vt, .bool b]
/-- A reference speaker: its rows lie in blocks that K lets in. -/
def RfAt (w : World) (K : Nat → Prop) (v : Value) (S : Sp) : Prop :=
  ∃ vo vt, v = rv S.hold vo S.mark S.free vt S.brk ∧ RowR w 3 vo S.opn.length (scells S.opn) ∧ RowR w 1 vt S.tkn.length (wcells S.tkn) ∧ (∀ k, vo.ownBlock = some k → K k) ∧ (∀ k, vt.ownBlock = some k → K k)
theorem RfAt.weaken {w : World} {K K' : Nat → Prop} {v : Value} {S : Sp} (h : RfAt w K v S) (hK : ∀ k, k < w.heap.size → K k → K' k) : RfAt w K' v S := by
  obtain ⟨vo, vt, e, h1, h2, h3, h4⟩ := h
  exact ⟨vo, vt, e, h1, h2, fun k hk => hK k (h1.lt hk) (h3 k hk), fun k hk => hK k (h2.lt hk) (h4 k hk)⟩
theorem RfAt.below {w w' : World} {K : Nat → Prop} {v : Value} {S : Sp} (h : RfAt w K v S) (hb : Below w.heap.size w w') : RfAt w' K v S := by
  obtain ⟨vo, vt, e, h1, h2, h3, h4⟩ := h
  exact ⟨vo, vt, e, h1.below hb, h2.below hb, h3, h4⟩
theorem RfAt.within {w w' : World} {O : Nat → Prop} {v : Value} {S : Sp} (h : RfAt w (fun k => ¬ O k) v S) (hW : Within O w w') : RfAt w' (fun k => ¬ grow O w w' k) v S := by
  obtain ⟨vo, vt, e, h1, h2, h3, h4⟩ := h
  exact ⟨vo, vt, e, h1.kept hW.size (fun k hk => hW.block k (h1.lt hk) (h3 k hk)), h2.kept hW.size (fun k hk => hW.block k (h2.lt hk) (h4 k hk)), fun k hk hg => by
    rcases hg with hg | hg
    · exact h3 k hk hg
    · have := h1.lt hk; omega, fun k hk hg => by
    rcases hg with hg | hg
    · exact h4 k hk hg
    · have := h2.lt hk; omega⟩
/-- What is new lies above. -/
def up (K : Nat → Prop) (w : World) : Nat → Prop := fun k => K k ∨ w.heap.size ≤ k
end Go.Proofs.YtheemefggkcfbaaDoor
