import Derived.Test.YtheemefggkcfbaaDoorR22
namespace Go.Proofs.YtheemefggkcfbaaDoor
open Go Go.Lib Go.RowKit Go.Shelf
/-! ### what Take and Fix do, plainly -/
def Sp.take (S : Sp) : Sp :=
  if S.can = true then { S with opn := S.opn.drop 1, free := S.free - 1, mark := false, tkn := if S.mark = true then S.tkn else last8 (S.tkn ++ [(S.opn.getD 0 default).1]) } else S
theorem take_none {S : Sp} (h : S.can = false) : S.take = S ∧ S.peek = default := by
  exact ⟨by unfold Sp.take; rw [h]; rfl, by unfold Sp.peek; rw [h]; rfl⟩
theorem take_mark {S : Sp} (h : S.can = true) (h2 : S.mark = true) : S.take = { S with opn := S.opn.drop 1, free := S.free - 1, mark := false } ∧ S.peek = S.opn.getD 0 default := by
  exact ⟨by unfold Sp.take; rw [if_pos h, if_pos h2], by unfold Sp.peek; rw [if_pos h]⟩
theorem take_word {S : Sp} (h : S.can = true) (h2 : S.mark = false) : S.take = { S with opn := S.opn.drop 1, free := S.free - 1, mark := false, tkn := last8 (S.tkn ++ [S.peek.1]) } ∧ S.peek = S.opn.getD 0 default := by
  exact ⟨by unfold Sp.take Sp.peek; rw [if_pos h, if_neg (by simp [h2]), if_pos h], by unfold Sp.peek; rw [if_pos h]⟩
theorem can_len {S : Sp} (h : S.can = true) : 0 < S.opn.length := by
  unfold Sp.can at h
  rcases Nat.eq_zero_or_pos S.opn.length with h0 | h0
  · simp [h0] at h
  · exact h0
def markS : Spk := ([45, 45], false, true)
/-- Fix, its words being known: k words are replaced by L. -/
def Sp.fixIn (S : Sp) (k : Nat) (L : List (List UInt8)) : Sp :=
  { S with opn := S.opn.take (S.opn.length - k) ++ newW (S.opn.getD (S.opn.length - k) default).2.1 (S.opn.getD (S.opn.length - k) default).2.2 L, free := min S.free (S.opn.length - k) }
def Sp.fixOut (S : Sp) (k : Nat) (L : List (List UInt8)) : Sp :=
  { S with opn := (S.opn.take (S.opn.length - S.count) ++ (if S.mark = true then [] else [markS])) ++ newW false true L, mark := true, free := min S.free (S.opn.length - S.count), tkn := S.tkn.take (S.tkn.length - (k - S.count)) }
def Sp.cap (S T : Sp) : Sp × Int := if 400 < T.opn.length then (S, 9) else (T, 0)
def Sp.fix (S : Sp) (n : Int) (l : List UInt8) : Sp × Int :=
  if n < 1 ∨ 8 < n then (S, 2) else if spkE l ≠ 0 then (S, spkE l) else
  if S.count + S.tkn.length < n.toNat then (S, 6) else
  if n.toNat ≤ S.count then S.cap (S.fixIn n.toNat (spkL l)) else S.cap (S.fixOut n.toNat (spkL l))
theorem fix_range {S : Sp} {n : Int} {l : List UInt8} (h : n < 1 ∨ 8 < n) : S.fix n l = (S, 2) := by unfold Sp.fix; rw [if_pos h]
theorem fix_bad {S : Sp} {k : Nat} {l : List UInt8} (h1 : 1 ≤ k) (h8 : k ≤ 8) (h : spkE l ≠ 0) : S.fix (k : Int) l = (S, spkE l) := by unfold Sp.fix; rw [if_neg (by omega), if_pos h]
theorem fix_none {S : Sp} {k : Nat} {l : List UInt8} (h1 : 1 ≤ k) (h8 : k ≤ 8) (h : spkE l = 0) (h2 : S.count + S.tkn.length < k) : S.fix (k : Int) l = (S, 6) := by
  unfold Sp.fix; rw [if_neg (by omega), if_neg (by simpa using h), Int.toNat_natCast, if_pos h2]
theorem fix_in {S : Sp} {k : Nat} {l : List UInt8} (h1 : 1 ≤ k) (h8 : k ≤ 8) (h : spkE l = 0) (h2 : ¬ S.count + S.tkn.length < k) (h3 : k ≤ S.count) : S.fix (k : Int) l = S.cap (S.fixIn k (spkL l)) := by
  unfold Sp.fix; rw [if_neg (by omega), if_neg (by simpa using h), Int.toNat_natCast, if_neg h2, if_pos h3]
theorem fix_out {S : Sp} {k : Nat} {l : List UInt8} (h1 : 1 ≤ k) (h8 : k ≤ 8) (h : spkE l = 0) (h2 : ¬ S.count + S.tkn.length < k) (h3 : ¬ k ≤ S.count) : S.fix (k : Int) l = S.cap (S.fixOut k (spkL l)) := by
  unfold Sp.fix; rw [if_neg (by omega), if_neg (by simpa using h), Int.toNat_natCast, if_neg h2, if_neg h3]
theorem count_le {S : Sp} : S.count ≤ S.opn.length := by unfold Sp.count; split <;> omega
theorem newW_len (bk fx : Bool) (L : List (List UInt8)) : (newW bk fx L).length = L.length := newGo_len bk fx L 0
theorem new_ok {n : Nat} (h : n ≤ 16) : (Sp.new n).ok := ⟨(fun e => by cases e), Nat.le_refl _, by simp [Sp.new], h, by simp [Sp.new]⟩
theorem break_ok {S : Sp} (h : S.ok) : ({ S with brk := true } : Sp).ok := ⟨h.mark, h.free, h.tkn, h.hold, h.len⟩
theorem flush_ok {S : Sp} (h : S.ok) : ({ S with free := S.opn.length } : Sp).ok := ⟨h.mark, Nat.le_refl _, h.tkn, h.hold, h.len⟩
theorem say_ok {S : Sp} (h : S.ok) (l : List UInt8) : (S.say l).1.ok := by
  unfold Sp.say
  split
  · exact h
  · split
    · exact h
    · rename_i h2
      refine ⟨fun e => by have := h.mark e; simp; omega, ?_, h.tkn, h.hold, ?_⟩
      · have := h.free; simp; omega
      · show (S.opn ++ newW S.brk false (spkL l)).length ≤ 400
        rw [List.length_append, newW_len]; omega
theorem last8_len (l : List (List UInt8)) : (last8 l).length ≤ 8 := by unfold last8; rw [List.length_drop]; omega
theorem take_ok {S : Sp} (h : S.ok) : S.take.ok := by
  unfold Sp.take
  split
  · refine ⟨(fun e => by cases e), ?_, ?_, h.hold, ?_⟩
    · have := h.free; show S.free - 1 ≤ (S.opn.drop 1).length; rw [List.length_drop]; omega
    · show (if S.mark = true then S.tkn else last8 (S.tkn ++ [(S.opn.getD 0 default).1])).length ≤ 8
      split
      · exact h.tkn
      · exact last8_len _
    · have := h.len; show (S.opn.drop 1).length ≤ 400; rw [List.length_drop]; omega
  · exact h
theorem cap_ok {S T : Sp} (h : S.ok) (hm : T.mark = true → 0 < T.opn.length) (hf : T.free ≤ T.opn.length) (ht : T.tkn.length ≤ 8) (hh : T.hold ≤ 16) : (S.cap T).1.ok := by
  unfold Sp.cap
  split
  · exact h
  · exact ⟨hm, hf, ht, hh, by show T.opn.length ≤ 400; omega⟩
theorem fixIn_len (S : Sp) (k : Nat) (L : List (List UInt8)) : (S.fixIn k L).opn.length = min (S.opn.length - k) S.opn.length + L.length := by
  show (_ ++ _ : List Spk).length = _
  rw [List.length_append, newW_len, List.length_take]
theorem fixOut_len (S : Sp) (k : Nat) (L : List (List UInt8)) : (S.fixOut k L).opn.length = min (S.opn.length - S.count) S.opn.length + (if S.mark = true then 0 else 1) + L.length := by
  show ((_ ++ _ : List Spk) ++ _).length = _
  rw [List.length_append, List.length_append, newW_len, List.length_take]
  split <;> rfl
theorem fix_ok {S : Sp} (h : S.ok) (n : Int) (l : List UInt8) : (S.fix n l).1.ok := by
  unfold Sp.fix
  split
  · exact h
  split
  · exact h
  split
  · exact h
  have hc := count_le (S := S)
  have hf := h.free
  rename_i h1 h2 h3
  split
  · rename_i h4
    refine cap_ok h (fun e => ?_) ?_ h.tkn h.hold
    · rw [fixIn_len]
      have hm : S.mark = true := e
      have := h.mark hm
      have hc2 : S.count = S.opn.length - 1 := by unfold Sp.count; rw [if_pos hm]
      omega
    · rw [fixIn_len]; show min S.free _ ≤ _; omega
  · refine cap_ok h (fun e => ?_) ?_ ?_ h.hold
    · rw [fixOut_len]
      by_cases hm : S.mark = true
      · have := h.mark hm
        have hc2 : S.count = S.opn.length - 1 := by unfold Sp.count; rw [if_pos hm]
        omega
      · rw [if_neg hm]; omega
    · rw [fixOut_len]; show min S.free _ ≤ _; omega
    · show (S.tkn.take _).length ≤ 8
      rw [List.length_take]; have := h.tkn; omega
end Go.Proofs.YtheemefggkcfbaaDoor
