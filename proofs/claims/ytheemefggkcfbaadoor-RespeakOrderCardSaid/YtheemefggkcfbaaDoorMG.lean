import Derived.Test.YtheemefggkcfbaaDoorMC
import Derived.Shelf.Strings.FieldsAny
import Derived.Lib.Replace
import Derived.Test.YtheemefggkcfbaaDoorME
namespace Go.Proofs.YtheemefggkcfbaaDoor
open Go Go.Lib Go.RowKit Go.Shelf
/-! ### the words of a text that was said, by Go's own Fields -/
def nlB (b : UInt8) : UInt8 := if b = 32 then 10 else b
def nl (l : List UInt8) : List UInt8 := l.map nlB
theorem nl_none {l : List UInt8} (h : (32 : UInt8) ∉ l) : nl l = l := by
  unfold nl
  conv => rhs; rw [← List.map_id l]
  apply List.map_congr_left
  intro b hb
  unfold nlB
  rw [if_neg (fun e => h (by rw [← e]; exact hb))]; rfl
theorem nl_some {pre t : List UInt8} (h : (32 : UInt8) ∉ pre) : nl (pre ++ 32 :: t) = pre ++ 10 :: nl t := by
  have := nl_none h
  unfold nl at *
  rw [List.map_append, List.map_cons, this]; rfl
theorem nl_len (l : List UInt8) : (nl l).length = l.length := by simp [nl]
theorem count_none {l : List UInt8} (h : (32 : UInt8) ∉ l) : count l [32] = 0 := by rw [count_one]; exact List.count_eq_zero.2 h
theorem count_some {pre t : List UInt8} (h : (32 : UInt8) ∉ pre) : count (pre ++ 32 :: t) [32] = count t [32] + 1 := by
  rw [count_one, count_one, List.count_append, List.count_eq_zero.2 h]; simp
theorem replaceK_nl : ∀ (k : Nat) (l : List UInt8), count l [32] = k → replaceK [32] [10] k l = nl l
  | 0, l, h => by
    rcases idx32 l with ⟨_, h2⟩ | ⟨pre, t, h1, h2, _⟩
    · rw [nl_none h2]; rfl
    · rw [h1, count_some h2] at h; omega
  | k + 1, l, h => by
    rcases idx32 l with ⟨_, h2⟩ | ⟨pre, t, h1, h2, h3⟩
    · rw [count_none h2] at h; omega
    · rw [h1, count_some h2] at h
      rw [replaceK_hit _ _ _ _ _ h3, h1, nl_some h2, ← replaceK_nl k t (by omega)]
      simp
theorem replace_nl (l : List UInt8) : replaceAll l [32] [10] = nl l := by
  unfold replaceAll replace
  rw [if_neg (by decide), ← replaceK_nl _ l rfl]
  congr 1
/-- Fields, its fuel out of sight. -/
def fD (cur l : List UInt8) : List (List UInt8) := fieldsGoD (l.length + 1) cur l
theorem fD_nil (cur : List UInt8) : fD cur [] = if cur = [] then [] else [cur] := fieldsGoD_nil _ _
theorem fD_step (cur l : List UInt8) (h : l ≠ []) : fD cur l = if isSpaceR (decodeL l).1 then (if cur = [] then [] else [cur]) ++ fD [] (l.drop (decodeL l).2) else fD (cur ++ l.take (decodeL l).2) (l.drop (decodeL l).2) := by
  have hw := decodeL_width l
  have hl : 0 < l.length := List.length_pos_iff.2 h
  unfold fD
  conv => lhs; unfold fieldsGoD
  rw [if_neg h]
  rw [fieldsGoD_fuel l.length ((l.drop (decodeL l).2).length + 1) _ _ (by rw [List.length_drop]; omega) (by omega), fieldsGoD_fuel l.length ((l.drop (decodeL l).2).length + 1) _ _ (by rw [List.length_drop]; omega) (by omega)]
def spL : List Nat := [9, 10, 11, 12, 13, 32, 133, 160, 5760, 8192, 8193, 8194, 8195, 8196, 8197, 8198, 8199, 8200, 8201, 8202, 8232, 8233, 8239, 8287, 12288]
theorem space_in (r : Nat) (h : isSpaceR r = true) : r ∈ spL := by
  unfold isSpaceR at h
  simp at h
  simp [spL]
  omega
theorem space_small : ∀ r ∈ spL, inCC r = false ∨ spR r = true := by decide +kernel
theorem space_out (r : Nat) (h1 : inCC r = true) (h2 : spR r = false) : isSpaceR r = false := by
  cases h : isSpaceR r with
  | false => rfl
  | true =>
    rcases space_small r (space_in r h) with h3 | h3
    · rw [h1] at h3; cases h3
    · rw [h2] at h3; cases h3
theorem wordE_zero {l : List UInt8} (h : wordE l = 0) : l ≠ [] ∧ validD l = true ∧ (runes l).any spR = false ∧ (runes l).all inCC = true := by
  unfold wordE at h
  split at h
  · cases h
  rename_i hn
  split at h
  · rename_i hc
    refine ⟨fun e => hn (Or.inl e), ?_, ?_, hc⟩
    · cases hv : validD l with
      | true => rfl
      | false => exact absurd (Or.inr (Or.inl hv)) hn
    · cases hv : (runes l).any spR with
      | false => rfl
      | true => exact absurd (Or.inr (Or.inr hv)) hn
  · cases h
theorem fD_word : ∀ (n : Nat) (x cur t : List UInt8), x.length ≤ n → validD x = true → (runes x).any spR = false → (runes x).all inCC = true → fD cur (x ++ t) = fD (cur ++ x) t
  | _, [], cur, t, _, _, _, _ => by simp
  | 0, _ :: _, _, _, h, _, _, _ => by simp at h
  | n + 1, b :: x, cur, t, hl, hv, hs, hc => by
    have hne : b :: x ≠ [] := by simp
    have hw := decodeL_width (b :: x)
    have hle := decodeL_le (b :: x) hne
    rw [validD_step _ hne] at hv
    by_cases hb : (decodeL (b :: x)).1 = 65533 ∧ (decodeL (b :: x)).2 = 1
    · rw [if_pos hb] at hv; cases hv
    rw [if_neg hb] at hv
    have hd := decodeL_app (b :: x) t hne (fun e => hb (by rw [e]; exact ⟨rfl, rfl⟩))
    rw [runes_step _ hne] at hs hc
    simp only [List.any_cons, Bool.or_eq_false_iff] at hs
    simp only [List.all_cons, Bool.and_eq_true] at hc
    rw [fD_step _ _ (by simp), hd, space_out _ hc.1 hs.1, if_neg (by simp), List.drop_append_of_le_length hle, List.take_append_of_le_length hle,
      fD_word n _ _ t (by rw [List.length_drop]; simp at hl ⊢; omega) hv hs.2 hc.2, List.append_assoc, List.take_append_drop]
theorem fD_line (cur t : List UInt8) : fD cur (10 :: t) = (if cur = [] then [] else [cur]) ++ fD [] t := by
  rw [fD_step _ _ (by simp), decodeL_ascii _ _ (by decide)]; rfl
theorem fD_words : ∀ (n : Nat) (l : List UInt8), l.length ≤ n → (∀ x ∈ spW l, wordE x = 0) → fD [] (nl l) = spW l := by
  intro n
  induction n with
  | zero =>
    intro l hl _
    obtain rfl : l = [] := List.length_eq_zero_iff.1 (by omega)
    rfl
  | succ n ih =>
    intro l hl h
    rcases idx32 l with ⟨_, h2⟩ | ⟨pre, t, h1, h2, _⟩
    · rw [nl_none h2]
      rw [spW_none h2] at h ⊢
      by_cases hn : l = []
      · subst hn; rfl
      · rw [if_neg hn] at h ⊢
        obtain ⟨_, a, b, c⟩ := wordE_zero (h l (by simp))
        have := fD_word _ l [] [] (Nat.le_refl _) a b c
        rw [List.append_nil, List.nil_append, fD_nil, if_neg hn] at this
        exact this
    · subst h1
      rw [spW_some h2] at h ⊢
      have ht := ih t (by simp at hl; omega) (fun x hx => h x (List.mem_append_right _ hx))
      rw [nl_some h2]
      by_cases hn : pre = []
      · subst hn
        rw [List.nil_append, fD_line, ht]
      · rw [if_neg hn] at h ⊢
        obtain ⟨_, a, b, c⟩ := wordE_zero (h pre (by simp))
        rw [fD_word _ pre [] _ (Nat.le_refl _) a b c, List.nil_append, fD_line, if_neg hn, ht]
theorem firstE_all : ∀ {L : List (List UInt8)}, firstE L = 0 → ∀ x ∈ L, wordE x = 0
  | [], _, x, hx => by cases hx
  | y :: L, h, x, hx => by
    unfold firstE at h
    split at h
    · rename_i h1
      rcases List.mem_cons.1 hx with rfl | hx
      · exact h1
      · exact firstE_all h x hx
    · rename_i h1; exact absurd h h1
/-- What a speaker takes up is what Fields finds where spaces are line feeds. -/
theorem fields_said {l : List UInt8} (h : spkE l = 0) : fieldsD (replaceAll l [32] [10]) = spkL l := by
  have e : spW l ≠ [] := fun e => by unfold spkE at h; rw [if_pos e] at h; cases h
  have e2 : firstE (spW l) = 0 := by unfold spkE at h; rw [if_neg e] at h; exact h
  rw [(spk_good e e2).2, replace_nl]
  exact fD_words _ l (Nat.le_refl _) (firstE_all e2)
end Go.Proofs.YtheemefggkcfbaaDoor
namespace Go.Proofs.YtheemefggkcfbaaDoor
open Go Go.Lib Go.RowKit Go.Shelf
/-! ### a speaker that is never corrected -/
def plainW (R : List (List UInt8)) : List Spk := R.map fun x => (x, false, false)
theorem plainW_len (R : List (List UInt8)) : (plainW R).length = R.length := by simp [plainW]
theorem newGo_plain : ∀ (L : List (List UInt8)) (k : Nat), newGo false false k L = plainW L
  | [], _ => rfl
  | x :: t, k => by
    unfold newGo
    rw [newGo_plain t (k + 1)]
    simp [plainW]
structure OrdS (S : Sp) (h : Nat) (R : List (List UInt8)) : Prop where
  hold : S.hold = h
  mark : S.mark = false
  brk : S.brk = false
  free : S.free = 0
  opn : S.opn = plainW R
theorem ord_new (h : Nat) : OrdS (Sp.new h) h [] := ⟨rfl, rfl, rfl, rfl, rfl⟩
theorem ord_say {S : Sp} {h : Nat} {R : List (List UInt8)} {l : List UInt8} (H : OrdS S h R) (hE : (S.say l).2 = 0) : spkE l = 0 ∧ OrdS (S.say l).1 h (R ++ spkL l) := by
  by_cases h1 : spkE l = 0
  · by_cases h2 : 400 < S.opn.length + (spkL l).length
    · rw [say_full h1 h2] at hE; cases hE
    · rw [say_good h1 h2]
      refine ⟨h1, H.hold, H.mark, rfl, H.free, ?_⟩
      show S.opn ++ newW S.brk false (spkL l) = _
      rw [H.opn, H.brk]
      unfold newW
      rw [newGo_plain]
      simp [plainW]
  · rw [say_bad h1] at hE; exact absurd hE h1
theorem say_none {S : Sp} {l : List UInt8} (hE : (S.say l).2 ≠ 0) : (S.say l).1 = S := by
  by_cases h1 : spkE l = 0
  · by_cases h2 : 400 < S.opn.length + (spkL l).length
    · rw [say_full h1 h2]
    · rw [say_good h1 h2] at hE; exact absurd rfl hE
  · rw [say_bad h1]
theorem ord_can {S : Sp} {h : Nat} {R : List (List UInt8)} (H : OrdS S h R) : S.can = decide (h < R.length) := by
  have hl : S.opn.length = R.length := by rw [H.opn, plainW_len]
  by_cases h1 : h < R.length
  · rw [(can_over (by rw [H.hold, hl]; exact h1)).1, decide_eq_true h1]
  · rw [(can_wait (by rw [H.hold, hl]; omega) H.free).1, decide_eq_false h1]
theorem ord_take {S : Sp} {h : Nat} {R : List (List UInt8)} (H : OrdS S h R) (hc : S.can = true) : ∃ x R', R = x :: R' ∧ S.peek = (x, false, false) ∧ OrdS S.take h R' ∧ h ≤ R'.length := by
  have h1 := ord_can H
  rw [hc] at h1
  have h2 : h < R.length := of_decide_eq_true h1.symm
  cases R with
  | nil => simp at h2
  | cons x R' =>
    obtain ⟨e1, e2⟩ := take_word hc H.mark
    refine ⟨x, R', rfl, ?_, ?_, by simp at h2; omega⟩
    · rw [e2, H.opn]; rfl
    · rw [e1]
      refine ⟨H.hold, rfl, H.brk, ?_, ?_⟩
      · show S.free - 1 = 0; rw [H.free]
      · show S.opn.drop 1 = _; rw [H.opn]; rfl
/-- Behind Flush. -/
structure FluS (S : Sp) (R : List (List UInt8)) : Prop where
  mark : S.mark = false
  free : S.free = R.length
  opn : S.opn = plainW R
theorem flu_flush {S : Sp} {h : Nat} {R : List (List UInt8)} (H : OrdS S h R) : FluS { S with free := S.opn.length } R :=
  ⟨H.mark, by show S.opn.length = _; rw [H.opn, plainW_len], H.opn⟩
theorem flu_can {S : Sp} {R : List (List UInt8)} (H : FluS S R) : S.can = decide (0 < R.length) := by
  have hl : S.opn.length = R.length := by rw [H.opn, plainW_len]
  by_cases h1 : 0 < R.length
  · rw [(can_free (by omega) (by rw [H.free]; omega)).1, decide_eq_true h1]
  · rw [(can_none (by omega)).1, decide_eq_false h1]
theorem flu_take {S : Sp} {R : List (List UInt8)} (H : FluS S R) (hc : S.can = true) : ∃ x R', R = x :: R' ∧ S.peek = (x, false, false) ∧ FluS S.take R' := by
  have h1 := flu_can H
  rw [hc] at h1
  have h2 : 0 < R.length := of_decide_eq_true h1.symm
  cases R with
  | nil => simp at h2
  | cons x R' =>
    obtain ⟨e1, e2⟩ := take_word hc H.mark
    refine ⟨x, R', rfl, ?_, ?_⟩
    · rw [e2, H.opn]; rfl
    · rw [e1]
      refine ⟨rfl, ?_, ?_⟩
      · show S.free - 1 = _; rw [H.free]; simp
      · show S.opn.drop 1 = _; rw [H.opn]; rfl
end Go.Proofs.YtheemefggkcfbaaDoor
namespace Go.Proofs.YtheemefggkcfbaaDoor
open Go Go.Lib Go.RowKit Go.Shelf
/-! ### a speaker, and two lists of words that the law gathers -/
def OrdAt (w0 w : World) (b : Nat) (S : Sp) (vs vt : Value) (Sd Tk : List (List UInt8)) : Prop :=
  ∃ F, Ow w0 w b S F ∧ w.ownsRow w0.heap.size 9 1 vs Sd.length (wcells Sd) ∧ w.ownsRow w0.heap.size 9 1 vt Tk.length (wcells Tk) ∧ (∀ k, vs.ownBlock = some k → F k) ∧ (∀ k, vt.ownBlock = some k → F k) ∧ (vs.ownBlock = none ∨ vs.ownBlock ≠ vt.ownBlock)
section
variable {w0 w w' : World} {b : Nat} {S : Sp} {vs vt v' : Value} {Sd Tk L : List (List UInt8)}
theorem OrdAt.dn (h : OrdAt w0 w b S vs vt Sd Tk) : Below w0.heap.size w0 w := by
  obtain ⟨F, h1, _⟩ := h; exact h1.dn
theorem OrdAt.rows (h : OrdAt w0 w b S vs vt Sd Tk) : w.ownsRow w0.heap.size 9 1 vs Sd.length (wcells Sd) ∧ w.ownsRow w0.heap.size 9 1 vt Tk.length (wcells Tk) := by
  obtain ⟨F, _, h2, h3, _⟩ := h; exact ⟨h2, h3⟩
theorem OrdAt.below (h : OrdAt w0 w b S vs vt Sd Tk) (hb : Below w.heap.size w w') : OrdAt w0 w' b S vs vt Sd Tk := by
  obtain ⟨F, h1, h2, h3, h4, h5, h6⟩ := h
  exact ⟨_, h1.below hb, own_stays h2 hb, own_stays h3 hb, fun k hk => Or.inl (h4 k hk), fun k hk => Or.inl (h5 k hk), h6⟩
theorem OrdAt.start (h : Ow w0 w b S (fun _ => False)) : OrdAt w0 w b S (.slice none 0 0) (.slice none 0 0) [] [] :=
  ⟨_, h, World.ownsRow_nil _ _ _ _, World.ownsRow_nil _ _ _ _, (by rintro k ⟨⟩), (by rintro k ⟨⟩), Or.inl rfl⟩
theorem OrdAt.appS {m : Nat} (h : OrdAt w0 w b S vs vt Sd Tk) (hm : m = L.length) (hown : w'.ownsRow w0.heap.size 9 1 v' (Sd.length + m) (wcells Sd ++ wcells L)) (hg : w.grownBy w' vs.ownBlock) (hat : v'.ownBlock = vs.ownBlock ∨ v'.ownBlock = some w.heap.size) :
    OrdAt w0 w' b S v' vt (Sd ++ L) Tk := by
  subst hm
  obtain ⟨F, h1, h2, h3, h4, h5, h6⟩ := h
  have hlt : ∀ k, vt.ownBlock = some k → k < w.heap.size := fun k hk => RowR.own_lt h3 hk
  have hz := hg.size
  refine ⟨_, h1.grown hg (fun k e => ⟨h4 k e, own_from h2 e⟩), ?_, h3.kept hg ?_, ?_, fun k hk => Or.inl (h5 k hk), ?_⟩
  · rw [List.length_append, wcells_app]; exact hown
  · rcases h6 with h6 | h6
    · rw [h6]
      cases hv : vt.ownBlock with
      | none => exact Or.inl rfl
      | some k => exact Or.inr (by simp)
    · exact Or.inr (fun e => h6 e.symm)
  · intro k hk
    rcases hat with e | e
    · rw [e] at hk; exact Or.inl (h4 k hk)
    · rw [e] at hk
      injection hk with hk
      subst hk
      exact Or.inr ⟨Nat.le_refl _, RowR.own_lt hown e⟩
  · rcases hat with e | e
    · rw [e]; exact h6
    · right
      rw [e]
      intro e2
      have := hlt _ e2.symm
      omega
theorem OrdAt.appT {m : Nat} (h : OrdAt w0 w b S vs vt Sd Tk) (hm : m = L.length) (hown : w'.ownsRow w0.heap.size 9 1 v' (Tk.length + m) (wcells Tk ++ wcells L)) (hg : w.grownBy w' vt.ownBlock) (hat : v'.ownBlock = vt.ownBlock ∨ v'.ownBlock = some w.heap.size) :
    OrdAt w0 w' b S vs v' Sd (Tk ++ L) := by
  subst hm
  obtain ⟨F, h1, h2, h3, h4, h5, h6⟩ := h
  have hlt : ∀ k, vs.ownBlock = some k → k < w.heap.size := fun k hk => RowR.own_lt h2 hk
  have hz := hg.size
  refine ⟨_, h1.grown hg (fun k e => ⟨h5 k e, own_from h3 e⟩), h2.kept hg h6, ?_, fun k hk => Or.inl (h4 k hk), ?_, ?_⟩
  · rw [List.length_append, wcells_app]; exact hown
  · intro k hk
    rcases hat with e | e
    · rw [e] at hk; exact Or.inl (h5 k hk)
    · rw [e] at hk
      injection hk with hk
      subst hk
      exact Or.inr ⟨Nat.le_refl _, RowR.own_lt hown e⟩
  · rcases hat with e | e
    · rw [e]; exact h6
    · cases hv : vs.ownBlock with
      | none => exact Or.inl rfl
      | some k =>
        right
        rw [e]
        intro e2
        injection e2 with e2
        have := hlt _ hv
        omega
theorem say_ord (h : OrdAt w0 w b S vs vt Sd Tk) (hS : S.ok) (t : ByteArray) (ht : t.size ≤ 65536) (hE : Env w0) :
    Calls Tryd.prog 38 #[ptr b, .string t] w fun e w' => e = .returned (.int .i64 (S.say t.data.toList).2) ∧ OrdAt w0 w' b (S.say t.data.toList).1 vs vt Sd Tk := by
  obtain ⟨F, h1, h2, h3, h4, h5, h6⟩ := h
  refine (say_ow h1 hS t ht hE).mono ?_
  rintro e w' ⟨rfl, hA, hK⟩
  exact ⟨rfl, F, hA, hK.own h2 h4, hK.own h3 h5, h4, h5, h6⟩
theorem take_ord (h : OrdAt w0 w b S vs vt Sd Tk) (hS : S.ok) :
    Calls Tryd.prog 41 #[ptr b] w fun e w' => e = .returned (.tuple #[spkV S.peek, .bool S.can]) ∧ OrdAt w0 w' b S.take vs vt Sd Tk := by
  obtain ⟨F, h1, h2, h3, h4, h5, h6⟩ := h
  refine (take_ow h1 hS).mono ?_
  rintro e w' ⟨rfl, hA, hK⟩
  exact ⟨rfl, F, hA, hK.own h2 h4, hK.own h3 h5, h4, h5, h6⟩
theorem flush_ord (h : OrdAt w0 w b S vs vt Sd Tk) :
    Calls Tryd.prog 53 #[ptr b] w fun e w' => e = .returned (.int .i64 0) ∧ OrdAt w0 w' b { S with free := S.opn.length } vs vt Sd Tk := by
  obtain ⟨F, h1, h2, h3, h4, h5, h6⟩ := h
  refine (flush_ow h1).mono ?_
  rintro e w' ⟨rfl, hA, hK⟩
  exact ⟨rfl, F, hA, hK.own h2 h4, hK.own h3 h5, h4, h5, h6⟩
end
theorem row_one {W : World} (n : Nat) (x : List UInt8) (hn : n = W.heap.size) : RowR (W.alloc (.cells #[.string (ba x)] 9)) 1 (.slice (some ⟨n, 0, none⟩) 1 1) 1 (wcells [x]) := by
  subst hn
  refine ⟨rfl, Or.inr ⟨_, 0, 1, rfl, by simp, Nat.le_refl _, ?_⟩⟩
  intro j u hu
  match j, hu with
  | 0, e =>
    injection e with e
    subst e
    rw [World.cell?_alloc_new]; rfl
  | j + 1, e => cases e
end Go.Proofs.YtheemefggkcfbaaDoor
namespace Go.Proofs.YtheemefggkcfbaaDoor
open Go Go.Lib Go.RowKit Go.Shelf
theorem tab_stays {w w' : World} {n : String} {zs : List Int} {g : Nat} (hg : Tryd.prog.globalNamed n = some g) (h : Lib.TabIs Tryd.prog w n .u8 zs) (hb : Below w.heap.size w w') : Lib.TabIs Tryd.prog w' n .u8 zs := by
  unfold Lib.TabIs World.var? at h ⊢
  rw [hg] at h ⊢
  simp only [Option.bind_some] at h ⊢
  rw [hb.block g (by
    rcases Nat.lt_or_ge g w.heap.size with h' | h'
    · exact h'
    · rw [Array.getElem?_eq_none h'] at h; cases h)]
  exact h
theorem spkL_len101 {s : ByteArray} (hs : s.size ≤ 100) : (spkL s.data.toList).length ≤ 101 := by
  unfold spkL
  split
  · have := spGo_len s.data.toList []
    have e : s.data.toList.length = s.size := rfl
    unfold spW
    omega
  · simp
set_option maxHeartbeats 8000000 in
set_option maxRecDepth 100000 in
theorem law_order (k : Nat) (hk : k < 256) (a : Option Addr) (c : Nat) (L : List (List UInt8)) (w : World) (hE : Env w) (hA : Lib.TabIs Tryd.prog w "strings.asciiSpace" .u8 Lib.asciiSpaceTab) (hW : Lib.WhiteTab 3 w) (hR : 0 < L.length → RowR w 1 (.slice a L.length c) L.length (wcells L)) (hL : L.length ≤ 9223372036854775807) (hsz : ∀ x ∈ L, x.length ≤ 9223372036854775807) :
    Calls Tryd.prog 15 #[.int .u8 k, .slice a L.length c] w fun e w' => e = .returned (.bool true) ∧ Below w.heap.size w w' := by
  obtain ⟨i0, hi, iz0, iz1, iz2⟩ := info_parts info9
  go_enter Tryd.func15, Tryd.ntmps15
  go_wp2_with fail
  refine (awake_any w hE).mono ?_
  rintro e w1 ⟨rfl, hb1⟩
  go_wp2_with fail
  rw [show ((k : Int) % 17) = ((k % 17 : Nat) : Int) by omega]
  have hh : k % 17 ≤ 16 := by omega
  generalize k % 17 = h at *
  refine (new_ow (w0 := w) h hh hb1).mono ?_
  rintro e w2 ⟨b, rfl, hN, hb2⟩
  have A := Lib.hid (OrdAt.start (hN.weaken (fun _ h => h.elim)))
  clear hN hb1 hb2 hk
  have HR := Lib.hid hR
  have HT := Lib.hid (And.intro hA hW)
  have HZ := Lib.hid hsz
  clear hR hA hW hsz
  go_wp2_with fail
  go_loopw [8, 9, 10] (fun vs vt iv wx => ∃ (i : Nat) (S : Sp) (R Sd Tk : List (List UInt8)), iv = .int .i64 i ∧ i ≤ 12 ∧ i ≤ L.length ∧ Hid (S.ok ∧ OrdS S h R ∧ Sd = Tk ++ R ∧ (Tk ≠ [] → h ≤ R.length)) ∧ Hid (OrdAt w wx b S vs vt Sd Tk) ∧ Sd.length ≤ 101 * i) (fun _ _ v _ => 12 - (intOf v).toNat)
  case atStart => exact ⟨0, Sp.new h, [], [], [], rfl, by omega, by omega, Lib.hid ⟨new_ok hh, ord_new h, rfl, fun e => absurd rfl e⟩, A, by simp⟩
  case round =>
    clear A
    obtain ⟨i, S, R, Sd, Tk, rfl, hi12, hiL, HS, A, hSd⟩ := hrel
    by_cases hlt : i < 12 ∧ i < L.length
    · have hz1 : (i : Int) < (L.length : Int) := by omega
      have hz2 : (i : Int) < 12 := by omega
      have R1 := (HR.out (by omega)).below (A.out.dn)
      rcases R1.2 with ⟨_, e⟩ | ⟨g, off, cap, e, hg, hc, _⟩
      · omega
      obtain ⟨rfl, rfl⟩ : a = some ⟨g, off, none⟩ ∧ c = cap := by injection e with e1 _ e3; exact ⟨e1, e3⟩
      have y1 := RowR.at1 R1 i hlt.2
      have hY : (ba (L.getD i [])).size ≤ 9223372036854775807 := by
        rw [List.getD_eq_getElem?_getD, List.getElem?_eq_getElem hlt.2]
        exact HZ.out _ (List.getElem_mem _)
      generalize L.getD i [] = Y at *
      clear R1 e
      go_upto_region 11 with fail
      go_quiet (fail)
      go_wp2_with fail
      have hT : ((ba Y).extract 0 (min ((ba Y).size : Int) 100).toNat).size ≤ 100 := cut_size _ 100
      generalize (ba Y).extract 0 (min ((ba Y).size : Int) 100).toNat = T at *
      have A2 := Lib.hid (A.out.below (w' := wr.drewN nq) (below_dn (Below.refl _ _) nq))
      clear A y1 hY
      generalize wr.drewN nq = W at *
      refine (say_ord A2.out HS.out.1 T (by omega) hE).mono ?_
      rintro e w3 ⟨rfl, A3⟩
      have ho := say_ok HS.out.1 T.data.toList
      go_upto_if 52 with fail
      go_cut [8] (fun vs wx => ∃ (S : Sp) (R Sd : List (List UInt8)), Hid (S.ok ∧ OrdS S h R ∧ Sd = Tk ++ R ∧ (Tk ≠ [] → h ≤ R.length)) ∧ Hid (OrdAt w wx b S vs u9 Sd Tk) ∧ Sd.length ≤ 101 * (i + 1))
      case first =>
        by_cases hz : (S.say T.data.toList).2 = 0
        · obtain ⟨e1, o⟩ := ord_say HS.out.2.1 hz
          have hf := fields_said e1
          have hrn := replace_nl T.data.toList
          have A4 := Lib.hid A3
          have HO := Lib.hid (And.intro ho o)
          rw [hz]
          generalize (S.say T.data.toList).1 = S' at *
          clear A2 A3 hz ho o e1
          obtain ⟨m, hm⟩ := (hE.below A4.out.dn).maxl
          go_wp2_with fail
          refine (Tryd.strings_ReplaceAll T ⟨#[32]⟩ ⟨#[10]⟩ m w3 (by omega) hm (by decide) (by have := Lib.countB_le ⟨#[32]⟩ (by decide) T.size T (Nat.le_refl _); rw [show (⟨#[10]⟩ : ByteArray).size = 1 from rfl]; omega)).mono ?_
          rintro e w4 ⟨rfl, hb4⟩
          have hsz4 : (⟨(Lib.replaceAll T.data.toList (⟨#[32]⟩ : ByteArray).data.toList (⟨#[10]⟩ : ByteArray).data.toList).toArray⟩ : ByteArray).size ≤ 100 := by
            have h1 : (nl T.data.toList).length = T.size := nl_len _
            show (Lib.replaceAll T.data.toList [32] [10]).toArray.size ≤ 100
            rw [hrn]; simp; omega
          have hf4 : Lib.fieldsD (⟨(Lib.replaceAll T.data.toList (⟨#[32]⟩ : ByteArray).data.toList (⟨#[10]⟩ : ByteArray).data.toList).toArray⟩ : ByteArray).data.toList = spkL T.data.toList := by
            show Lib.fieldsD (Lib.replaceAll T.data.toList [32] [10]).toArray.toList = _
            exact hf
          generalize (⟨(Lib.replaceAll T.data.toList (⟨#[32]⟩ : ByteArray).data.toList (⟨#[10]⟩ : ByteArray).data.toList).toArray⟩ : ByteArray) = T4 at *
          have A5 := Lib.hid (A4.out.below hb4)
          clear A4 hb4 hf hrn hm
          go_wp2_with fail
          refine (Tryd.strings_Fields_any T4 w4 (by omega) (tab_stays (g := 0) (by kernel_rfl) HT.out.1 A5.out.dn) (WhiteTab_below HT.out.2 A5.out.dn)).mono ?_
          rintro e w5 ⟨B, rfl, hB, ho5, hb5⟩
          rw [hf4] at ho5 ⊢
          have HQ : Hid (RowR w5 1 (.slice (some ⟨B, 0, none⟩) (spkL T.data.toList).length (spkL T.data.toList).length) (spkL T.data.toList).length (wcells (spkL T.data.toList))) := Lib.hid (RowR.of_own ho5)
          have A6 := Lib.hid (A5.out.below hb5)
          have hLn := spkL_len101 (Nat.le_trans hT (by decide) : T.size ≤ 100)
          have hbz : w.heap.size ≤ w5.heap.size := A6.out.dn.size
          clear A5 hb5 ho5 hf4 hsz4 hB
          generalize hQL : spkL T.data.toList = Q at *
          clear hQL
          go_wp2_with (at_builtin; refine wpList_append_row rfl _ _ 42 rfl w.heap.size 9 i0 _ 1 16 Tryd.underlying42 hi iz0 iz1 iz2 rfl (by decide) _ Sd.length (wcells Sd) rfl A6.out.rows.1 _ Q.length (wcells Q) rfl HQ.out (one_wcells _) (by unfold maxLen; omega) (by omega) hbz ?_)
          intro v6 w6 hown hgrow hat
          have A7 := Lib.hid (A6.out.appS rfl hown hgrow hat)
          clear A6 hown hgrow hat HQ hbz
          go_wp2_with fail
          go_meet
          exact ⟨S', R ++ Q, Sd ++ Q, Lib.hid ⟨HO.out.1, HO.out.2, by rw [HS.out.2.2.1, List.append_assoc], fun e => by have := HS.out.2.2.2 e; rw [List.length_append]; omega⟩, A7, by rw [List.length_append]; omega⟩
        · have hn := say_none hz
          rw [hn] at A3
          have A4 := Lib.hid A3
          clear A2 A3 ho hn
          generalize (S.say T.data.toList).2 = Z at *
          go_wp2_with fail
          go_meet
          exact ⟨S, R, Sd, HS, A4, by omega⟩
      case rest =>
        clear A2 A3 HS
        obtain ⟨S1, R1, Sd1, HS1, A1, hSd1⟩ := hcut
        go_wp2_with fail
        go_loopg [9] (R1.length + 1) (fun gf vt wx => ∃ (S : Sp) (R Tk : List (List UInt8)), Hid (S.ok ∧ OrdS S h R ∧ Sd1 = Tk ++ R ∧ (Tk ≠ [] → h ≤ R.length)) ∧ Hid (OrdAt w wx b S u8 vt Sd1 Tk) ∧ R.length + 1 ≤ gf)
        case atStart => exact ⟨S1, R1, Tk, HS1, A1, Nat.le_refl _⟩
        case round =>
          clear A1 HS1
          obtain ⟨S, R, Tk, HS, A, hg⟩ := hrel
          obtain ⟨g', rfl⟩ : ∃ g', gk = g' + 1 := ⟨gk - 1, by omega⟩
          go_wp2_with fail
          refine (take_ord A.out HS.out.1).mono ?_
          rintro e w4 ⟨rfl, A4⟩
          have ho4 := take_ok HS.out.1
          cases hc : S.can with
          | true =>
            obtain ⟨x, R2, rfl, hp, o2, hl2⟩ := ord_take HS.out.2.1 hc
            rw [hp, spkV_ba]
            have HS2 := Lib.hid (And.intro ho4 (And.intro o2 (And.intro HS.out.2.2.1 hl2)))
            have A5 := Lib.hid ((A4.below (below1 (.cells #[.string (ba x), .bool false, .bool false] 59) (Nat.le_refl _))).below (below1 (.cells #[.string (ba x)] 9) (Nat.le_refl _)))
            have HX := Lib.hid (row_one (W := w4.alloc (.cells #[.string (ba x), .bool false, .bool false] 59)) (w4.heap.size + 1) x (by simp))
            have hbz : w.heap.size ≤ ((w4.alloc (.cells #[.string (ba x), .bool false, .bool false] 59)).alloc (.cells #[.string (ba x)] 9)).heap.size := A5.out.dn.size
            have hTk : Tk.length ≤ 2000 := by have := congrArg List.length HS2.out.2.2.1; rw [List.length_append] at this; omega
            generalize S.take = S2 at *
            clear A A4 HS ho4 o2 hl2 hc hp
            go_wp2_with (at_builtin; refine wpList_append_row rfl _ _ 42 rfl w.heap.size 9 i0 _ 1 16 Tryd.underlying42 hi iz0 iz1 iz2 rfl (by decide) _ Tk.length (wcells Tk) rfl A5.out.rows.2 _ 1 (wcells [x]) rfl HX.out (one_wcells _) (by unfold maxLen; omega) (by omega) hbz ?_)
            intro v6 w6 hown hgrow hat
            have A7 := Lib.hid (A5.out.appT (L := [x]) rfl hown hgrow (by simpa using hat))
            clear A5 hown hgrow hat HX hbz
            go_wp2_with fail
            go_roundg g'
            case measure => omega
            case rel => exact ⟨S2, R2, Tk ++ [x], Lib.hid ⟨HS2.out.1, HS2.out.2.1, by rw [HS2.out.2.2.1]; simp, fun _ => HS2.out.2.2.2⟩, A7, by simp at hg; omega⟩
          | false =>
            have hcan := ord_can HS.out.2.1
            rw [hc] at hcan
            have hle : R.length ≤ h := Nat.le_of_not_lt (of_decide_eq_false hcan.symm)
            have hs := take_none hc
            rw [hs.1] at A4
            rw [hs.2, show (default : Spk) = ([], false, false) from rfl, spkV_ba]
            have A5 := Lib.hid (A4.below (below1 (.cells #[.string (ba []), .bool false, .bool false] 59) (Nat.le_refl _)))
            have hlen := congrArg List.length HS.out.2.2.1
            rw [List.length_append] at hlen
            have hz3 : ¬ ((h : Int) < (Sd1.length : Int) - (Tk.length : Int)) := by omega
            have hz5 : 0 < Tk.length → ¬ ((Sd1.length : Int) - (Tk.length : Int) < (h : Int)) := fun e => by have := HS.out.2.2.2 (List.length_pos_iff.1 e); omega
            clear A A4 hs hc hcan hlen
            obtain ⟨as1, cs1, rfl⟩ := own_len A5.out.rows.1
            obtain ⟨at1, ct1, rfl⟩ := own_len A5.out.rows.2
            by_cases hT0 : 0 < Tk.length
            · have hz4 : (0 : Int) < (Tk.length : Int) := by omega
              have hz6 := hz5 hT0
              clear hz5 hT0
              go_wp2_with fail
              go_roundw
              case rel => exact ⟨i + 1, S, R, Sd1, Tk, by go_num, by omega, by omega, HS, A5, hSd1⟩
              case measure => simp [intOf]; omega
            · have hz4 : ¬ ((0 : Int) < (Tk.length : Int)) := by omega
              clear hz5 hT0
              go_wp2_with fail
              go_roundw
              case rel => exact ⟨i + 1, S, R, Sd1, Tk, by go_num, by omega, by omega, HS, A5, hSd1⟩
              case measure => simp [intOf]; omega
    · have hcase : (¬ (i : Int) < (L.length : Int)) ∨ ((i : Int) < (L.length : Int) ∧ ¬ (i : Int) < 12) := by omega
      clear hlt HT HZ
      rcases hcase with hz1 | ⟨hz1, hz2⟩
      all_goals
        go_wp2_with fail
        refine (flush_ord A.out).mono ?_
        rintro e w3 ⟨rfl, A3⟩
        have HS3 := Lib.hid (And.intro (flush_ok HS.out.1) (And.intro (flu_flush HS.out.2.1) HS.out.2.2.1))
        have A4 := Lib.hid A3
        clear A A3 HS
        generalize ({ S with free := S.opn.length } : Sp) = S3 at *
        go_wp2_with fail
        go_loopg [9] (R.length + 1) (fun gf vt wx => ∃ (S : Sp) (R Tk : List (List UInt8)), Hid (S.ok ∧ FluS S R ∧ Sd = Tk ++ R) ∧ Hid (OrdAt w wx b S u8 vt Sd Tk) ∧ R.length + 1 ≤ gf)
        case atStart => exact ⟨S3, R, Tk, HS3, A4, Nat.le_refl _⟩
        case round =>
          clear A4 HS3
          obtain ⟨S, R, Tk, HS, A, hg⟩ := hrel
          obtain ⟨g', rfl⟩ : ∃ g', gk = g' + 1 := ⟨gk - 1, by omega⟩
          go_wp2_with fail
          refine (take_ord A.out HS.out.1).mono ?_
          rintro e w4 ⟨rfl, A4⟩
          have ho4 := take_ok HS.out.1
          cases hc : S.can with
          | true =>
            obtain ⟨x, R2, rfl, hp, o2⟩ := flu_take HS.out.2.1 hc
            rw [hp, spkV_ba]
            have HS2 := Lib.hid (And.intro ho4 (And.intro o2 HS.out.2.2))
            have A5 := Lib.hid ((A4.below (below1 (.cells #[.string (ba x), .bool false, .bool false] 59) (Nat.le_refl _))).below (below1 (.cells #[.string (ba x)] 9) (Nat.le_refl _)))
            have HX := Lib.hid (row_one (W := w4.alloc (.cells #[.string (ba x), .bool false, .bool false] 59)) (w4.heap.size + 1) x (by simp))
            have hbz : w.heap.size ≤ ((w4.alloc (.cells #[.string (ba x), .bool false, .bool false] 59)).alloc (.cells #[.string (ba x)] 9)).heap.size := A5.out.dn.size
            have hTk : Tk.length ≤ 2000 := by have := congrArg List.length HS2.out.2.2; rw [List.length_append] at this; omega
            generalize S.take = S2 at *
            clear A A4 HS ho4 o2 hc hp
            go_wp2_with (at_builtin; refine wpList_append_row rfl _ _ 42 rfl w.heap.size 9 i0 _ 1 16 Tryd.underlying42 hi iz0 iz1 iz2 rfl (by decide) _ Tk.length (wcells Tk) rfl A5.out.rows.2 _ 1 (wcells [x]) rfl HX.out (one_wcells _) (by unfold maxLen; omega) (by omega) hbz ?_)
            intro v6 w6 hown hgrow hat
            have A7 := Lib.hid (A5.out.appT (L := [x]) rfl hown hgrow (by simpa using hat))
            clear A5 hown hgrow hat HX hbz
            go_wp2_with fail
            go_roundg g'
            case measure => omega
            case rel => exact ⟨S2, R2, Tk ++ [x], Lib.hid ⟨HS2.out.1, HS2.out.2.1, by rw [HS2.out.2.2]; simp⟩, A7, by simp at hg; omega⟩
          | false =>
            have hcan := flu_can HS.out.2.1
            rw [hc] at hcan
            have hle : R = [] := List.length_eq_zero_iff.1 (by have : ¬ 0 < R.length := of_decide_eq_false hcan.symm; omega)
            have hs := take_none hc
            rw [hs.1] at A4
            rw [hs.2, show (default : Spk) = ([], false, false) from rfl, spkV_ba]
            have hST : Sd = Tk := by rw [HS.out.2.2, hle, List.append_nil]
            have A5 := Lib.hid (A4.below (below1 (.cells #[.string (ba []), .bool false, .bool false] 59) (Nat.le_refl _)))
            clear A A4 hs hc hcan HS ho4
            subst hST
            go_wp2_with fail
            refine (texts_same _ _ _ Sd (RowR.of_own A5.out.rows.1) (RowR.of_own A5.out.rows.2) (by omega)).mono ?_
            rintro e w5 ⟨rfl, hb5⟩
            have D := Lib.hid (A5.out.dn.trans (hb5.mono A5.out.dn.size))
            clear A5 hb5
            go_wp2_with fail
            go_ret
            exact ⟨rfl, D.out⟩
end Go.Proofs.YtheemefggkcfbaaDoor
