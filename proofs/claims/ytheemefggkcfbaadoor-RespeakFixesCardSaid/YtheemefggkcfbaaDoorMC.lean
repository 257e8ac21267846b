import Derived.Test.YtheemefggkcfbaaDoorMB
import Derived.Lib.SplitLaws
import Derived.Lib.OwnBridge
import Derived.Test.YtheemefggkcfbaaDoorMA
import Derived.Deep.AppendLies
import Derived.Deep.Onto
import Derived.Deep.RegionWith
import Derived.Deep.DeepCutAuto
import Derived.Deep.RegionHeld
namespace Go.Proofs.YtheemefggkcfbaaDoor
open Go Go.Lib Go.RowKit Go.Shelf
/-! ### words that spaces part -/
def spGo : List UInt8 → List UInt8 → List (List UInt8)
  | cur, [] => if cur = [] then [] else [cur]
  | cur, b :: t => if b = 32 then (if cur = [] then [] else [cur]) ++ spGo [] t else spGo (cur ++ [b]) t
def spW (l : List UInt8) : List (List UInt8) := spGo [] l
theorem spGo_cons (cur : List UInt8) (b : UInt8) (t : List UInt8) : spGo cur (b :: t) = if b = 32 then (if cur = [] then [] else [cur]) ++ spGo [] t else spGo (cur ++ [b]) t := rfl
theorem spGo_pass : ∀ (xs cur t : List UInt8), (32 : UInt8) ∉ xs → spGo cur (xs ++ t) = spGo (cur ++ xs) t
  | [], cur, t, _ => by simp
  | b :: xs, cur, t, h => by
    rw [List.cons_append, spGo_cons, if_neg (fun e => h (by simp [e])), spGo_pass xs (cur ++ [b]) t (fun e => h (by simp [e]))]
    simp
theorem idx32 : ∀ l : List UInt8, (Lib.index l [32] = -1 ∧ (32 : UInt8) ∉ l) ∨ ∃ pre t, l = pre ++ 32 :: t ∧ (32 : UInt8) ∉ pre ∧ Lib.index l [32] = pre.length
  | [] => Or.inl ⟨by simp [Lib.index], by simp⟩
  | b :: l => by
    by_cases h : (32 : UInt8) = b
    · subst h
      exact Or.inr ⟨[], l, rfl, by simp, by simp [Lib.index]⟩
    · have e : ([32] : List UInt8).isPrefixOf (b :: l) = false := by simp [List.isPrefixOf, h]
      have hstep : Lib.index (b :: l) [32] = if Lib.index l [32] == -1 then -1 else Lib.index l [32] + 1 := by
        conv => lhs; unfold Lib.index
        rw [e, if_neg (by simp)]
      rcases idx32 l with ⟨h1, h2⟩ | ⟨pre, t, h1, h2, h3⟩
      · left
        rw [hstep, h1]
        exact ⟨rfl, by simp [h, h2]⟩
      · right
        refine ⟨b :: pre, t, by rw [h1]; rfl, by simp [h, h2], ?_⟩
        rw [hstep, h3, if_neg (by simp)]
        simp
theorem spW_none {l : List UInt8} (h : (32 : UInt8) ∉ l) : spW l = if l = [] then [] else [l] := by
  have := spGo_pass l [] [] h
  rw [List.append_nil, List.nil_append] at this
  unfold spW; rw [this]; rfl
theorem spW_some {pre t : List UInt8} (h : (32 : UInt8) ∉ pre) : spW (pre ++ 32 :: t) = (if pre = [] then [] else [pre]) ++ spW t := by
  unfold spW
  rw [spGo_pass pre [] _ h, List.nil_append, spGo_cons, if_pos rfl]
def sepS : ByteArray := ⟨#[32]⟩
theorem split_filter : ∀ (k : Nat) (s : ByteArray), Lib.countB s sepS = k → ((Lib.splitB sepS 0 k s).map (·.data.toList)).filter (fun x => !x.isEmpty) = spW s.data.toList := by
  intro k
  induction k with
  | zero =>
    intro s hc
    rw [splitB_zero]
    rcases idx32 s.data.toList with ⟨h1, h2⟩ | ⟨pre, t, h1, h2, h3⟩
    · rw [spW_none h2]
      by_cases h : s.data.toList = []
      · simp [h]
      · rw [if_neg h]; simp [h]
    · have := countB_hit s sepS pre.length (by decide) h3
      omega
  | succ k ih =>
    intro s hc
    rcases idx32 s.data.toList with ⟨h1, h2⟩ | ⟨pre, t, h1, h2, h3⟩
    · have := countB_miss s sepS h1
      omega
    · have hcb := countB_hit s sepS pre.length (by decide) h3
      rw [splitB_hit sepS 0 k s pre.length h3, List.map_cons]
      have e1 : (s.extract 0 (pre.length + 0)).data.toList = pre := by rw [extract_data, h1]; simp
      have e2 : (s.extract (pre.length + sepS.size) s.size).data.toList = t := by
        rw [extract_data, size_eq, h1, show sepS.size = 1 from rfl]
        rw [List.take_of_length_le (by rw [List.length_drop]; omega)]
        rw [show pre ++ 32 :: t = (pre ++ [32]) ++ t by simp, List.drop_left' (by simp)]
      have hi := ih (s.extract (pre.length + sepS.size) s.size) (by omega)
      rw [e2] at hi
      rw [e1, h1, spW_some h2, List.filter_cons, hi]
      by_cases h : pre = []
      · simp [h]
      · rw [if_pos (by simp [h]), if_neg h]; rfl
end Go.Proofs.YtheemefggkcfbaaDoor
namespace Go.Proofs.YtheemefggkcfbaaDoor
open Go Go.Lib Go.RowKit Go.Shelf
set_option maxHeartbeats 4000000 in
set_option maxRecDepth 100000 in
theorem word_any (s : ByteArray) (w : World) (hs : s.size < 4294967281) (hE : Env w) :
    Calls Tryd.prog 34 #[.string s] w fun e w' => e = .returned (.int .i64 (wordE s.data.toList)) ∧ Below w.heap.size w w' := by
  obtain ⟨he1, he2⟩ := empty_str s
  have cV := Tryd.utf8_ValidString s w (by omega) hE.tabs
  by_cases h0 : s.data.toList = []
  · rw [wordE_form (Or.inl h0)]
    have x1 : s.toList = [] := he1.2 h0
    clear he1 he2 cV h0
    go_enter Tryd.func34, Tryd.ntmps34
    go_wp2_with fail
    go_ret
    exact ⟨rfl, Below.refl _ _⟩
  have x1 : s.toList.isEmpty = false := by rw [he2]; simpa using h0
  have x2 : ¬ s.toList = [] := fun h => h0 (he1.1 h)
  clear he1 he2
  cases hv : validD s.data.toList
  · rw [wordE_form (Or.inr (Or.inl hv))]
    rw [hv] at cV
    clear hv h0
    go_enter Tryd.func34, Tryd.ntmps34
    go_wp2_with (go_at_call 71; refine cV.mono ?_; rintro e w1 ⟨rfl, hb1⟩)
    go_ret
    exact ⟨rfl, hb1⟩
  rw [hv] at cV
  have F1 := Lib.hid (fun h => wordE_form (l := s.data.toList) (Or.inr (Or.inr h)))
  have F2 := Lib.hid (fun h => @wordE_char s.data.toList h0 hv h)
  have F3 := Lib.hid (fun h => @wordE_width s.data.toList h0 hv h)
  have cA := fun w => contains_nbs s w hs
  have cC := fun w => carries_any s w
  have cR := fun w => Tryd.utf8_RuneCountInString s w (by omega)
  rw [runeCount_runes] at cR
  change ∀ w, Calls Tryd.prog 72 #[.string s, .string ⟨#[32, 194, 160]⟩] w _ at cA
  generalize wordE s.data.toList = Z at *
  generalize carC s.data.toList = CC at *
  generalize (runes s.data.toList).length = N at *
  generalize (runes s.data.toList).any spR = A at *
  clear h0 hv
  cases A
  · cases CC
    · have hz : Hid (Z = 10) := Lib.hid (F2.out rfl rfl)
      clear F1 F2 F3
      go_enter Tryd.func34, Tryd.ntmps34
      go_wp2_with fail
      refine cV.mono ?_
      rintro e w1 ⟨rfl, hb1⟩
      go_wp2_with fail
      refine (cA _).mono ?_
      rintro e w2 ⟨rfl, hb2⟩
      go_wp2_with fail
      refine (cC _).mono ?_
      rintro e w3 ⟨rfl, hb3⟩
      go_wp2_with fail
      go_ret
      exact ⟨ret_int hz.out.symm, below_trans (below_trans hb1 hb2) hb3⟩
    · by_cases hN : 32 < N
      · have hz : Hid (Z = 11) := Lib.hid (by rw [F3.out rfl rfl, if_pos hN])
        have hNz : (32 : Int) < (N : Int) := by omega
        clear F1 F2 F3
        go_enter Tryd.func34, Tryd.ntmps34
        go_wp2_with fail
        refine cV.mono ?_
        rintro e w1 ⟨rfl, hb1⟩
        go_wp2_with fail
        refine (cA _).mono ?_
        rintro e w2 ⟨rfl, hb2⟩
        go_wp2_with fail
        refine (cC _).mono ?_
        rintro e w3 ⟨rfl, hb3⟩
        go_wp2_with fail
        refine (cR _).mono ?_
        rintro e w4 ⟨rfl, pos, rfl⟩
        go_wp2_with fail
        go_ret
        exact ⟨ret_int hz.out.symm, below_trans (below_trans (below_trans hb1 hb2) hb3) (below_iter _ _ _)⟩
      · have hz : Hid (Z = 0) := Lib.hid (by rw [F3.out rfl rfl, if_neg hN])
        have hNz : ¬ (32 : Int) < (N : Int) := by omega
        clear F1 F2 F3
        go_enter Tryd.func34, Tryd.ntmps34
        go_wp2_with fail
        refine cV.mono ?_
        rintro e w1 ⟨rfl, hb1⟩
        go_wp2_with fail
        refine (cA _).mono ?_
        rintro e w2 ⟨rfl, hb2⟩
        go_wp2_with fail
        refine (cC _).mono ?_
        rintro e w3 ⟨rfl, hb3⟩
        go_wp2_with fail
        refine (cR _).mono ?_
        rintro e w4 ⟨rfl, pos, rfl⟩
        go_wp2_with fail
        go_ret
        exact ⟨ret_int hz.out.symm, below_trans (below_trans (below_trans hb1 hb2) hb3) (below_iter _ _ _)⟩
  · have hz : Hid (Z = 4) := Lib.hid (F1.out rfl)
    clear F1 F2 F3
    go_enter Tryd.func34, Tryd.ntmps34
    go_wp2_with fail
    refine cV.mono ?_
    rintro e w1 ⟨rfl, hb1⟩
    go_wp2_with fail
    refine (cA _).mono ?_
    rintro e w2 ⟨rfl, hb2⟩
    go_wp2_with fail
    go_ret
    exact ⟨ret_int hz.out.symm, below_trans hb1 hb2⟩
end Go.Proofs.YtheemefggkcfbaaDoor
namespace Go.Proofs.YtheemefggkcfbaaDoor
open Go Go.Lib Go.RowKit Go.Shelf Go.Sort
/-! ### the words of a text -/
def firstE : List (List UInt8) → Int
  | [] => 0
  | x :: t => if wordE x = 0 then firstE t else wordE x
def spkE (l : List UInt8) : Int := if spW l = [] then 1 else firstE (spW l)
def spkL (l : List UInt8) : List (List UInt8) := if spkE l = 0 then spW l else []
theorem firstE_drop (L : List (List UInt8)) (i : Nat) (h : i < L.length) : firstE (L.drop i) = if wordE (L.getD i []) = 0 then firstE (L.drop (i + 1)) else wordE (L.getD i []) := by
  rw [List.drop_eq_getElem_cons h, List.getD_eq_getElem?_getD, List.getElem?_eq_getElem h]; rfl
theorem spGo_len : ∀ (t cur : List UInt8), (spGo cur t).length ≤ t.length + 1
  | [], cur => by unfold spGo; split <;> simp
  | b :: t, cur => by
    rw [spGo_cons]
    split
    · rw [List.length_append]
      have := spGo_len t []
      have h2 : (if cur = [] then ([] : List (List UInt8)) else [cur]).length ≤ 1 := by split <;> simp
      simp; omega
    · have := spGo_len t (cur ++ [b])
      simp; omega
theorem spW_len (l : List UInt8) : (spW l).length ≤ l.length + 1 := spGo_len l []
theorem spGo_mem : ∀ (t cur x : List UInt8), x ∈ spGo cur t → x.length ≤ cur.length + t.length
  | [], cur, x, h => by
    unfold spGo at h
    split at h
    · simp at h
    · obtain rfl : x = cur := by simpa using h
      simp
  | b :: t, cur, x, h => by
    rw [spGo_cons] at h
    split at h
    · rw [List.mem_append] at h
      rcases h with h | h
      · split at h
        · simp at h
        · obtain rfl : x = cur := by simpa using h
          simp
      · have := spGo_mem t [] x h
        simp at *; omega
    · have := spGo_mem t (cur ++ [b]) x h
      simp at *; omega
theorem spW_getD_len (l : List UInt8) (i : Nat) : ((spW l).getD i []).length ≤ l.length := by
  by_cases h : i < (spW l).length
  · have := spGo_mem l [] ((spW l).getD i []) (by
      rw [List.getD_eq_getElem?_getD, List.getElem?_eq_getElem h]; exact List.getElem_mem h)
    simpa using this
  · rw [List.getD_eq_getElem?_getD, List.getElem?_eq_none (by omega)]; simp
set_option maxHeartbeats 1000000 in
theorem isNone_any (s : ByteArray) (w : World) : Calls Tryd.prog 70 #[.string s] w fun e w' => e = .returned (.bool s.data.toList.isEmpty) ∧ w' = w := by
  obtain ⟨he1, he2⟩ := empty_str s
  rw [← he2]
  clear he1 he2
  go_enter Tryd.func70, Tryd.ntmps70
  go_wp2_with fail
  go_ret
  exact ⟨ret_bool (by cases s.toList <;> rfl), rfl⟩
theorem enters70 : ∀ args w, (callFunc 70 args).run Tryd.prog w = .ok (.enter 70 args) w := enters_of Tryd.func70 (by kernel_rfl) rfl
theorem isNone_gives (W : World) (x : List UInt8) : FnGives Tryd.prog 70 #[] #[strV x] (.bool x.isEmpty) W := by
  refine (isNone_any (ba x) W).mono ?_
  rintro e w' ⟨rfl, rfl⟩
  exact ⟨rfl, 0, rfl⟩
/-- slices.DeleteFunc of the pieces: the words. -/
theorem delete_any (L : List (List UInt8)) (w : World) (v : Value) (B : Nat) (hv : v ≠ .slice none 0 0) (ho : w.ownsRow B 9 1 v L.length (wcells L)) (hL : L.length ≤ maxLen) :
    Calls Tryd.prog 68 #[v, .func (.func 70) #[] #[]] w fun e w' => ∃ v', e = .returned v' ∧ w'.ownsRow B 9 1 v' (L.filter (fun x => !x.isEmpty)).length (wcells (L.filter (fun x => !x.isEmpty))) ∧ Below B w w' := by
  obtain ⟨g, cap, rfl, hg, hlt, hn, hm, hlen, hH⟩ := holds_of_ownsRow (enc := strV) (zs := L) ho hv
  have c := Tryd.slices_DeleteFunc strV (fun _ => rfl) List.isEmpty 70 #[] enters70 [] (fun w => Tryd.zeroValue9 w) g 0 cap L.toArray w (fun W x _ => isNone_gives W x) (fun n os dk x _ => isNone_gives _ x) hH (by simpa [maxLen] using hL) (by simpa using hn)
  refine c.mono ?_
  rintro e w' ⟨rfl, q, rfl⟩
  have hfl : (L.filter (fun x => !x.isEmpty)).length ≤ L.length := List.length_filter_le _ _
  refine ⟨_, rfl, ?_, below_putRow (Below.refl _ _) hg⟩
  have := ownsRow_putRow (enc := strV) (zs := L) (q := q) (k := (L.filter (fun x => !x.isEmpty)).length) (ys := L.filter (fun x => !x.isEmpty) ++ List.replicate (L.length - (L.filter (fun x => !x.isEmpty)).length) []) ho (by simp; omega) hfl
  rw [List.take_left'] at this
  · exact this
  · rfl
end Go.Proofs.YtheemefggkcfbaaDoor
namespace Go.Proofs.YtheemefggkcfbaaDoor
open Go Go.Lib Go.RowKit Go.Shelf Go.Sort
/-- A text's words and what they are worth. -/
def MadeW (B : Nat) (ws : List (List UInt8)) (err : Int) (w : World) (e : Ending) (w' : World) : Prop :=
  ∃ v, e = .returned (.tuple #[v, .int .i64 err]) ∧ w'.ownsRow B 9 1 v ws.length (wcells ws) ∧ Below B w w'
theorem madeW_nil {B : Nat} {w w' : World} {ts : List (List UInt8)} {err er : Int} (h : Below B w w') (ht : ts = []) (he : er = err) : MadeW B ts err w (.returned (.tuple #[.slice none 0 0, .int .i64 er])) w' := by
  subst ht he
  exact ⟨_, rfl, World.ownsRow_nil _ _ _ _, h⟩
theorem madeW_row {B : Nat} {w w' : World} {v : Value} {ts us : List (List UInt8)} {err er : Int} (h : Below B w w') (ht : ts = us) (he : er = err) (ho : w'.ownsRow B 9 1 v us.length (wcells us)) : MadeW B ts err w (.returned (.tuple #[v, .int .i64 er])) w' := by
  subst ht he
  exact ⟨_, rfl, ho, h⟩
theorem pieces_any (s : ByteArray) (w : World) (hs : s.size ≤ 65536) (hE : Env w) :
    ∃ P : List (List UInt8), P.filter (fun x => !x.isEmpty) = spW s.data.toList ∧ 1 ≤ P.length ∧ P.length ≤ s.size + 1 ∧ Calls Tryd.prog 69 #[.string s, .string ⟨#[32]⟩] w (Made w.heap.size 9 1 P.length (wcells P) w) := by
  have hn := splitB_all sepS (by decide) 0 _ s rfl
  have hc := countB_le sepS (by decide) s.size s (Nat.le_refl _)
  refine ⟨_, split_filter _ s rfl, ?_, ?_, split_any s _ w hE (by omega) hn (by show Lib.countB s sepS + 1 ≤ _; unfold maxLen; omega) rfl⟩
  · rw [List.length_map, hn]; omega
  · rw [List.length_map, hn]; omega
theorem own_some {w : World} {B e size n : Nat} {v : Value} {xs : List Value} (h : w.ownsRow B e size v n xs) (hn : 1 ≤ n) : v ≠ .slice none 0 0 := by
  rintro rfl
  rcases h.2 with ⟨_, h2⟩ | ⟨g, cap, cur, e, _⟩
  · omega
  · cases e
theorem spk_none {l : List UInt8} (h : spW l = []) : spkE l = 1 ∧ spkL l = [] := by
  have e : spkE l = 1 := by unfold spkE; rw [if_pos h]
  exact ⟨e, by unfold spkL; rw [e]; rfl⟩
theorem spk_bad {l : List UInt8} {z : Int} (h : spW l ≠ []) (h2 : firstE (spW l) = z) (h3 : z ≠ 0) : spkE l = z ∧ spkL l = [] := by
  have e : spkE l = z := by unfold spkE; rw [if_neg h, h2]
  exact ⟨e, by unfold spkL; rw [e, if_neg h3]⟩
theorem spk_good {l : List UInt8} (h : spW l ≠ []) (h2 : firstE (spW l) = 0) : spkE l = 0 ∧ spkL l = spW l := by
  have e : spkE l = 0 := by unfold spkE; rw [if_neg h, h2]
  exact ⟨e, by unfold spkL; rw [e]; rfl⟩
set_option maxHeartbeats 4000000 in
set_option maxRecDepth 100000 in
theorem spk_any (s : ByteArray) (w : World) (hs : s.size ≤ 65536) (hE : Env w) :
    Calls Tryd.prog 32 #[.string s] w (MadeW w.heap.size (spkL s.data.toList) (spkE s.data.toList) w) := by
  obtain ⟨P, hP, hP1, hP2, c⟩ := pieces_any s w hs hE
  have hLl : (spW s.data.toList).length ≤ s.size + 1 := by
    have h := spW_len s.data.toList
    rw [← size_eq] at h; exact h
  have hwl : ∀ i, ((spW s.data.toList).getD i []).length ≤ s.size := by
    intro i
    have h := spW_getD_len s.data.toList i
    rw [← size_eq] at h; exact h
  have Hnone := Lib.hid (@spk_none s.data.toList)
  have Hbad := Lib.hid (fun z => @spk_bad s.data.toList z)
  have Hgood := Lib.hid (@spk_good s.data.toList)
  generalize spkL s.data.toList = TS at *
  generalize spkE s.data.toList = ER at *
  generalize spW s.data.toList = L at *
  go_enter Tryd.func32, Tryd.ntmps32
  go_wp2_with fail
  refine c.mono ?_
  rintro e w1 ⟨v, rfl, ho, hb⟩
  have cD := delete_any P w1 v w.heap.size (own_some ho hP1) ho (by unfold maxLen; omega)
  rw [hP] at cD
  have hsz1 := hb.size
  obtain ⟨a, cp, rfl⟩ := own_len ho
  clear c ho hP
  go_wp2_with fail
  refine cD.mono ?_
  rintro e w2 ⟨v, rfl, ho, hb2⟩
  have hbb := hb.trans hb2
  clear cD hb hb2
  obtain ⟨a, cp, rfl⟩ := own_len ho
  by_cases h0 : L = []
  · have HN := Lib.hid (Hnone.out h0)
    subst h0
    go_wp2_with fail
    go_ret2
    exact madeW_nil hbb HN.out.2 HN.out.1.symm
  have hlen : 0 < L.length := List.length_pos_iff.2 h0
  have hlz : ((L.length : Int) == 0) = false := by simp; omega
  have H0 := Lib.hid h0
  have HF := Lib.hid (firstE_drop L)
  clear h0 Hnone
  go_wp2_with fail
  go_loopw [16] (fun v wx => ∃ i : Nat, v = .int .i64 i ∧ i ≤ L.length ∧ Below w.heap.size w wx ∧ wx.ownsRow w.heap.size 9 1 (.slice a L.length cp) L.length (wcells L) ∧ Hid (firstE (L.drop i) = firstE L)) (fun v _ => L.length - (intOf v).toNat)
  case atStart => exact ⟨0, rfl, Nat.zero_le _, hbb, ho, Lib.hid (by rw [List.drop_zero])⟩
  case round =>
    clear ho hbb
    obtain ⟨i, rfl, hil, hb, ho, HV⟩ := hrel
    have hsz := hb.size
    by_cases hlt : i < L.length
    · have hz : (i : Int) < (L.length : Int) := by omega
      obtain ⟨g, rfl, hg, hc⟩ := own_at ho i hlt
      have cW := word_any (ba (L.getD i [])) wr (by rw [ba_size]; have := hwl i; omega) (hE.below hb)
      rw [strV_ba] at hc
      have hq : (ba (L.getD i [])).data.toList = L.getD i [] := rfl
      have HE := HV.out
      rw [HF.out i hlt] at HE
      rw [hq] at cW
      by_cases hW : wordE (L.getD i []) = 0
      · rw [if_pos hW] at HE
        rw [hW] at cW
        have HE := Lib.hid HE
        clear hq hW HV
        generalize ba (L.getD i []) = Y at *
        go_wp2_with fail
        refine cW.mono ?_
        rintro e w3 ⟨rfl, hb3⟩
        go_wp2_with fail
        go_roundw
        case rel => exact ⟨i + 1, by go_num, by omega, below_grow hb hsz hb3, own_stays ho hb3, HE⟩
        case measure => simp [intOf]; omega
      · rw [if_neg hW] at HE
        have HB := Lib.hid (Hbad.out _ H0.out HE.symm hW)
        have hWz : (wordE (L.getD i []) == 0) = false := by simpa using hW
        clear hq hW HV HE
        generalize ba (L.getD i []) = Y at *
        generalize wordE (L.getD i []) = Z at *
        go_wp2_with fail
        refine cW.mono ?_
        rintro e w3 ⟨rfl, hb3⟩
        go_wp2_with fail
        go_ret2
        exact madeW_nil (below_grow hb hsz hb3) HB.out.2 HB.out.1.symm
    · obtain rfl : i = L.length := by omega
      have HG := Lib.hid (Hgood.out H0.out (by have h := HV.out; rw [List.drop_length] at h; exact h.symm))
      have hz : ¬ (L.length : Int) < (L.length : Int) := by omega
      go_wp2_with fail
      go_ret2
      exact madeW_row hb HG.out.2 HG.out.1.symm ho
end Go.Proofs.YtheemefggkcfbaaDoor
namespace Go.Proofs.YtheemefggkcfbaaDoor
open Go Go.Lib Go.RowKit Go.Shelf
def restP (l : List UInt8) (from' i : Nat) : List (List UInt8) := if i ≤ l.length then spGo (pieceU l from' i) (l.drop i) else []
theorem restP_start (l : List UInt8) : restP l 0 0 = spW l := by simp [restP, pieceU, spW]
theorem restP_over (l : List UInt8) (a i : Nat) (h : l.length < i) : restP l a i = [] := by unfold restP; rw [if_neg (by omega)]
theorem restP_end (l : List UInt8) (a : Nat) : restP l a l.length = (if l.length ≤ a then [] else [pieceU l a l.length]) := by
  unfold restP
  rw [if_pos (Nat.le_refl _), List.drop_length]
  show (if pieceU l a l.length = [] then [] else [_]) = _
  by_cases h : l.length ≤ a
  · have e : pieceU l a l.length = [] := by simp [pieceU]; omega
    rw [if_pos e, if_pos h]
  · rw [if_neg (pieceU_ne l a _ (by omega) (Nat.le_refl _)), if_neg h]
theorem restP_le (l : List UInt8) (a i : Nat) (h : i ≤ l.length) : restP l a i = spGo (pieceU l a i) (l.drop i) := by unfold restP; rw [if_pos h]
theorem restP_sep (l : List UInt8) (a i : Nat) (hi : i < l.length) (ha : a ≤ i) (hs : l.getD i 0 = 32) : restP l a i = (if i ≤ a then [] else [pieceU l a i]) ++ restP l (i + 1) (i + 1) := by
  rw [restP_le l a i (by omega), restP_le l _ _ (show i + 1 ≤ l.length by omega), getD_drop l i hi, spGo_cons, hs, if_pos rfl, piece_nil]
  congr 1
  by_cases h : i ≤ a
  · have e : pieceU l a i = [] := by
      obtain rfl : a = i := by omega
      exact piece_nil l a
    rw [if_pos e, if_pos h]
  · rw [if_neg (pieceU_ne l a _ (by omega) (by omega)), if_neg h]
theorem restP_in (l : List UInt8) (a i : Nat) (hi : i < l.length) (ha : a ≤ i) (hs : l.getD i 0 ≠ 32) : restP l a i = restP l a (i + 1) := by
  rw [restP_le l a i (by omega), restP_le l _ _ (show i + 1 ≤ l.length by omega), ← pieceU_grow l a i 1 ha, getD_drop l i hi, spGo_cons, if_neg hs]
  rfl
set_option maxHeartbeats 8000000 in
set_option maxRecDepth 100000 in
theorem rspk_any (s : ByteArray) (w : World) (hs : s.size ≤ 65536) (hE : Env w) :
    Calls Tryd.prog 33 #[.string s] w (MadeW w.heap.size (spkL s.data.toList) (spkE s.data.toList) w) := by
  obtain ⟨i0, hi, hz0, hz1, hz2⟩ := info_parts info9
  have hLl : (spW s.data.toList).length ≤ s.size + 1 := by
    have h := spW_len s.data.toList
    rw [← size_eq] at h; exact h
  have hwl : ∀ i, ((spW s.data.toList).getD i []).length ≤ s.size := by
    intro i
    have h := spW_getD_len s.data.toList i
    rw [← size_eq] at h; exact h
  have Hnone := Lib.hid (@spk_none s.data.toList)
  have Hbad := Lib.hid (fun z => @spk_bad s.data.toList z)
  have Hgood := Lib.hid (@spk_good s.data.toList)
  have hLl := Lib.hid hLl
  have hwl := Lib.hid hwl
  have hl : s.data.toList.length = s.size := by rw [← size_eq]
  have hidx := idx_str s
  have hpl := piece_list s
  have hst := restP_start s.data.toList
  have hend := restP_end s.data.toList
  have hsep := restP_sep s.data.toList
  have hin := restP_in s.data.toList
  have hov := restP_over s.data.toList
  generalize spkL s.data.toList = TS at *
  generalize spkE s.data.toList = ER at *
  generalize s.data.toList = l at *
  generalize spW l = D at *
  go_enter Tryd.func33, Tryd.ntmps33
  go_wp2_with fail
  go_loopw [4, 5, 6] (fun v f5 i5 wx => ∃ (d : List (List UInt8)) (a i : Nat), f5 = .int .i64 a ∧ i5 = .int .i64 i ∧ i ≤ s.size + 1 ∧ a ≤ i ∧ d.length ≤ i ∧ wx.ownsRow w.heap.size 9 1 v d.length (wcells d) ∧ Below w.heap.size w wx ∧ Hid (d ++ restP l a i = D)) (fun _ _ i5 _ => s.size + 1 - (intOf i5).toNat)
  case atStart => exact ⟨[], 0, 0, rfl, rfl, by omega, by omega, by simp, World.ownsRow_nil _ _ _ _, Below.refl _ _, Lib.hid (by rw [hst]; rfl)⟩
  case round =>
    clear hst
    obtain ⟨d, a, i, rfl, rfl, hi', ha, hd, hown, hb, hD⟩ := hrel
    have hsz := hb.size
    by_cases hle : i ≤ s.size
    · by_cases heq : i = s.size
      · subst heq
        have hend2 := hend a
        have hD := hD.out
        rw [hl] at hend2
        rw [hend2] at hD
        clear hend2
        have hss : ((s.size : Int) == (s.size : Int)) = true := by simp
        by_cases hga : a < s.size
        · rw [if_neg (by omega)] at hD
          rw [hpl a s.size] at hD
          have hD := Lib.hid hD
          have hgz : (a : Int) < (s.size : Int) := by omega
          clear hidx hpl hend hsep hin
          go_wp2_with (at_builtin; refine wpList_append_own _ rfl _ _ 42 rfl w.heap.size 9 i0 _ 1 16 Tryd.underlying42 hi hz0 hz1 hz2 rfl (by decide) _ _ _ rfl (hown.alloc _) ⟨wr.heap.size, 0, none⟩ 1 1 [.string (s.extract a s.size)] rfl rfl ?c1 ?c2 ?c3 ?c4 ?c5 ?_)
          case c1 => exact cells_new _ _ _ rfl
          case c2 => simp [Value.oneCell']
          case c3 => unfold maxLen; omega
          case c4 => omega
          case c5 => simp; omega
          · intro v' w1 hown' hgrow _
            have R := wd_step (x := (s.extract a s.size).data.toList) (hown.alloc _) (hb.alloc hsz _) (by simp; omega) hown' hgrow
            clear hown' hgrow hown hb
            go_wp2_with fail
            go_roundw
            case rel => exact ⟨d ++ [(s.extract a s.size).data.toList], s.size + 1, s.size + 1, by go_num, by go_num, by omega, by omega, by simp; omega, R.1, R.2, Lib.hid (by rw [hov _ _ (by omega), List.append_nil]; exact hD.out)⟩
            case measure => simp [intOf]
        · rw [if_pos (by omega), List.append_nil] at hD
          have hD := Lib.hid hD
          have hgz : ¬ (a : Int) < (s.size : Int) := by omega
          clear hidx hpl hend hsep hin
          go_wp2_with fail
          go_roundw
          case rel => exact ⟨d, s.size + 1, s.size + 1, by go_num, by go_num, by omega, by omega, by omega, hown, hb, Lib.hid (by rw [hov _ _ (by omega), List.append_nil]; exact hD.out)⟩
          case measure => simp [intOf]
      · have hlt : i < s.size := by omega
        have hlz : (i : Int) < (s.size : Int) := by omega
        have hez : ((i : Int) == (s.size : Int)) = false := by simp; omega
        have hix := hidx i hlt
        have hD := hD.out
        by_cases hs1 : l.getD i 0 = 32
        · rw [hsep a i (by omega) ha hs1] at hD
          rw [hs1] at hix
          by_cases hga : a < i
          · rw [if_neg (by omega)] at hD
            rw [hpl a i] at hD
            have hD := Lib.hid hD
            have hgz : (a : Int) < (i : Int) := by omega
            clear hidx hpl hend hsep hin hs1
            go_wp2_with (at_builtin; refine wpList_append_own _ rfl _ _ 42 rfl w.heap.size 9 i0 _ 1 16 Tryd.underlying42 hi hz0 hz1 hz2 rfl (by decide) _ _ _ rfl (hown.alloc _) ⟨wr.heap.size, 0, none⟩ 1 1 [.string (s.extract a i)] rfl rfl ?c1 ?c2 ?c3 ?c4 ?c5 ?_)
            case c1 => exact cells_new _ _ _ rfl
            case c2 => simp [Value.oneCell']
            case c3 => unfold maxLen; omega
            case c4 => omega
            case c5 => simp; omega
            · intro v' w1 hown' hgrow _
              have R := wd_step (x := (s.extract a i).data.toList) (hown.alloc _) (hb.alloc hsz _) (by simp; omega) hown' hgrow
              clear hown' hgrow hown hb
              go_wp2_with fail
              go_roundw
              case rel => exact ⟨d ++ [(s.extract a i).data.toList], i + 1, i + 1, by go_num, by go_num, by omega, by omega, by simp; omega, R.1, R.2, Lib.hid (by rw [List.append_assoc]; exact hD.out)⟩
              case measure => simp [intOf]; omega
          · rw [if_pos (by omega), List.nil_append] at hD
            have hD := Lib.hid hD
            have hgz : ¬ (a : Int) < (i : Int) := by omega
            clear hidx hpl hend hsep hin hs1
            go_wp2_with fail
            go_roundw
            case rel => exact ⟨d, i + 1, i + 1, by go_num, by go_num, by omega, by omega, by omega, hown, hb, hD⟩
            case measure => simp [intOf]; omega
        · rw [hin a i (by omega) ha hs1] at hD
          have hD := Lib.hid hD
          have hne : (l.getD i 0).toNat ≠ 32 := fun e => hs1 (UInt8.toNat_inj.1 e)
          clear hidx hpl hend hsep hin hs1
          generalize (l.getD i 0).toNat = y at *
          have h1z : ((y : Int) == 32) = false := by simp; omega
          clear hne
          go_wp2_with fail
          go_roundw
          case rel => exact ⟨d, a, i + 1, rfl, by go_num, by omega, by omega, by omega, hown, hb, hD⟩
          case measure => simp [intOf]; omega
    · have hD2 := hD.out
      rw [hov a i (by omega), List.append_nil] at hD2
      subst hD2
      have hlz : ¬ (i : Int) ≤ (s.size : Int) := by omega
      obtain ⟨a', cp, rfl⟩ := own_len hown
      clear hidx hpl hend hsep hin hov hD
      generalize d = L at *
      by_cases h0 : L = []
      · have HN := Lib.hid (Hnone.out h0)
        subst h0
        go_wp2_with fail
        go_ret2
        exact madeW_nil hb HN.out.2 HN.out.1.symm
      have hlen : 0 < L.length := List.length_pos_iff.2 h0
      have hlz2 : ((L.length : Int) == 0) = false := by simp; omega
      have H0 := Lib.hid h0
      have HF := Lib.hid (firstE_drop L)
      have hLl := hLl.out
      clear h0 Hnone
      go_wp2_with fail
      go_loopw [43] (fun v wx => ∃ i : Nat, v = .int .i64 i ∧ i ≤ L.length ∧ Below w.heap.size w wx ∧ wx.ownsRow w.heap.size 9 1 (.slice a' L.length cp) L.length (wcells L) ∧ Hid (firstE (L.drop i) = firstE L)) (fun v _ => L.length - (intOf v).toNat)
      case atStart => exact ⟨0, rfl, Nat.zero_le _, hb, hown, Lib.hid (by rw [List.drop_zero])⟩
      case round =>
        clear hown hb
        obtain ⟨i, rfl, hil, hb, ho, HV⟩ := hrel
        have hsz := hb.size
        by_cases hlt : i < L.length
        · have hz : (i : Int) < (L.length : Int) := by omega
          obtain ⟨g, rfl, hg, hc⟩ := own_at ho i hlt
          have cW := rword_any (ba (L.getD i [])) wr (by rw [ba_size]; have := hwl.out i; omega) (hE.below hb)
          rw [strV_ba] at hc
          have hq : (ba (L.getD i [])).data.toList = L.getD i [] := rfl
          have HE := HV.out
          rw [HF.out i hlt] at HE
          rw [hq] at cW
          by_cases hW : wordE (L.getD i []) = 0
          · rw [if_pos hW] at HE
            rw [hW] at cW
            have HE := Lib.hid HE
            clear hq hW HV
            generalize ba (L.getD i []) = Y at *
            go_wp2_with fail
            refine cW.mono ?_
            rintro e w3 ⟨rfl, hb3⟩
            go_wp2_with fail
            go_roundw
            case rel => exact ⟨i + 1, by go_num, by omega, below_grow hb hsz hb3, own_stays ho hb3, HE⟩
            case measure => simp [intOf]; omega
          · rw [if_neg hW] at HE
            have HB := Lib.hid (Hbad.out _ H0.out HE.symm hW)
            have hWz : (wordE (L.getD i []) == 0) = false := by simpa using hW
            clear hq hW HV HE
            generalize ba (L.getD i []) = Y at *
            generalize wordE (L.getD i []) = Z at *
            go_wp2_with fail
            refine cW.mono ?_
            rintro e w3 ⟨rfl, hb3⟩
            go_wp2_with fail
            go_ret2
            exact madeW_nil (below_grow hb hsz hb3) HB.out.2 HB.out.1.symm
        · obtain rfl : i = L.length := by omega
          have HG := Lib.hid (Hgood.out H0.out (by have h := HV.out; rw [List.drop_length] at h; exact h.symm))
          have hz : ¬ (L.length : Int) < (L.length : Int) := by omega
          go_wp2_with fail
          go_ret2
          exact madeW_row hb HG.out.2 HG.out.1.symm ho
end Go.Proofs.YtheemefggkcfbaaDoor
namespace Go.Proofs.YtheemefggkcfbaaDoor
open Go Go.Lib Go.RowKit Go.Shelf
/-! ### what a speaker is, and where it lies -/
/-- A spoken word: its text, whether it begins a row, whether it was corrected. -/
abbrev Spk := List UInt8 × Bool × Bool
def scell (x : Spk) : List Value := [strV x.1, .bool x.2.1, .bool x.2.2]
def scells : List Spk → List Value
  | [] => []
  | x :: t => scell x ++ scells t
theorem scells_app : ∀ a b : List Spk, scells (a ++ b) = scells a ++ scells b
  | [], b => rfl
  | x :: t, b => by rw [List.cons_append]; simp [scells, scells_app t b]
theorem scells_len : ∀ l : List Spk, (scells l).length = l.length * 3
  | [] => rfl
  | x :: t => by simp [scells, scell, scells_len t]; omega
theorem scells_take : ∀ (l : List Spk) (k : Nat), (scells l).take (k * 3) = scells (l.take k)
  | [], k => by simp [scells]
  | x :: t, 0 => by simp [scells]
  | x :: t, k + 1 => by
    have hl : (scell x).length = 3 := rfl
    rw [show (k + 1) * 3 = 3 + k * 3 by omega, List.take_succ_cons, scells, scells, List.take_append, hl, Nat.add_sub_cancel_left, scells_take t k, List.take_of_length_le (by rw [hl]; omega)]
theorem scells_drop : ∀ (l : List Spk) (k : Nat), (scells l).drop (k * 3) = scells (l.drop k)
  | [], k => by simp [scells]
  | x :: t, 0 => by simp [scells]
  | x :: t, k + 1 => by
    rw [show (k + 1) * 3 = 3 + k * 3 by omega, List.drop_succ_cons, scells, ← scells_drop t k, ← List.drop_drop]
    simp [scell]
theorem scells_get (l : List Spk) (i : Nat) (h : i < l.length) : (scells l)[i * 3]? = some (strV (l.getD i default).1) ∧ (scells l)[i * 3 + 1]? = some (.bool (l.getD i default).2.1) ∧ (scells l)[i * 3 + 2]? = some (.bool (l.getD i default).2.2) := by
  have hd := scells_drop l i
  rw [List.drop_eq_getElem_cons h] at hd
  have e : ∀ j, (scells l)[i * 3 + j]? = (scell l[i] ++ scells (l.drop (i + 1)))[j]? := by
    intro j
    rw [← List.getElem?_drop, hd]; rfl
  have g : l.getD i default = l[i] := by rw [List.getD_eq_getElem?_getD, List.getElem?_eq_getElem h]; rfl
  rw [g]
  refine ⟨by have := e 0; simpa [scell] using this, by have := e 1; simpa [scell] using this, by have := e 2; simpa [scell] using this⟩
structure Sp where
  hold : Nat
  opn : List Spk
  mark : Bool
  free : Nat
  tkn : List (List UInt8)
  brk : Bool
def spc (h : Nat) (vo : Value) (m : Bool) (f : Nat) (vt : Value) (b : Bool) : Array Value := #[.int .i64 h, vo, .bool m, .int .i64 f, vt, .bool b]
/-- A speaker in a world: its block, and the rows of its two lists; all of it lies in O. -/
def SpAt (w : World) (O : Nat → Prop) (b : Nat) (S : Sp) : Prop :=
  ∃ vo vt, w.heap[b]? = some (.cells (spc S.hold vo S.mark S.free vt S.brk) 88 (0, 0)) ∧ w.ownsRow 0 59 3 vo S.opn.length (scells S.opn) ∧ w.ownsRow 0 9 1 vt S.tkn.length (wcells S.tkn) ∧ O b ∧ (∀ k, vo.ownBlock = some k → O k) ∧ (∀ k, vt.ownBlock = some k → O k)
/-- Only what lies in O has turned. -/
structure Within (O : Nat → Prop) (w w' : World) : Prop where
  os : w'.os = w.os
  tape : w'.tape = w.tape
  output : w'.output = w.output
  size : w.heap.size ≤ w'.heap.size
  block : ∀ k, k < w.heap.size → ¬ O k → w'.heap[k]? = w.heap[k]?
/-- What was owned, and what was made meanwhile. -/
def grow (O : Nat → Prop) (w w' : World) : Nat → Prop := fun k => O k ∨ (w.heap.size ≤ k ∧ k < w'.heap.size)
theorem Within.refl (O : Nat → Prop) (w : World) : Within O w w := ⟨rfl, rfl, rfl, Nat.le_refl _, fun _ _ _ => rfl⟩
theorem Within.of_below {O : Nat → Prop} {w w' : World} (h : Below w.heap.size w w') : Within O w w' := ⟨h.os, h.tape, h.output, h.size, fun k hk _ => h.block k hk⟩
theorem Within.trans {O : Nat → Prop} {a b c : World} (h : Within O a b) (k : Within (grow O a b) b c) : Within O a c :=
  ⟨k.os.trans h.os, k.tape.trans h.tape, k.output.trans h.output, Nat.le_trans h.size k.size, fun j hj ho => (k.block j (Nat.lt_of_lt_of_le hj h.size) (by rintro (e | e); exact ho e; omega)).trans (h.block j hj ho)⟩
theorem Within.below {O : Nat → Prop} {B : Nat} {a w w' : World} (h : Below B a w) (k : Within O w w') (hz : B ≤ w.heap.size) (hO : ∀ k, O k → B ≤ k) : Below B a w' :=
  h.trans ⟨k.os, k.tape, k.output, k.size, fun j hj => k.block j (by omega) (fun e => by have := hO j e; omega)⟩
theorem grow_base {O : Nat → Prop} {B : Nat} {w w' : World} (hO : ∀ k, O k → B ≤ k) (hz : B ≤ w.heap.size) : ∀ k, grow O w w' k → B ≤ k := by
  rintro k (h | h)
  · exact hO k h
  · omega
theorem grow_grow {O : Nat → Prop} {a b c : World} (hab : a.heap.size ≤ b.heap.size) (hbc : b.heap.size ≤ c.heap.size) {k : Nat} (h : grow (grow O a b) b c k) : grow O a c k := by
  rcases h with (h | h) | h
  · exact Or.inl h
  · exact Or.inr ⟨h.1, by omega⟩
  · exact Or.inr ⟨by omega, h.2⟩
theorem SpAt.weaken {w : World} {O O' : Nat → Prop} {b : Nat} {S : Sp} (h : SpAt w O b S) (hO : ∀ k, O k → O' k) : SpAt w O' b S := by
  obtain ⟨vo, vt, h1, h2, h3, h4, h5, h6⟩ := h
  exact ⟨vo, vt, h1, h2, h3, hO _ h4, fun k hk => hO _ (h5 k hk), fun k hk => hO _ (h6 k hk)⟩
theorem SpAt.below {w w' : World} {O : Nat → Prop} {b : Nat} {S : Sp} (h : SpAt w O b S) (hb : Below w.heap.size w w') : SpAt w' O b S := by
  obtain ⟨vo, vt, h1, h2, h3, h4, h5, h6⟩ := h
  exact ⟨vo, vt, by rw [hb.block _ (heap_lt h1)]; exact h1, own_stays h2 hb, own_stays h3 hb, h4, h5, h6⟩
theorem SpAt.lt {w : World} {O : Nat → Prop} {b : Nat} {S : Sp} (h : SpAt w O b S) : b < w.heap.size := by
  obtain ⟨vo, vt, h1, _⟩ := h
  exact heap_lt h1
/-- A row that is read: a slice's elements, wherever it begins. -/
def RowR (w : World) (size : Nat) (v : Value) (n : Nat) (xs : List Value) : Prop :=
  xs.length = n * size ∧ ((v = .slice none 0 0 ∧ n = 0) ∨ ∃ g off cap, v = .slice (some ⟨g, off, none⟩) n cap ∧ g < w.heap.size ∧ n ≤ cap ∧ ∀ j u, xs[j]? = some u → w.cell? ⟨g, off + j, none⟩ = some u)
theorem RowR.of_own {w : World} {B : Nat} {e : TypeId} {size n : Nat} {v : Value} {xs : List Value} (h : w.ownsRow B e size v n xs) : RowR w size v n xs := by
  refine ⟨h.1, ?_⟩
  rcases h.2 with h2 | ⟨g, cap, cur, rfl, hb, hg, hc, hm, hs, hx⟩
  · exact Or.inl h2
  · refine Or.inr ⟨g, 0, cap, rfl, heap_lt hg, hc, fun j u hu => ?_⟩
    have h1 := h.cells (g := g) rfl j u hu
    have e : (⟨g, 0, none⟩ : Addr).add j = ⟨g, 0 + j, none⟩ := by unfold Addr.add; split <;> simp_all
    rwa [e] at h1
theorem RowR.below {w w' : World} {size n : Nat} {v : Value} {xs : List Value} (h : RowR w size v n xs) (hb : Below w.heap.size w w') : RowR w' size v n xs := by
  refine ⟨h.1, ?_⟩
  rcases h.2 with h2 | ⟨g, off, cap, rfl, hg, hc, hx⟩
  · exact Or.inl h2
  · exact Or.inr ⟨g, off, cap, rfl, by have := hb.size; omega, hc, fun j u hu => (hb.cell (p := ⟨g, off + j, none⟩) hg).trans (hx j u hu)⟩
theorem blk_facts {w : World} {b : Nat} {a0 a1 a2 a3 a4 a5 : Value} {E : TypeId} (h : w.heap[b]? = some (.cells #[a0, a1, a2, a3, a4, a5] E (0, 0))) :
    w.cell? ⟨b, 0, none⟩ = some a0 ∧ w.cell? ⟨b, 1, none⟩ = some a1 ∧ w.cell? ⟨b, 2, none⟩ = some a2 ∧ w.cell? ⟨b, 3, none⟩ = some a3 ∧ w.cell? ⟨b, 4, none⟩ = some a4 ∧ w.cell? ⟨b, 5, none⟩ = some a5 ∧ (∀ o, w.frozen? ⟨b, o, none⟩ = false) ∧ b < w.heap.size := by
  refine ⟨?_, ?_, ?_, ?_, ?_, ?_, fun o => ?_, heap_lt h⟩
  all_goals simp [World.cell?, World.frozen?, h]
theorem blk_set {w : World} {b o : Nat} {cs : Array Value} {E : TypeId} {u : Value} (h : w.heap[b]? = some (.cells cs E (0, 0))) : (w.setCell ⟨b, o, none⟩ u).heap[b]? = some (.cells (cs.setIfInBounds o u) E (0, 0)) :=
  heap_setCell_same w b o cs E u h
/-- A row lies in another block than a speaker's own. -/
theorem row_far {w : World} {b B size n o : Nat} {E E' : TypeId} {v u : Value} {cs : Array Value} {xs : List Value} (hE : E ≠ E') (h : w.heap[b]? = some (.cells cs E (0, 0))) (ho : w.ownsRow B E' size v n xs) : (w.setCell ⟨b, o, none⟩ u).ownsRow B E' size v n xs := by
  refine ⟨ho.1, ?_⟩
  rcases ho.2 with h2 | ⟨g, cap, cur, rfl, hb, hg, rest⟩
  · exact Or.inl h2
  · refine Or.inr ⟨g, cap, cur, rfl, hb, ?_, rest⟩
    rw [heap_setCell_other w ⟨b, o, none⟩ g u (by
      intro e
      subst e
      rw [hg] at h
      injection h with h
      injection h with _ h _
      exact hE h.symm)]
    exact hg
theorem Within.set {O : Nat → Prop} {a w : World} {b o : Nat} {u : Value} (h : Within O a w) (hb : O b) : Within O a (w.setCell ⟨b, o, none⟩ u) :=
  ⟨h.os, h.tape, h.output, by simpa using h.size, fun k hk hn => by
    rw [heap_setCell_other w ⟨b, o, none⟩ k u (fun e => hn (by rw [e]; exact hb))]
    exact h.block k hk hn⟩
end Go.Proofs.YtheemefggkcfbaaDoor
namespace Go.Proofs.YtheemefggkcfbaaDoor
open Go Go.Lib Go.RowKit Go.Shelf
abbrev ptr (b : Nat) : Value := .pointer (some ⟨b, 0, none⟩)
/-- What always holds of a speaker. -/
structure Sp.ok (S : Sp) : Prop where
  mark : S.mark = true → 0 < S.opn.length
  free : S.free ≤ S.opn.length
  tkn : S.tkn.length ≤ 8
  hold : S.hold ≤ 16
  len : S.opn.length ≤ 400
def Sp.count (S : Sp) : Nat := if S.mark = true then S.opn.length - 1 else S.opn.length
set_option maxHeartbeats 4000000 in
set_option maxRecDepth 100000 in
theorem counting_any (w : World) (O : Nat → Prop) (b : Nat) (S : Sp) (h : SpAt w O b S) (hS : S.ok) :
    Calls Tryd.prog 78 #[ptr b] w fun e w' => e = .returned (.int .i64 (S.count : Int)) ∧ w' = w := by
  obtain ⟨vo, vt, h1, h2, h3, h4, h5, h6⟩ := h
  obtain ⟨c0, c1, c2, c3, c4, c5, hf, hlt⟩ := blk_facts h1
  obtain ⟨a, cp, rfl⟩ := own_len h2
  have hz : Hid ((S.count : Int) = if S.mark = true then (S.opn.length : Int) - 1 else (S.opn.length : Int)) := Lib.hid (by
    unfold Sp.count
    by_cases hm : S.mark = true
    · rw [if_pos hm, if_pos hm]; have := hS.mark hm; omega
    · rw [if_neg hm, if_neg hm])
  have hlen := hS.len
  generalize S.count = N at *
  generalize S.mark = M at *
  cases M
  · go_enter Tryd.func78, Tryd.ntmps78
    go_wp2_with fail
    go_ret
    exact ⟨ret_int hz.out.symm, rfl⟩
  · go_enter Tryd.func78, Tryd.ntmps78
    go_wp2_with fail
    go_ret
    exact ⟨ret_int hz.out.symm, rfl⟩
set_option maxHeartbeats 4000000 in
set_option maxRecDepth 100000 in
theorem break_any (w : World) (O : Nat → Prop) (b : Nat) (S : Sp) (h : SpAt w O b S) :
    Calls Tryd.prog 52 #[ptr b] w fun e w' => e = .returned (.int .i64 0) ∧ SpAt w' O b { S with brk := true } ∧ Within O w w' ∧ w'.heap.size = w.heap.size := by
  obtain ⟨vo, vt, h1, h2, h3, h4, h5, h6⟩ := h
  obtain ⟨c0, c1, c2, c3, c4, c5, hf, hlt⟩ := blk_facts h1
  go_enter Tryd.func52, Tryd.ntmps52
  go_wp2_with fail
  go_ret
  exact ⟨rfl, ⟨vo, vt, blk_set h1, row_far (by decide) h1 h2, row_far (by decide) h1 h3, h4, h5, h6⟩, (Within.refl _ _).set h4, by simp⟩
set_option maxHeartbeats 4000000 in
set_option maxRecDepth 100000 in
theorem flush_any (w : World) (O : Nat → Prop) (b : Nat) (S : Sp) (h : SpAt w O b S) :
    Calls Tryd.prog 53 #[ptr b] w fun e w' => e = .returned (.int .i64 0) ∧ SpAt w' O b { S with free := S.opn.length } ∧ Within O w w' ∧ w'.heap.size = w.heap.size := by
  obtain ⟨vo, vt, h1, h2, h3, h4, h5, h6⟩ := h
  obtain ⟨c0, c1, c2, c3, c4, c5, hf, hlt⟩ := blk_facts h1
  obtain ⟨a, cp, rfl⟩ := own_len h2
  go_enter Tryd.func53, Tryd.ntmps53
  go_wp2_with fail
  go_ret
  exact ⟨rfl, ⟨_, vt, blk_set h1, row_far (by decide) h1 h2, row_far (by decide) h1 h3, h4, h5, h6⟩, (Within.refl _ _).set h4, by simp⟩
def Sp.new (h : Nat) : Sp := ⟨h, [], false, 0, [], false⟩
set_option maxHeartbeats 4000000 in
set_option maxRecDepth 100000 in
theorem new_any (w : World) (n : Nat) (hn : n ≤ 16) :
    Calls Tryd.prog 37 #[.int .i64 n] w fun e w' => ∃ b, e = .returned (.tuple #[ptr b, .int .i64 0]) ∧ SpAt w' (fun k => w.heap.size ≤ k ∧ k < w'.heap.size) b (Sp.new n) ∧ Below w.heap.size w w' := by
  have h1 : ¬ (n : Int) < 0 := by omega
  have h2 : ¬ (16 : Int) < n := by omega
  go_enter Tryd.func37, Tryd.ntmps37
  go_wp2_with fail
  go_ret2
  exact ⟨_, rfl, ⟨.slice none 0 0, .slice none 0 0, heap_alloc_new w _, World.ownsRow_nil _ _ _ _, World.ownsRow_nil _ _ _ _, ⟨Nat.le_refl _, by simp⟩, by rintro k ⟨⟩, by rintro k ⟨⟩⟩, below1 _ (Nat.le_refl _)⟩
theorem new_bad (w : World) (n : Int) (hn : n < 0 ∨ 16 < n) :
    Calls Tryd.prog 37 #[.int .i64 n] w fun e w' => e = .returned (.tuple #[.pointer none, .int .i64 2]) ∧ w' = w := by
  rcases Int.lt_or_le n 0 with h1 | h1
  · go_enter Tryd.func37, Tryd.ntmps37
    go_wp2_with fail
    go_ret2
    exact ⟨rfl, rfl⟩
  · have h2 : (16 : Int) < n := by omega
    have h3 : ¬ n < 0 := by omega
    go_enter Tryd.func37, Tryd.ntmps37
    go_wp2_with fail
    go_ret2
    exact ⟨rfl, rfl⟩
end Go.Proofs.YtheemefggkcfbaaDoor
namespace Go.Proofs.YtheemefggkcfbaaDoor
open Go Go.Lib Go.RowKit Go.Shelf
theorem info59 : (Tryd.prog.info? 59).map (fun i => (i.zero, i.size, i.bytes)) = some (some (.agg #[.string ⟨#[]⟩, .bool false, .bool false]), 3, 24) := by kernel_rfl
theorem add_addr (g off j : Nat) : (⟨g, off, none⟩ : Addr).add j = ⟨g, off + j, none⟩ := by unfold Addr.add; split <;> simp_all
theorem row_news {w : World} {g off : Nat} {xs : List Value} (o : Obj) (hg : g < w.heap.size) (h : ∀ j u, xs[j]? = some u → w.cell? ⟨g, off + j, none⟩ = some u) : ∀ j u, xs[j]? = some u → (w.alloc o).cell? ((⟨g, off, none⟩ : Addr).add j) = some u := by
  intro j u hu
  rw [add_addr, ((below1 (B := w.heap.size) o (Nat.le_refl _)).cell (p := ⟨g, off + j, none⟩) hg)]
  exact h j u hu
theorem one_scells : ∀ l : List Spk, ∀ u ∈ scells l, u.oneCell' = true
  | [], u, h => by simp [scells] at h
  | x :: t, u, h => by
    rw [scells, List.mem_append] at h
    rcases h with h | h
    · simp [scell, strV] at h
      rcases h with rfl | rfl | rfl <;> rfl
    · exact one_scells t u h
theorem one_wcells (l : List (List UInt8)) : ∀ u ∈ wcells l, u.oneCell' = true := by
  intro u h
  simp [wcells, strV] at h
  obtain ⟨x, _, rfl⟩ := h
  rfl
set_option maxHeartbeats 4000000 in
set_option maxRecDepth 100000 in
theorem clone59 (w : World) (v : Value) (n : Nat) (xs : List Value) (h : RowR w 3 v n xs) (h1 : ∀ u ∈ xs, u.oneCell' = true) (hn : n ≤ 100000) :
    Calls Tryd.prog 75 #[v] w (Made w.heap.size 59 3 n xs w) := by
  obtain ⟨i0, hi, iz0, iz1, iz2⟩ := info_parts info59
  have hq : ∀ (w : World) (a : Option Addr) (n c n' c' : Nat), (binOp .eql 51 (.slice a n c) (.slice none n' c')).run Tryd.prog w = .ok (.bool a.isNone) w := fun w a n c n' c' => Lib.run_eql_slice_nil w _ _ a n c n' c' Tryd.underlying51
  obtain ⟨hl, hr⟩ := h
  rcases hr with ⟨rfl, rfl⟩ | ⟨g, off, cap, rfl, hg, hc, hx⟩
  · obtain rfl : xs = [] := List.length_eq_zero_iff.1 (by omega)
    go_enter Tryd.func75, Tryd.ntmps75
    go_wp2_with fail
    go_ret
    exact ⟨_, rfl, World.ownsRow_nil _ _ _ _, Below.refl _ _⟩
  · have hown := World.ownsRow_lit (base := w.heap.size) (e := 59) (size := 3) w #[] 0 (Nat.le_refl _) (by unfold maxLen; omega) rfl
    go_enter Tryd.func75, Tryd.ntmps75
    go_wp2_with (at_builtin; refine wpList_append_own _ rfl _ _ 51 rfl w.heap.size 59 i0 _ 3 24 Tryd.underlying51 hi iz0 iz1 iz2 rfl (by decide) _ _ _ rfl hown ⟨g, off, none⟩ n cap xs rfl ?c0 ?c1 ?c2 ?c3 ?c4 ?c5 ?_)
    try (case c0 => exact hl)
    try (case c1 => exact hx)
    try (case c2 => exact h1)
    case c3 => unfold maxLen; omega
    case c4 => omega
    try (case c5 => simp)
    · intro v' w1 hown' hgrow _
      have hb := app_step hown (below1 (B := w.heap.size) _ (Nat.le_refl _)) (by simp) hgrow
      clear hown hgrow hi iz0 iz1 iz2
      go_wp2_with fail
      go_ret
      exact ⟨_, rfl, hown', hb⟩
set_option maxHeartbeats 4000000 in
set_option maxRecDepth 100000 in
theorem clone9 (w : World) (v : Value) (n : Nat) (xs : List Value) (h : RowR w 1 v n xs) (h1 : ∀ u ∈ xs, u.oneCell' = true) (hn : n ≤ 100000) :
    Calls Tryd.prog 77 #[v] w (Made w.heap.size 9 1 n xs w) := by
  obtain ⟨i0, hi, iz0, iz1, iz2⟩ := info_parts info9
  have hq : ∀ (w : World) (a : Option Addr) (n c n' c' : Nat), (binOp .eql 42 (.slice a n c) (.slice none n' c')).run Tryd.prog w = .ok (.bool a.isNone) w := fun w a n c n' c' => Lib.run_eql_slice_nil w _ _ a n c n' c' Tryd.underlying42
  obtain ⟨hl, hr⟩ := h
  rcases hr with ⟨rfl, rfl⟩ | ⟨g, off, cap, rfl, hg, hc, hx⟩
  · obtain rfl : xs = [] := List.length_eq_zero_iff.1 (by omega)
    go_enter Tryd.func77, Tryd.ntmps77
    go_wp2_with fail
    go_ret
    exact ⟨_, rfl, World.ownsRow_nil _ _ _ _, Below.refl _ _⟩
  · have hown := World.ownsRow_lit (base := w.heap.size) (e := 9) (size := 1) w #[] 0 (Nat.le_refl _) (by unfold maxLen; omega) rfl
    go_enter Tryd.func77, Tryd.ntmps77
    go_wp2_with (at_builtin; refine wpList_append_own _ rfl _ _ 42 rfl w.heap.size 9 i0 _ 1 16 Tryd.underlying42 hi iz0 iz1 iz2 rfl (by decide) _ _ _ rfl hown ⟨g, off, none⟩ n cap xs rfl ?c0 ?c1 ?c2 ?c3 ?c4 ?c5 ?_)
    try (case c0 => exact hl)
    try (case c1 => exact hx)
    try (case c2 => exact h1)
    case c3 => unfold maxLen; omega
    case c4 => omega
    try (case c5 => simp)
    · intro v' w1 hown' hgrow _
      have hb := app_step hown (below1 (B := w.heap.size) _ (Nat.le_refl _)) (by simp) hgrow
      clear hown hgrow hi iz0 iz1 iz2
      go_wp2_with fail
      go_ret
      exact ⟨_, rfl, hown', hb⟩
end Go.Proofs.YtheemefggkcfbaaDoor
namespace Go.Proofs.YtheemefggkcfbaaDoor
open Go Go.Lib Go.RowKit Go.Shelf
def spkV (x : Spk) : Value := .agg #[strV x.1, .bool x.2.1, .bool x.2.2]
def Sp.can (S : Sp) : Bool := !(S.opn.length == 0 || (decide (S.opn.length ≤ S.hold) && S.free == 0))
def Sp.peek (S : Sp) : Spk := if S.can = true then S.opn.getD 0 default else default
theorem can_none {S : Sp} (h : S.opn.length = 0) : S.can = false ∧ S.peek = default := by
  have e : S.can = false := by unfold Sp.can; simp [h]
  exact ⟨e, by unfold Sp.peek; rw [e]; rfl⟩
theorem can_over {S : Sp} (h2 : S.hold < S.opn.length) : S.can = true ∧ S.peek = S.opn.getD 0 default := by
  have e : S.can = true := by
    unfold Sp.can
    have : ¬ S.opn.length ≤ S.hold := by omega
    simp [this]
    intro e; rw [e] at h2; simp at h2
  exact ⟨e, by unfold Sp.peek; rw [e]; rfl⟩
theorem can_wait {S : Sp} (h2 : S.opn.length ≤ S.hold) (h3 : S.free = 0) : S.can = false ∧ S.peek = default := by
  have e : S.can = false := by unfold Sp.can; simp [h2, h3]
  exact ⟨e, by unfold Sp.peek; rw [e]; rfl⟩
theorem can_free {S : Sp} (h : S.opn.length ≠ 0) (h3 : S.free ≠ 0) : S.can = true ∧ S.peek = S.opn.getD 0 default := by
  have e : S.can = true := by
    unfold Sp.can
    have h' : S.opn ≠ [] := by intro e; rw [e] at h; simp at h
    simp [h3, h']
  exact ⟨e, by unfold Sp.peek; rw [e]; rfl⟩
theorem ret_spk {x y : Spk} {a b : Bool} (h : x = y) (h2 : a = b) : Ending.returned (.tuple #[spkV x, .bool a]) = .returned (.tuple #[spkV y, .bool b]) := by rw [h, h2]
set_option maxHeartbeats 4000000 in
set_option maxRecDepth 100000 in
theorem peek_any (w : World) (O : Nat → Prop) (b : Nat) (S : Sp) (h : SpAt w O b S) (hS : S.ok) :
    Calls Tryd.prog 51 #[ptr b] w fun e w' => e = .returned (.tuple #[spkV S.peek, .bool S.can]) ∧ Below w.heap.size w w' := by
  obtain ⟨vo, vt, h1, h2, h3, h4, h5, h6⟩ := h
  obtain ⟨c0, c1, c2, c3, c4, c5, hf, hlt⟩ := blk_facts h1
  have hlen := hS.len
  have hfree := hS.free
  have hhold := hS.hold
  have Hn := Lib.hid (@can_none S)
  have Ho := Lib.hid (@can_over S)
  have Hw := Lib.hid (@can_wait S)
  have Hf := Lib.hid (@can_free S)
  have hR := RowR.of_own h2
  have hg := fun h => scells_get S.opn 0 h
  generalize S.can = C at *
  generalize S.peek = X at *
  generalize S.opn.getD 0 default = Y at *
  clear h1 h3 h4 h5 h6 hS
  generalize hN : S.opn.length = N at *
  generalize S.hold = H at *
  generalize S.free = F at *
  obtain ⟨a, cp, rfl⟩ := own_len h2
  by_cases hN0 : N = 0
  · obtain ⟨rfl, rfl⟩ := Hn.out hN0
    subst hN0
    clear Hn Ho Hw Hf
    go_enter Tryd.func51, Tryd.ntmps51
    go_wp2_with fail
    go_quiet (fail)
    go_wp2_with fail
    go_returns
    exact ⟨rfl, (((below_dn (below1 _ (Nat.le_refl _)) _).setCell (Nat.le_refl _) _).setCell (Nat.le_refl _) _).setCell (Nat.le_refl _) _⟩

  have hNz : ((N : Int) == 0) = false := by simp; omega
  obtain ⟨g, rfl, hga, hy0, hy1, hy2⟩ : ∃ g, a = some ⟨g, 0, none⟩ ∧ g < w.heap.size ∧ w.cell? ⟨g, 0, none⟩ = some (.string (ba Y.1)) ∧ w.cell? ⟨g, 1, none⟩ = some (.bool Y.2.1) ∧ w.cell? ⟨g, 2, none⟩ = some (.bool Y.2.2) := by
    obtain ⟨hl, h' | ⟨g, off, cap, e, hgl, _, hx⟩⟩ := hR
    · exact absurd h'.2 hN0
    · obtain ⟨y0, y1, y2⟩ := hg (by omega)
      obtain ⟨g', cap', e', _, _⟩ := h2.form (by omega)
      rw [e] at e'
      injection e with e1 _ _
      injection e' with e1' _ _
      injection e1' with e1'
      injection e1' with e2 e3
      subst e2 e3
      have x0 := hx 0 _ y0
      have x1 := hx 1 _ y1
      have x2 := hx 2 _ y2
      exact ⟨g, e1, hgl, by simpa [strV_ba] using x0, by simpa using x1, by simpa using x2⟩
  clear hR hg h2
  by_cases hH : H < N
  · obtain ⟨rfl, rfl⟩ := Ho.out hH
    have hHz : ¬ (N : Int) ≤ (H : Int) := by omega
    have hHz2 : ¬ N ≤ H := by omega
    have hHz3 : (decide ((N : Int) ≤ (H : Int))) = false := by simp; omega
    clear Hn Ho Hw Hf
    go_enter Tryd.func51, Tryd.ntmps51
    go_wp2_with fail
    go_quiet (fail)
    go_wp2_with fail
    go_returns
    exact ⟨rfl, (((below_dn (below1 _ (Nat.le_refl _)) _).setCell (Nat.le_refl _) _).setCell (Nat.le_refl _) _).setCell (Nat.le_refl _) _⟩

  have hHz : (N : Int) ≤ (H : Int) := by omega
  by_cases hF : F = 0
  · obtain ⟨rfl, rfl⟩ := Hw.out (by omega) hF
    subst hF
    clear Hn Ho Hw Hf
    go_enter Tryd.func51, Tryd.ntmps51
    go_wp2_with fail
    go_quiet (fail)
    go_wp2_with fail
    go_returns
    exact ⟨rfl, (((below_dn (below1 _ (Nat.le_refl _)) _).setCell (Nat.le_refl _) _).setCell (Nat.le_refl _) _).setCell (Nat.le_refl _) _⟩

  · obtain ⟨rfl, rfl⟩ := Hf.out hN0 hF
    have hFz : ((F : Int) == 0) = false := by simp; omega
    clear Hn Ho Hw Hf
    go_enter Tryd.func51, Tryd.ntmps51
    go_wp2_with fail
    go_quiet (fail)
    go_wp2_with fail
    go_returns
    exact ⟨rfl, (((below_dn (below1 _ (Nat.le_refl _)) _).setCell (Nat.le_refl _) _).setCell (Nat.le_refl _) _).setCell (Nat.le_refl _) _⟩

end Go.Proofs.YtheemefggkcfbaaDoor
namespace Go.Proofs.YtheemefggkcfbaaDoor
open Go Go.Lib Go.RowKit Go.Shelf
theorem blk_stay {w w' : World} {b : Nat} {o : Obj} (h : w.heap[b]? = some o) (hb : Below w.heap.size w w') : w'.heap[b]? = some o := by
  rw [hb.block _ (heap_lt h)]; exact h
set_option maxHeartbeats 4000000 in
set_option maxRecDepth 100000 in
theorem open_any (w : World) (O : Nat → Prop) (b : Nat) (S : Sp) (h : SpAt w O b S) (hS : S.ok) :
    Calls Tryd.prog 39 #[ptr b] w (Made w.heap.size 59 3 S.opn.length (scells S.opn) w) := by
  obtain ⟨vo, vt, h1, h2, h3, h4, h5, h6⟩ := h
  obtain ⟨c0, c1, c2, c3, c4, c5, hf, hlt⟩ := blk_facts h1
  have c := clone59 w vo _ _ (RowR.of_own h2) (one_scells _) (by have := hS.len; omega)
  clear h1 h2 h3 h4 h5 h6
  go_enter Tryd.func39, Tryd.ntmps39
  go_wp2_with fail
  refine c.mono ?_
  rintro e w1 ⟨v, rfl, ho, hb⟩
  go_wp2_with fail
  go_ret
  exact ⟨_, rfl, ho, hb⟩
/-- The words that count. -/
def Sp.from (S : Sp) (i : Nat) : List (List UInt8) := (S.opn.drop (if i = 0 ∧ S.mark = true then 1 else i)).map (·.1)
def Sp.all (S : Sp) : List (List UInt8) := S.tkn ++ S.from 0
def last8 (l : List (List UInt8)) : List (List UInt8) := l.drop (l.length - 8)
def Sp.said (S : Sp) : List (List UInt8) := last8 S.all
theorem from_take {S : Sp} (i : Nat) (h : i < S.opn.length) (h2 : ¬ (i = 0 ∧ S.mark = true)) : S.from i = (S.opn.getD i default).1 :: S.from (i + 1) := by
  unfold Sp.from
  rw [if_neg h2, if_neg (by omega), List.drop_eq_getElem_cons h, List.getD_eq_getElem?_getD, List.getElem?_eq_getElem h]; rfl
theorem from_skip {S : Sp} (i : Nat) (h2 : i = 0 ∧ S.mark = true) : S.from i = S.from (i + 1) := by
  unfold Sp.from
  rw [if_pos h2, if_neg (by omega), h2.1]
theorem from_end {S : Sp} (i : Nat) (h : S.opn.length ≤ i) (h0 : S.mark = true → 0 < S.opn.length) : S.from i = [] := by
  unfold Sp.from
  split
  · have := h0 (by rename_i h; exact h.2); rename_i h2; omega
  · rw [List.drop_eq_nil_of_le h]; rfl
theorem wcells_len (l : List (List UInt8)) : (wcells l).length = l.length := by simp [wcells]
theorem wcells_app (a b : List (List UInt8)) : wcells (a ++ b) = wcells a ++ wcells b := by simp [wcells]
/-- The words from a place on. -/
theorem RowR.from {w : World} {n k off g cap : Nat} {l : List (List UInt8)} (h : RowR w 1 (.slice (some ⟨g, off, none⟩) n cap) n (wcells l)) (hk : k ≤ n) : RowR w 1 (.slice (some ⟨g, off + k, none⟩) (n - k) (cap - k)) (n - k) (wcells (l.drop k)) := by
  obtain ⟨hl, h' | ⟨g', off', cap', e, hg, hc, hx⟩⟩ := h
  · cases h'.1
  · injection e with e1 _ e3
    injection e1 with e1
    injection e1 with e1 e2
    subst e1 e2 e3
    rw [wcells_len] at hl
    refine ⟨by rw [wcells_len, List.length_drop]; omega, Or.inr ⟨g, off + k, cap - k, rfl, hg, by omega, fun j u hu => ?_⟩⟩
    rw [show wcells (l.drop k) = (wcells l).drop k by simp [wcells, List.map_drop], List.getElem?_drop] at hu
    rw [Nat.add_assoc]
    exact hx _ u hu
theorem last_row {w : World} {d : List (List UInt8)} {a : Option Addr} {c : Nat} (h : RowR w 1 (.slice a d.length c) d.length (wcells d)) :
    RowR w 1 (.slice (a.map (·.add (max ((d.length : Int) - 8) 0).toNat)) (d.length - (max ((d.length : Int) - 8) 0).toNat) (c - (max ((d.length : Int) - 8) 0).toNat)) (last8 d).length (wcells (last8 d)) := by
  have e : (max ((d.length : Int) - 8) 0).toNat = d.length - 8 := by omega
  rw [e]
  have e2 : (last8 d).length = d.length - (d.length - 8) := by unfold last8; rw [List.length_drop]
  rw [e2]
  obtain ⟨hl, h' | ⟨g, off, cap, e', hg, hc, hx⟩⟩ := h
  · injection h'.1 with e1 _ e3
    subst e1 e3
    have hd : d = [] := List.length_eq_zero_iff.1 h'.2
    subst hd
    exact ⟨rfl, Or.inl ⟨rfl, rfl⟩⟩
  · injection e' with e1 _ e3
    subst e1 e3
    have h2 : RowR w 1 (.slice (some ⟨g, off, none⟩) d.length c) d.length (wcells d) := ⟨hl, Or.inr ⟨g, off, c, rfl, hg, hc, hx⟩⟩
    have := h2.from (k := d.length - 8) (by omega)
    rw [Option.map_some, add_addr]
    exact this
theorem last_row2 {w : World} {d : List (List UInt8)} {a : Option Addr} (h : RowR w 1 (.slice a d.length (max ((d.length : Int) - 8) 0).toNat) d.length (wcells d)) :
    RowR w 1 (.slice a (d.length - (max ((d.length : Int) - 8) 0).toNat) 0) (last8 d).length (wcells (last8 d)) := by
  have e : (max ((d.length : Int) - 8) 0).toNat = d.length - 8 := by omega
  rw [e] at h ⊢
  have hd : d = [] := by
    obtain ⟨hl, h' | ⟨g, off, cap, e', hg, hc, hx⟩⟩ := h
    · exact List.length_eq_zero_iff.1 h'.2
    · injection e' with e1 _ e3
      exact List.length_eq_zero_iff.1 (by omega)
  subst hd
  exact h
set_option maxHeartbeats 4000000 in
set_option maxRecDepth 100000 in
theorem said_any (w : World) (O : Nat → Prop) (b : Nat) (S : Sp) (h : SpAt w O b S) (hS : S.ok) :
    Calls Tryd.prog 43 #[ptr b] w fun e w' => ∃ v, e = .returned v ∧ RowR w' 1 v S.said.length (wcells S.said) ∧ Below w.heap.size w w' := by
  obtain ⟨i0, hi, iz0, iz1, iz2⟩ := info_parts info9
  obtain ⟨vo, vt, h1, h2, h3, h4, h5, h6⟩ := h
  have c := clone9 w vt _ _ (RowR.of_own h3) (one_wcells _) (by have := hS.tkn; omega)
  obtain ⟨a, cp, rfl⟩ := own_len h2
  have hlen := hS.len
  have htk := hS.tkn
  have hmk := Lib.hid hS.mark
  have Ht := Lib.hid (@from_take S)
  have Hs := Lib.hid (@from_skip S)
  have He := Lib.hid (@from_end S)
  have HS : Hid (S.said = last8 (S.tkn ++ S.from 0)) := Lib.hid rfl
  have hget := Lib.hid (fun i h => scells_get S.opn i h)
  have HN : Hid (S.opn.length ≤ 400) := Lib.hid hlen
  go_enter Tryd.func43, Tryd.ntmps43
  obtain ⟨c0, c1, c2, c3, c4, c5, hf, hlt⟩ := blk_facts h1
  go_wp2_with fail
  refine c.mono ?_
  rintro e w1 ⟨v, rfl, ho, hb⟩
  clear c0 c1 c2 c3 c4 c5 hf hlt
  have h1' := blk_stay h1 hb
  obtain ⟨c0, c1, c2, c3, c4, c5, hf, hlt⟩ := blk_facts h1'
  go_wp2_with fail
  clear c0 c1 c2 c3 c4 c5 hf hlt h1' c
  go_loopw [3, 18] (fun v iv wx => ∃ (i : Nat) (d : List (List UInt8)), iv = .int .i64 i ∧ i ≤ S.opn.length ∧ d.length ≤ 8 + i ∧ wx.ownsRow w.heap.size 9 1 v d.length (wcells d) ∧ Below w.heap.size w wx ∧ Hid (d ++ S.from i = S.tkn ++ S.from 0)) (fun _ v _ => S.opn.length - (intOf v).toNat)
  case atStart => exact ⟨0, S.tkn, rfl, Nat.zero_le _, by omega, ho, hb, Lib.hid rfl⟩
  case round =>
    clear hb ho
    obtain ⟨i, d, rfl, hil, hd, ho, hb, HD⟩ := hrel
    have hsz := hb.size
    have h1' := blk_stay h1 hb
    have h2' := own_stays h2 hb
    obtain ⟨c0, c1, c2, c3, c4, c5, hf, hlt⟩ := blk_facts h1'
    by_cases hlt' : i < S.opn.length
    · have hz : (i : Int) < (S.opn.length : Int) := by omega
      obtain ⟨y0, y1, y2⟩ := hget.out i hlt'
      obtain ⟨g, cap, e, _, hgl⟩ := h2'.form (by omega)
      obtain ⟨rfl, rfl⟩ : a = some ⟨g, 0, none⟩ ∧ cp = cap := by injection e with e1 _ e3; exact ⟨e1, e3⟩
      have hnl : (scells S.opn).length = S.opn.length * 3 := scells_len _
      have x0 := (h2'.cellAt (i * 3) (by omega)).trans y0
      have x1 := (h2'.cellAt (i * 3 + 1) (by omega)).trans y1
      have x2 := (h2'.cellAt (i * 3 + 2) (by omega)).trans y2
      rw [strV_ba] at x0
      have Ht2 := Lib.hid (Ht.out i hlt')
      clear y0 y1 y2 e h1'
      generalize S.opn.getD i default = Y at *
      by_cases hi0 : i = 0
      · subst hi0
        cases hm : S.mark
        · rw [hm] at c2
          have HD2 := Lib.hid (HD.out.symm.trans (by rw [Ht2.out (by rw [hm]; simp)]))
          clear Ht Hs He Ht2 hget hm
          go_wp2_with (at_builtin; refine wpList_append_own _ rfl _ _ 42 rfl w.heap.size 9 i0 _ 1 16 Tryd.underlying42 hi iz0 iz1 iz2 rfl (by decide) _ _ _ rfl ((ho.alloc _).alloc _) ⟨wr.heap.size + 1, 0, none⟩ 1 1 [.string (ba Y.1)] rfl rfl ?c1 ?c2 ?c3 ?c4 ?c5 ?_)
          case c1 => exact cells_new _ _ _ (by simp)
          case c2 => simp [Value.oneCell']
          case c3 => unfold maxLen; omega
          case c4 => omega
          case c5 => simp; omega
          · intro v' w1 hown' hgrow _
            have R := wd_step (x := Y.1) ((ho.alloc _).alloc _) ((hb.alloc hsz _).alloc (by simp; omega) _) (by simp; omega) hown' hgrow
            clear hown' hgrow ho hb
            go_wp2_with fail
            go_roundw
            case rel => exact ⟨0 + 1, d ++ [Y.1], by go_num, by omega, by simp; omega, R.1, R.2, Lib.hid (by rw [List.append_assoc]; exact HD2.out.symm)⟩
            case measure => simp [intOf]; omega
        · rw [hm] at c2
          have HD2 := Lib.hid (HD.out.symm.trans (by rw [Hs.out 0 ⟨rfl, hm⟩]))
          clear Ht Hs He Ht2 hget hm
          go_wp2_with fail
          go_roundw
          case rel => exact ⟨0 + 1, d, by go_num, by omega, by omega, ho.alloc _, hb.alloc hsz _, Lib.hid HD2.out.symm⟩
          case measure => simp [intOf]; omega
      · have hiz : (0 : Int) < (i : Int) := by omega
        have HD2 := Lib.hid (HD.out.symm.trans (by rw [Ht2.out (by rintro ⟨e, _⟩; exact hi0 e)]))
        clear Ht Hs He Ht2 hget
        go_wp2_with (at_builtin; refine wpList_append_own _ rfl _ _ 42 rfl w.heap.size 9 i0 _ 1 16 Tryd.underlying42 hi iz0 iz1 iz2 rfl (by decide) _ _ _ rfl ((ho.alloc _).alloc _) ⟨wr.heap.size + 1, 0, none⟩ 1 1 [.string (ba Y.1)] rfl rfl ?c1 ?c2 ?c3 ?c4 ?c5 ?_)
        case c1 => exact cells_new _ _ _ (by simp)
        case c2 => simp [Value.oneCell']
        case c3 => unfold maxLen; omega
        case c4 => omega
        case c5 => simp; omega
        · intro v' w1 hown' hgrow _
          have R := wd_step (x := Y.1) ((ho.alloc _).alloc _) ((hb.alloc hsz _).alloc (by simp; omega) _) (by simp; omega) hown' hgrow
          clear hown' hgrow ho hb
          go_wp2_with fail
          go_roundw
          case rel => exact ⟨i + 1, d ++ [Y.1], by go_num, by omega, by simp; omega, R.1, R.2, Lib.hid (by rw [List.append_assoc]; exact HD2.out.symm)⟩
          case measure => simp [intOf]; omega
    · obtain rfl : i = S.opn.length := by omega
      have HD2 := Lib.hid (HD.out.symm.trans (by rw [He.out _ (Nat.le_refl _) hmk.out, List.append_nil]))
      have hz : ¬ (S.opn.length : Int) < (S.opn.length : Int) := by omega
      clear Ht Hs He hget
      rw [HD2.out] at HS
      clear HD2 HD
      obtain ⟨a', cp', rfl⟩ := own_len ho
      go_wp2_with fail
      · go_ret
        have hcp : cp' = (max ((d.length : Int) - 8) 0).toNat := by first | assumption | omega
        subst hcp
        exact ⟨_, rfl, by rw [HS.out]; exact last_row2 (RowR.of_own ho), hb⟩
      · go_ret
        exact ⟨_, rfl, by rw [HS.out]; exact last_row (RowR.of_own ho), hb⟩
end Go.Proofs.YtheemefggkcfbaaDoor
namespace Go.Proofs.YtheemefggkcfbaaDoor
open Go
/-! ### a drawn region whose last operations wait for all others: what is held of the world need not hold behind those last ones -/
section
variable {P : Program} {ops : Array Oper} {Q : Exit → Act → World → Prop} {md : Region.Mode} {S : World → Prop} {m : Nat}
/-- Whatever order comes: behind each operation whose number is below m the world meets S. -/
def wpAnyT (P : Program) (md : Region.Mode) (ops : Array Oper) (Q : Exit → Act → World → Prop) (S : World → Prop) (m : Nat) : Nat → Array Bool → Act → World → Prop
  | 0, listed, a, w => Region.ready md ops listed = [] ∧ Q .normal a w
  | fuel + 1, listed, a, w => (Region.ready md ops listed = [] → Q .normal a w) ∧
    ∀ i ∈ Region.ready md ops listed, wpOp P ops Q i (fun a' w' => (i < m → S w') ∧ wpAnyT P md ops Q S m fuel (listed.setIfInBounds i true) a' w') a w
theorem wpAny_of_tail : ∀ (fuel : Nat) (listed : Array Bool) (a : Act) (w : World), wpAnyT P md ops Q S m fuel listed a w → wpAny P md ops Q fuel listed a w
  | 0, _, _, _, h => h
  | fuel + 1, _, _, _, h => ⟨h.1, fun i hi => wpOp_mono (fun a' w' h' => wpAny_of_tail fuel _ a' w' h'.2) (h.2 i hi)⟩
/-- Every operation from m on waits for number i. -/
def tailWaits (md : Region.Mode) (ops : Array Oper) (m i : Nat) : Bool :=
  (List.range ops.size).all fun j => decide (j < m) || ((ops[j]?).map fun o => o.after.any fun e => Region.binds md e && e.on == i).getD false
theorem tailWaits_spec {i j : Nat} {listed : Array Bool} (h : tailWaits md ops m i = true) (hi : listed.getD i true = false) (hj : j ∈ Region.ready md ops listed) : j < m := by
  obtain ⟨_, o, ho, hall⟩ := mem_ready.1 hj
  have h1 := List.all_eq_true.1 h j (List.mem_range.2 (Array.getElem?_eq_some_iff.1 ho).1)
  simp only [Bool.or_eq_true, decide_eq_true_eq, ho, Option.map_some, Option.getD_some] at h1
  rcases h1 with h1 | h1
  · exact h1
  · exfalso
    obtain ⟨e, he, hb⟩ := Array.any_eq_true'.1 h1
    simp only [Bool.and_eq_true, beq_iff_eq] at hb
    have h2 := hall e he hb.1
    rw [hb.2] at h2
    rcases Nat.lt_or_ge i listed.size with h' | h'
    · simp [h'] at hi h2; rw [hi] at h2; cases h2
    · simp [Array.getElem?_eq_none h'] at h2
theorem wpAnyT_first {i : Nat} {oi : Oper} {v : Value} (hi : ops[i]? = some oi) (hsel : ∀ (j : Nat) (o : Oper) cs b, ops[j]? = some o → o.op ≠ .select cs b)
    (hQ : ∀ c a w, Q (.panic c) (a.put oi.dst v) w → Q (.panic c) a w) (hT : tailWaits md ops m i = true) :
    ∀ (fuel : Nat) (listed : Array Bool) (a : Act) (w : World),
      (∀ j oj, ops[j]? = some oj → j ≠ i → listed.getD j true = false → (∀ e ∈ oj.after, Region.binds md e = true → e.on ≠ i) → oi.apart ops oj = true) →
      i ∈ Region.ready md ops listed → YieldsIf P ops S oi v a → S w →
      wpAnyT P md ops Q S m fuel (listed.setIfInBounds i true) (a.put oi.dst v) w → wpAnyT P md ops Q S m (fuel + 1) listed a w := by
  intro fuel
  induction fuel with
  | zero =>
    intro listed a w _ hr hy hS H
    refine ⟨fun h => (by rw [h] at hr; cases hr), fun j hj => ?_⟩
    rcases Decidable.em (j = i) with e | e
    · subst e; exact hy.wpOp hi hS ⟨fun _ => hS, H⟩
    · have h0 := ready_mono hj e
      rw [H.1] at h0
      cases h0
  | succ fuel ih =>
    intro listed a w hfree hr hy hS H
    refine ⟨fun h => (by rw [h] at hr; cases hr), fun j hj => ?_⟩
    rcases Decidable.em (j = i) with e | e
    · subst e; exact hy.wpOp hi hS ⟨fun _ => hS, H⟩
    · obtain ⟨hjun, oj, hoj, hall⟩ := mem_ready.1 hj
      have hiun := (mem_ready.1 hr).1
      have hjm : j < m := tailWaits_spec hT hiun hj
      have hnot : ∀ e ∈ oj.after, Region.binds md e = true → e.on ≠ i := fun e he hb heq => by
        have h1 := hall e he hb
        rw [heq] at h1
        rcases Nat.lt_or_ge i listed.size with h' | h'
        · simp [h'] at hiun h1; rw [hiun] at h1; cases h1
        · simp [Array.getElem?_eq_none h'] at h1
      have h2 := wpOp_putIf hoj (hfree j oj hoj e hjun hnot) (fun cs b => hsel i oi cs b hi) (fun cs b => hsel j oj cs b hoj) hQ hy (H.2 j (ready_mono hj e))
      refine wpOp_mono (fun a' w' h3 => ⟨h3.2.1, ih (listed.setIfInBounds j true) a' w' (fun k ok hk hki hun hno => hfree k ok hk hki ?_ hno) (ready_mono hr (Ne.symm e)) h3.1 (h3.2.1 hjm) ?_⟩) h2
      · rcases Decidable.em (j = k) with e' | e'
        · subst e'; exact hjun
        · rw [getD_set_ne true e'] at hun; exact hun
      · rw [Array.setIfInBounds_comm _ _ e]
        exact h3.2.2
theorem wpAnyT_take {i : Nat} {oi : Oper} {v : Value} {fuel : Nat} {listed : Array Bool} {a : Act} {w : World} (hi : ops[i]? = some oi)
    (hs : Region.noSelect ops = true) (hf : Region.free md ops listed i = true) (hr : (Region.ready md ops listed).contains i = true) (hT : tailWaits md ops m i = true)
    (hQ : ∀ c a w, Q (.panic c) (a.put oi.dst v) w → Q (.panic c) a w) (hy : YieldsIf P ops S oi v a) (hS : S w)
    (h : wpAnyT P md ops Q S m fuel (listed.setIfInBounds i true) (a.put oi.dst v) w) : wpAnyT P md ops Q S m (fuel + 1) listed a w :=
  wpAnyT_first hi (Region.noSelect_spec hs) hQ hT fuel listed a w (Region.free_spec hi hf) (by simpa using hr) hy hS h
/-- One alone may come up: behind it the world meets S again. -/
theorem wpAnyT_one {i : Nat} {o : Oper} {fuel : Nat} {listed : Array Bool} {a : Act} {w : World} (hr : Region.ready md ops listed = [i]) (ho : ops[i]? = some o)
    (h : ∀ K' : Act → World → Prop, Shut (∀ a w, S w → (S w → wpAnyT P md ops Q S m fuel (listed.setIfInBounds i true) a w) → K' a w) → if Region.wanted o (yielded ops a.tmps) = true then Oper.wp P o a w K' Q else K' (a.put o.dst undef) w) :
    wpAnyT P md ops Q S m (fuel + 1) listed a w := by
  refine ⟨fun h0 => (by rw [h0] at hr; cases hr), fun j hj => ?_⟩
  rw [hr, List.mem_singleton] at hj
  subst hj
  exact wpOp_step ho (fun K' hK => h K' (fun a w hS hW => hK a w ⟨fun _ => hS, hW hS⟩))
/-- One alone may come up, one of the last: nothing is held behind it. -/
theorem wpAnyT_last {i : Nat} {o : Oper} {fuel : Nat} {listed : Array Bool} {a : Act} {w : World} (hr : Region.ready md ops listed = [i]) (ho : ops[i]? = some o) (hm : m ≤ i)
    (h : ∀ K' : Act → World → Prop, Shut (∀ a w, wpAnyT P md ops Q S m fuel (listed.setIfInBounds i true) a w → K' a w) → if Region.wanted o (yielded ops a.tmps) = true then Oper.wp P o a w K' Q else K' (a.put o.dst undef) w) :
    wpAnyT P md ops Q S m (fuel + 1) listed a w := by
  refine ⟨fun h0 => (by rw [h0] at hr; cases hr), fun j hj => ?_⟩
  rw [hr, List.mem_singleton] at hj
  subst hj
  exact wpOp_step ho (fun K' hK => h K' (fun a w hW => hK a w ⟨fun h => absurd h (by omega), hW⟩))
theorem wpAnyT_done {listed : Array Bool} {a : Act} {w : World} (hr : Region.ready md ops listed = []) (h : Q .normal a w) : ∀ fuel, wpAnyT P md ops Q S m fuel listed a w
  | 0 => ⟨hr, h⟩
  | _ + 1 => ⟨fun _ => h, by rw [hr]; simp⟩
theorem wp_region_tail (m : Nat) {id : Nat} {a : Act} {w : World} (hm : P.follows .mixedOrders = true) (hS : S w.drew)
    (h : S w.drew → wpAnyT P .any ops Q S m ops.size (Array.replicate ops.size false) a w.drew) : (Code.region id ops true).wp P Q a w :=
  wp_region_any hm (wpAny_of_tail _ _ _ _ (h hS))
end
end Go.Proofs.YtheemefggkcfbaaDoor
namespace Go.Proofs.YtheemefggkcfbaaDoor
open Go Go.Lib Go.RowKit Go.Shelf
/-- New words: the first may begin a row. -/
def newGo (bk fx : Bool) : Nat → List (List UInt8) → List Spk
  | _, [] => []
  | k, x :: t => (x, (k == 0) && bk, fx) :: newGo bk fx (k + 1) t
def newW (bk fx : Bool) (L : List (List UInt8)) : List Spk := newGo bk fx 0 L
theorem newGo_drop (bk fx : Bool) (L : List (List UInt8)) (i : Nat) (h : i < L.length) : newGo bk fx i (L.drop i) = (L.getD i [], (i == 0) && bk, fx) :: newGo bk fx (i + 1) (L.drop (i + 1)) := by
  rw [List.drop_eq_getElem_cons h, List.getD_eq_getElem?_getD, List.getElem?_eq_getElem h]; rfl
theorem newGo_end (bk fx : Bool) (L : List (List UInt8)) (k : Nat) : newGo bk fx k (L.drop L.length) = [] := by rw [List.drop_length]; rfl
theorem newGo_len (bk fx : Bool) : ∀ (L : List (List UInt8)) (k : Nat), (newGo bk fx k L).length = L.length
  | [], k => rfl
  | x :: t, k => by simp [newGo, newGo_len bk fx t]
def Sp.say (S : Sp) (l : List UInt8) : Sp × Int :=
  if spkE l ≠ 0 then (S, spkE l) else if 400 < S.opn.length + (spkL l).length then (S, 9) else ({ S with opn := S.opn ++ newW S.brk false (spkL l), brk := false }, 0)
theorem say_bad {S : Sp} {l : List UInt8} (h : spkE l ≠ 0) : S.say l = (S, spkE l) := by unfold Sp.say; rw [if_pos h]
theorem say_full {S : Sp} {l : List UInt8} (h : spkE l = 0) (h2 : 400 < S.opn.length + (spkL l).length) : S.say l = (S, 9) := by unfold Sp.say; rw [if_neg (by simpa using h), if_pos h2]
theorem say_good {S : Sp} {l : List UInt8} (h : spkE l = 0) (h2 : ¬ 400 < S.opn.length + (spkL l).length) : S.say l = ({ S with opn := S.opn ++ newW S.brk false (spkL l), brk := false }, 0) := by unfold Sp.say; rw [if_neg (by simpa using h), if_neg h2]
/-- Behind an append to the open words. -/
theorem app59 {w wr W1 w1 : World} {O : Nat → Prop} {b g n m cap : Nat} {cs : Array Value} {vo : Value} {xs ys : List Value} (hW : Within O w wr) (h1 : wr.heap[b]? = some (.cells cs 88 (0, 0))) (how : wr.ownsRow 0 59 3 vo n xs)
    (hvo : ∀ k, vo.ownBlock = some k → grow O w wr k) (hW1 : Below wr.heap.size wr W1) (hgrow : W1.grownBy w1 vo.ownBlock) (hat : vo.ownBlock = some g ∨ g = W1.heap.size) (hlt : g < w1.heap.size) (_hown1 : w1.ownsRow 0 59 3 (.slice (some ⟨g, 0, none⟩) m cap) m ys) :
    w1.heap[b]? = some (.cells cs 88 (0, 0)) ∧ Within O w w1 ∧ grow O w w1 g := by
  have hne : some b ≠ vo.ownBlock := by
    intro e
    rcases how.2 with h | ⟨g', cap', cur, rfl, _, hg, _⟩
    · rw [h.1] at e; cases e
    · injection e with e
      subst e
      rw [hg] at h1
      injection h1 with h1
      injection h1 with _ h1 _
      cases h1
  have hz1 := hW1.size
  have hz2 := hgrow.size
  have hz0 := hW.size
  refine ⟨by rw [hgrow.block b (by have := heap_lt h1; omega) hne]; exact blk_stay h1 hW1, ⟨by rw [hgrow.os, hW1.os, hW.os], by rw [hgrow.tape, hW1.tape, hW.tape], by rw [hgrow.output, hW1.output, hW.output], by omega, fun k hk hn => ?_⟩, ?_⟩
  · rw [hgrow.block k (by omega) (by
      intro e
      rcases hvo k e.symm with h | h
      · exact hn h
      · omega), hW1.block k (by omega), hW.block k hk hn]
  · rcases hat with h | h
    · rcases hvo g h with h | h
      · exact Or.inl h
      · exact Or.inr ⟨h.1, hlt⟩
    · exact Or.inr ⟨by omega, hlt⟩
theorem keep59 {wr W1 w1 : World} {B E s n m : Nat} {vo u : Value} {xs ys : List Value} (hE : E ≠ 59) (hrow : wr.ownsRow B E s u m ys) (how : wr.ownsRow 0 59 3 vo n xs) (hW1 : Below wr.heap.size wr W1) (hgrow : W1.grownBy w1 vo.ownBlock) : w1.ownsRow B E s u m ys :=
  (own_stays hrow hW1).kept hgrow (rows_apart (fun e => hE e.symm) (own_stays how hW1) (own_stays hrow hW1))
theorem blk_ne {w : World} {b E' s n : Nat} {E : TypeId} {cs : Array Value} {v : Value} {xs : List Value} (hE : E ≠ E') (h : w.heap[b]? = some (.cells cs E (0, 0))) (ho : w.ownsRow 0 E' s v n xs) : v.ownBlock ≠ some b := by
  intro e
  rcases ho.2 with h2 | ⟨g', cap', cur, rfl, _, hg, _⟩
  · rw [h2.1] at e; cases e
  · injection e with e
    subst e
    rw [hg] at h
    injection h with h
    injection h with _ h _
    exact hE h.symm
theorem open_step {d d' : List Spk} {x : Spk} {n : Nat} {w : World} {v : Value} (h : w.ownsRow 0 59 3 v (n + 1) (scells d ++ scell x)) (hn : n = d.length) (he : d' = d ++ [x]) : w.ownsRow 0 59 3 v d'.length (scells d') := by
  subst hn he
  rw [List.length_append, scells_app]
  simpa [scells] using h
set_option maxHeartbeats 8000000 in
set_option maxRecDepth 100000 in
theorem say_any (w : World) (O : Nat → Prop) (b : Nat) (S : Sp) (t : ByteArray) (h : SpAt w O b S) (hS : S.ok) (ht : t.size ≤ 65536) (hE : Env w) :
    Calls Tryd.prog 38 #[ptr b, .string t] w fun e w' => e = .returned (.int .i64 (S.say t.data.toList).2) ∧ SpAt w' (grow O w w') b (S.say t.data.toList).1 ∧ Within O w w' := by
  obtain ⟨i0, hi, iz0, iz1, iz2⟩ := info_parts info59
  have c := spk_any t w ht hE
  have Hbad := Lib.hid (@say_bad S t.data.toList)
  have Hfull := Lib.hid (@say_full S t.data.toList)
  have Hgood := Lib.hid (@say_good S t.data.toList)
  have hLl : (spkL t.data.toList).length ≤ t.size + 1 := by
    unfold spkL
    split
    · have h := spW_len t.data.toList
      rw [← size_eq] at h; exact h
    · simp
  generalize S.say t.data.toList = R at *
  generalize spkE t.data.toList = E at *
  generalize spkL t.data.toList = L at *
  have hh := h
  obtain ⟨vo, vt, h1, h2, h3, h4, h5, h6⟩ := h
  have hlen := hS.len
  go_enter Tryd.func38, Tryd.ntmps38
  go_wp2_with fail
  refine c.mono ?_
  rintro e w1 ⟨v, rfl, ho, hb⟩
  obtain ⟨a, cp, rfl⟩ := own_len ho
  by_cases hE0 : E = 0
  · subst hE0
    have h1' := blk_stay h1 hb
    have h2' := own_stays h2 hb
    have h3' := own_stays h3 hb
    obtain ⟨c0, c1, c2, c3, c4, c5, hf, hlt⟩ := blk_facts h1'
    obtain ⟨ao, co, rfl⟩ := own_len h2'
    by_cases hfull : 400 < S.opn.length + L.length
    · have HR := Lib.hid (Hfull.out rfl hfull)
      have hz : (400 : Int) < (S.opn.length : Int) + (L.length : Int) := by omega
      go_wp2_with fail
      go_ret
      rw [HR.out]
      exact ⟨rfl, (hh.below hb).weaken (fun k hk => Or.inl hk), Within.of_below hb⟩
    have hz : ¬ (400 : Int) < (S.opn.length : Int) + (L.length : Int) := by omega
    have HR := Lib.hid (Hgood.out rfl hfull)
    clear Hbad Hfull Hgood
    go_wp2_with fail
    have HT : Hid (R.1.opn = S.opn ++ newGo S.brk false 0 L ∧ R.1 = { S with opn := R.1.opn, brk := false } ∧ R.2 = 0) := Lib.hid (by rw [HR.out]; exact ⟨rfl, rfl, rfl⟩)
    have hsz := hb.size
    clear c0 c1 c2 c3 c4 c5 hf hlt HR
    go_loopw [30] (fun iv wx => ∃ (i : Nat) (d : List Spk) (u : Value), iv = .int .i64 i ∧ i ≤ L.length ∧ d.length ≤ S.opn.length + i ∧ wx.heap[b]? = some (.cells (spc S.hold u S.mark S.free vt S.brk) 88 (0, 0)) ∧ wx.ownsRow 0 59 3 u d.length (scells d) ∧ wx.ownsRow 0 9 1 vt S.tkn.length (wcells S.tkn) ∧ (∀ k, u.ownBlock = some k → grow O w wx k) ∧ Within O w wx ∧ wx.ownsRow w.heap.size 9 1 (.slice a L.length cp) L.length (wcells L) ∧ Hid (d ++ newGo S.brk false i (L.drop i) = R.1.opn)) (fun v _ => L.length - (intOf v).toNat)
    case atStart => exact ⟨0, S.opn, _, rfl, Nat.zero_le _, by omega, h1', h2', h3', fun k hk => Or.inl (h5 k hk), Within.of_below hb, ho, Lib.hid (by rw [List.drop_zero]; exact HT.out.1.symm)⟩
    case round =>
      clear h1' h2' h3' ho hb h1 h2 h3 h5 hh c
      obtain ⟨i, d, u, rfl, hil, hd, h1, h2, h3, h5, hW, ho, HD⟩ := hrel
      have hsz := hW.size
      obtain ⟨c0, c1, c2, c3, c4, c5, hf, hlt⟩ := blk_facts h1
      by_cases hlt' : i < L.length
      · have hz : (i : Int) < (L.length : Int) := by omega
        obtain ⟨g, rfl, hg, hc⟩ := own_at ho i hlt'
        rw [strV_ba] at hc
        have HD2 := Lib.hid (HD.out.symm.trans (by rw [newGo_drop S.brk false L i hlt']))
        have hne := blk_ne (by decide) h1 h2
        have hne0 : some b ≠ u.ownBlock := fun e => hne e.symm
        have hf1 := hf 1
        have HK : Hid (∀ o : Obj, (wr.alloc o).drew.cell? ⟨b, 1, none⟩ = some u ∧ (wr.alloc o).drew.cell? ⟨b, 5, none⟩ = some (.bool S.brk) ∧ (wr.alloc o).drew.frozen? ⟨b, 1, none⟩ = false) := Lib.hid (fun o => by
          have hbb : Below wr.heap.size wr (wr.alloc o).drew := (below1 o (Nat.le_refl _)).drew
          exact ⟨(hbb.cell (p := ⟨b, 1, none⟩) hlt).trans c1, (hbb.cell (p := ⟨b, 5, none⟩) hlt).trans c5, (hbb.frozen (p := ⟨b, 1, none⟩) hlt).trans hf1⟩)
        generalize hY : L.getD i [] = Y at *
        clear hY
        by_cases hi0 : i = 0
        · subst hi0
          have hiz : ((0 : Int) == 0) = true := rfl
          go_wp2_with fail
          obtain ⟨hk1, hk2, hk3⟩ := HK.out (.cells #[.string (ba Y), .bool S.brk, .bool false] 59)
          refine wp_region_tail 17 (S := (fun w' => w'.cell? ⟨b, 1, none⟩ = some u ∧ w'.cell? ⟨b, 5, none⟩ = some (.bool S.brk) ∧ w'.frozen? ⟨b, 1, none⟩ = false)) (by kernel_rfl) ⟨c1, c5, hf1⟩ (fun hHeld => ?_)
          simp only [List.size_toArray, List.length_cons, List.length_nil, Nat.zero_add, Nat.reduceAdd]
          refine wpAnyT_take (i := 0) (oi := { dst := some 35, op := Go.Op.move (Go.Operand.tmp 0), type := 48, pos := "respeak.go:78", after := #[], guard := none }) (v := ?av0) rfl (by kernel_rfl) (by kernel_rfl) (by kernel_rfl) (by kernel_rfl) (fun _ _ _ h => h) (Or.inl ⟨by rfl, ?ay0⟩) (by assumption) ?ar0
          case ay0 =>
            intro w hSw
            (try dsimp only at hSw)
            go_simp
            all_goals (with_reducible rfl)
          try simp only [Act.put, List.setIfInBounds_toArray, List.set_cons_zero, List.set_cons_succ]
          refine wpAnyT_take (i := 1) (oi := { dst := some 36, op := Go.Op.move (Go.Operand.tmp 0), type := 48, pos := "respeak.go:78", after := #[], guard := none }) (v := ?av1) rfl (by kernel_rfl) (by kernel_rfl) (by kernel_rfl) (by kernel_rfl) (fun _ _ _ h => h) (Or.inl ⟨by rfl, ?ay1⟩) (by assumption) ?ar1
          case ay1 =>
            intro w hSw
            (try dsimp only at hSw)
            go_simp
            all_goals (with_reducible rfl)
          try simp only [Act.put, List.setIfInBounds_toArray, List.set_cons_zero, List.set_cons_succ]
          refine wpAnyT_take (i := 2) (oi := { dst := some 37, op := Go.Op.nilCheck (Go.Operand.tmp 36), type := 0, pos := "respeak.go:78", after := #[{ on := 1, ground := Go.Ground.data }], guard := none }) (v := ?av2) rfl (by kernel_rfl) (by kernel_rfl) (by kernel_rfl) (by kernel_rfl) (fun _ _ _ h => h) (Or.inl ⟨by rfl, ?ay2⟩) (by assumption) ?ar2
          case ay2 =>
            intro w hSw
            (try dsimp only at hSw)
            go_simp
            all_goals (with_reducible rfl)
          try simp only [Act.put, List.setIfInBounds_toArray, List.set_cons_zero, List.set_cons_succ]
          refine wpAnyT_take (i := 3) (oi := { dst := some 38, op := Go.Op.fieldAddr 88 (Go.Operand.tmp 37) 1, type := 0, pos := "respeak.go:78", after := #[{ on := 2, ground := Go.Ground.data }], guard := none }) (v := ?av3) rfl (by kernel_rfl) (by kernel_rfl) (by kernel_rfl) (by kernel_rfl) (fun _ _ _ h => h) (Or.inl ⟨by rfl, ?ay3⟩) (by assumption) ?ar3
          case ay3 =>
            intro w hSw
            (try dsimp only at hSw)
            go_simp
            all_goals (with_reducible rfl)
          try simp only [Act.put, List.setIfInBounds_toArray, List.set_cons_zero, List.set_cons_succ]
          refine wpAnyT_take (i := 4) (oi := { dst := some 39, op := Go.Op.load 51 (Go.Operand.tmp 38), type := 51, pos := "respeak.go:78", after := #[{ on := 3, ground := Go.Ground.data }], guard := none }) (v := ?av4) rfl (by kernel_rfl) (by kernel_rfl) (by kernel_rfl) (by kernel_rfl) (fun _ _ _ h => h) (Or.inl ⟨by rfl, ?ay4⟩) (by assumption) ?ar4
          case ay4 =>
            intro w hSw
            (try dsimp only at hSw)
            go_simp
            all_goals (with_reducible rfl)
          try simp only [Act.put, List.setIfInBounds_toArray, List.set_cons_zero, List.set_cons_succ]
          refine wpAnyT_take (i := 5) (oi := { dst := some 40, op := Go.Op.move (Go.Operand.tmp 8), type := 9, pos := "respeak.go:78", after := #[], guard := none }) (v := ?av5) rfl (by kernel_rfl) (by kernel_rfl) (by kernel_rfl) (by kernel_rfl) (fun _ _ _ h => h) (Or.inl ⟨by rfl, ?ay5⟩) (by assumption) ?ar5
          case ay5 =>
            intro w hSw
            (try dsimp only at hSw)
            go_simp
            all_goals (with_reducible rfl)
          try simp only [Act.put, List.setIfInBounds_toArray, List.set_cons_zero, List.set_cons_succ]
          refine wpAnyT_take (i := 6) (oi := { dst := some 41, op := Go.Op.move (Go.Operand.tmp 7), type := 3, pos := "respeak.go:78", after := #[], guard := none }) (v := ?av6) rfl (by kernel_rfl) (by kernel_rfl) (by kernel_rfl) (by kernel_rfl) (fun _ _ _ h => h) (Or.inl ⟨by rfl, ?ay6⟩) (by assumption) ?ar6
          case ay6 =>
            intro w hSw
            (try dsimp only at hSw)
            go_simp
            all_goals (with_reducible rfl)
          try simp only [Act.put, List.setIfInBounds_toArray, List.set_cons_zero, List.set_cons_succ]
          refine wpAnyT_take (i := 7) (oi := { dst := some 42, op := Go.Op.binOp Go.BinOp.eql 3 (Go.Operand.tmp 41) (Go.Operand.const (Go.Value.int Go.IntKind.i64 0)) 3, type := 4, pos := "respeak.go:78", after := #[{ on := 6, ground := Go.Ground.data }], guard := none }) (v := ?av7) rfl (by kernel_rfl) (by kernel_rfl) (by kernel_rfl) (by kernel_rfl) (fun _ _ _ h => h) (Or.inl ⟨by rfl, ?ay7⟩) (by assumption) ?ar7
          case ay7 =>
            intro w hSw
            (try dsimp only at hSw)
            go_simp
            all_goals (with_reducible rfl)
          try simp only [Act.put, List.setIfInBounds_toArray, List.set_cons_zero, List.set_cons_succ]
          refine wpAnyT_take (i := 8) (oi := { dst := some 43, op := Go.Op.move (Go.Operand.tmp 42), type := 4, pos := "respeak.go:78", after := #[{ on := 7, ground := Go.Ground.data }], guard := none }) (v := ?av8) rfl (by kernel_rfl) (by kernel_rfl) (by kernel_rfl) (by kernel_rfl) (fun _ _ _ h => h) (Or.inl ⟨by rfl, ?ay8⟩) (by assumption) ?ar8
          case ay8 =>
            intro w hSw
            (try dsimp only at hSw)
            go_simp
            all_goals (with_reducible rfl)
          try simp only [Act.put, List.setIfInBounds_toArray, List.set_cons_zero, List.set_cons_succ]
          refine wpAnyT_take (i := 9) (oi := { dst := some 44, op := Go.Op.move (Go.Operand.tmp 0), type := 48, pos := "respeak.go:78", after := #[{ on := 8, ground := Go.Ground.guard }], guard := some (8, true) }) (v := ?av9) rfl (by kernel_rfl) (by kernel_rfl) (by kernel_rfl) (by kernel_rfl) (fun _ _ _ h => h) (Or.inl ⟨by rfl, ?ay9⟩) (by assumption) ?ar9
          case ay9 =>
            intro w hSw
            (try dsimp only at hSw)
            go_simp
            all_goals (with_reducible rfl)
          try simp only [Act.put, List.setIfInBounds_toArray, List.set_cons_zero, List.set_cons_succ]
          refine wpAnyT_take (i := 10) (oi := { dst := some 45, op := Go.Op.nilCheck (Go.Operand.tmp 44), type := 0, pos := "respeak.go:78", after := #[{ on := 9, ground := Go.Ground.data }, { on := 8, ground := Go.Ground.guard }], guard := some (8, true) }) (v := ?av10) rfl (by kernel_rfl) (by kernel_rfl) (by kernel_rfl) (by kernel_rfl) (fun _ _ _ h => h) (Or.inl ⟨by rfl, ?ay10⟩) (by assumption) ?ar10
          case ay10 =>
            intro w hSw
            (try dsimp only at hSw)
            go_simp
            all_goals (with_reducible rfl)
          try simp only [Act.put, List.setIfInBounds_toArray, List.set_cons_zero, List.set_cons_succ]
          refine wpAnyT_take (i := 11) (oi := { dst := some 46, op := Go.Op.fieldAddr 88 (Go.Operand.tmp 45) 5, type := 0, pos := "respeak.go:78", after := #[{ on := 10, ground := Go.Ground.data }, { on := 8, ground := Go.Ground.guard }], guard := some (8, true) }) (v := ?av11) rfl (by kernel_rfl) (by kernel_rfl) (by kernel_rfl) (by kernel_rfl) (fun _ _ _ h => h) (Or.inl ⟨by rfl, ?ay11⟩) (by assumption) ?ar11
          case ay11 =>
            intro w hSw
            (try dsimp only at hSw)
            go_simp
            all_goals (with_reducible rfl)
          try simp only [Act.put, List.setIfInBounds_toArray, List.set_cons_zero, List.set_cons_succ]
          refine wpAnyT_take (i := 12) (oi := { dst := some 47, op := Go.Op.load 4 (Go.Operand.tmp 46), type := 4, pos := "respeak.go:78", after := #[{ on := 11, ground := Go.Ground.data }, { on := 8, ground := Go.Ground.guard }], guard := some (8, true) }) (v := ?av12) rfl (by kernel_rfl) (by kernel_rfl) (by kernel_rfl) (by kernel_rfl) (fun _ _ _ h => h) (Or.inl ⟨by rfl, ?ay12⟩) (by assumption) ?ar12
          case ay12 =>
            intro w hSw
            (try dsimp only at hSw)
            go_simp
            all_goals (with_reducible rfl)
          try simp only [Act.put, List.setIfInBounds_toArray, List.set_cons_zero, List.set_cons_succ]
          refine wpAnyT_take (i := 13) (oi := { dst := some 48, op := Go.Op.pick (Go.Operand.tmp 43) (Go.Operand.tmp 47) (Go.Operand.const (Go.Value.bool false)), type := 4, pos := "respeak.go:78", after := #[{ on := 8, ground := Go.Ground.data }, { on := 12, ground := Go.Ground.data }], guard := none }) (v := ?av13) rfl (by kernel_rfl) (by kernel_rfl) (by kernel_rfl) (by kernel_rfl) (fun _ _ _ h => h) (Or.inl ⟨by rfl, ?ay13⟩) (by assumption) ?ar13
          case ay13 =>
            intro w hSw
            (try dsimp only at hSw)
            go_simp
            all_goals (with_reducible rfl)
          try simp only [Act.put, List.setIfInBounds_toArray, List.set_cons_zero, List.set_cons_succ]
          refine wpAnyT_take (i := 14) (oi := { dst := some 49, op := Go.Op.build 59 #[(0, Go.Operand.tmp 40), (1, Go.Operand.tmp 48)], type := 59, pos := "respeak.go:78", after := #[{ on := 5, ground := Go.Ground.data }, { on := 13, ground := Go.Ground.data }], guard := none }) (v := ?av14) rfl (by kernel_rfl) (by kernel_rfl) (by kernel_rfl) (by kernel_rfl) (fun _ _ _ h => h) (Or.inl ⟨by rfl, ?ay14⟩) (by assumption) ?ar14
          case ay14 =>
            intro w hSw
            (try dsimp only at hSw)
            go_simp
            all_goals (with_reducible rfl)
          try simp only [Act.put, List.setIfInBounds_toArray, List.set_cons_zero, List.set_cons_succ]
          refine wpAnyT_one (i := 15) (o := { dst := some 50, op := Go.Op.buildSlice 51 1 #[(0, Go.Operand.tmp 49)], type := 51, pos := "respeak.go:78", after := #[{ on := 14, ground := Go.Ground.data }], guard := none }) (by kernel_rfl) rfl (fun K hK => ?_)
          go_simp
          refine hK.out _ _ ⟨hk1, hk2, hk3⟩ (fun hHeld => ?_)
          clear hK K
          try simp only [Act.put, List.setIfInBounds_toArray, List.set_cons_zero, List.set_cons_succ]
          refine wpAnyT_one (i := 16) (o := { dst := some 51, op := Go.Op.call { callee := Go.Callee.builtin Go.Builtin.append, args := #[Go.Operand.tmp 39, Go.Operand.tmp 50], argTypes := #[51, 51] }, type := 51, pos := "respeak.go:78", after := #[{ on := 4, ground := Go.Ground.data }, { on := 15, ground := Go.Ground.data }, { on := 8, ground := Go.Ground.chain }], guard := none }) (by kernel_rfl) rfl (fun K hK => ?_)
          refine step_append_lies _ (by rfl) _ _ _ (by rfl) 0 59 i0 _ 3 24 Tryd.underlying51 hi iz0 iz1 iz2 rfl (by omega) u d.length (scells d) (by rfl) ((h2.alloc _).drew) ⟨wr.heap.size, 0, none⟩ 1 1 [.string (ba Y), .bool S.brk, .bool false] (by rfl) (by rfl) (World.news_of_block (cs := #[.string (ba Y), .bool S.brk, .bool false]) (t := 59) (fr := (0, 0)) (heap_alloc_new wr _)) (by simp [Value.oneCell']) (by omega) (by unfold maxLen; omega) (by omega) (by simp) (wr.heap.size + 1) (by simp) ?_
          intro gg cap w1 hown1 hgrow hat hltg
          have hq1 := (hgrow.cell_far ⟨b, 1, none⟩ (by simp; omega) hne0).trans hk1
          have hq5 := (hgrow.cell_far ⟨b, 5, none⟩ (by simp; omega) hne0).trans hk2
          have hq2 := (hgrow.frozen_far ⟨b, 1, none⟩ (by simp; omega) hne0).trans hk3
          refine hK.out _ _ ⟨hq1, hq5, hq2⟩ (fun hHeld => ?_)
          clear hK K
          try simp only [Act.put, List.setIfInBounds_toArray, List.set_cons_zero, List.set_cons_succ]
          refine wpAnyT_last (i := 17) (o := { dst := some 52, op := Go.Op.nilCheck (Go.Operand.tmp 35), type := 0, pos := "respeak.go:78", after := #[{ on := 0, ground := Go.Ground.data }, { on := 0, ground := Go.Ground.phase }, { on := 1, ground := Go.Ground.phase }, { on := 2, ground := Go.Ground.phase }, { on := 3, ground := Go.Ground.phase }, { on := 4, ground := Go.Ground.phase }, { on := 5, ground := Go.Ground.phase }, { on := 6, ground := Go.Ground.phase }, { on := 7, ground := Go.Ground.phase }, { on := 8, ground := Go.Ground.phase }, { on := 9, ground := Go.Ground.phase }, { on := 10, ground := Go.Ground.phase }, { on := 11, ground := Go.Ground.phase }, { on := 12, ground := Go.Ground.phase }, { on := 13, ground := Go.Ground.phase }, { on := 14, ground := Go.Ground.phase }, { on := 15, ground := Go.Ground.phase }, { on := 16, ground := Go.Ground.phase }], guard := none }) (by kernel_rfl) rfl (by decide) (fun K hK => ?_)
          go_simp
          refine hK.out _ _ ?_
          clear hK K
          try simp only [Act.put, List.setIfInBounds_toArray, List.set_cons_zero, List.set_cons_succ]
          refine wpAnyT_last (i := 18) (o := { dst := some 53, op := Go.Op.fieldAddr 88 (Go.Operand.tmp 52) 1, type := 0, pos := "respeak.go:78", after := #[{ on := 17, ground := Go.Ground.data }, { on := 0, ground := Go.Ground.phase }, { on := 1, ground := Go.Ground.phase }, { on := 2, ground := Go.Ground.phase }, { on := 3, ground := Go.Ground.phase }, { on := 4, ground := Go.Ground.phase }, { on := 5, ground := Go.Ground.phase }, { on := 6, ground := Go.Ground.phase }, { on := 7, ground := Go.Ground.phase }, { on := 8, ground := Go.Ground.phase }, { on := 9, ground := Go.Ground.phase }, { on := 10, ground := Go.Ground.phase }, { on := 11, ground := Go.Ground.phase }, { on := 12, ground := Go.Ground.phase }, { on := 13, ground := Go.Ground.phase }, { on := 14, ground := Go.Ground.phase }, { on := 15, ground := Go.Ground.phase }, { on := 16, ground := Go.Ground.phase }], guard := none }) (by kernel_rfl) rfl (by decide) (fun K hK => ?_)
          go_simp
          refine hK.out _ _ ?_
          clear hK K
          try simp only [Act.put, List.setIfInBounds_toArray, List.set_cons_zero, List.set_cons_succ]
          refine wpAnyT_last (i := 19) (o := { dst := none, op := Go.Op.store 51 (Go.Operand.tmp 53) (Go.Operand.tmp 51), type := 0, pos := "respeak.go:78", after := #[{ on := 18, ground := Go.Ground.data }, { on := 16, ground := Go.Ground.data }, { on := 16, ground := Go.Ground.chain }, { on := 0, ground := Go.Ground.phase }, { on := 1, ground := Go.Ground.phase }, { on := 2, ground := Go.Ground.phase }, { on := 3, ground := Go.Ground.phase }, { on := 4, ground := Go.Ground.phase }, { on := 5, ground := Go.Ground.phase }, { on := 6, ground := Go.Ground.phase }, { on := 7, ground := Go.Ground.phase }, { on := 8, ground := Go.Ground.phase }, { on := 9, ground := Go.Ground.phase }, { on := 10, ground := Go.Ground.phase }, { on := 11, ground := Go.Ground.phase }, { on := 12, ground := Go.Ground.phase }, { on := 13, ground := Go.Ground.phase }, { on := 14, ground := Go.Ground.phase }, { on := 15, ground := Go.Ground.phase }, { on := 16, ground := Go.Ground.phase }], guard := none }) (by kernel_rfl) rfl (by decide) (fun K hK => ?_)
          go_simp
          refine hK.out _ _ ?_
          clear hK K
          try simp only [Act.put, List.setIfInBounds_toArray, List.set_cons_zero, List.set_cons_succ]
          refine wpAnyT_done (by kernel_rfl) ?_ _
          all_goals
            obtain ⟨R1, R2, R3⟩ := app59 hW h1 h2 h5 (W1 := (wr.alloc (.cells #[.string (ba Y), .bool S.brk, .bool false] 59)).drew) (below1 _ (Nat.le_refl _)).drew hgrow (by simpa using hat) hltg hown1
            have R4 := keep59 (by decide) h3 h2 (W1 := (wr.alloc (.cells #[.string (ba Y), .bool S.brk, .bool false] 59)).drew) (below1 _ (Nat.le_refl _)).drew hgrow
            have R5 := keep59 (by decide) ho h2 (W1 := (wr.alloc (.cells #[.string (ba Y), .bool S.brk, .bool false] 59)).drew) (below1 _ (Nat.le_refl _)).drew hgrow
            have R6 := open_step (d' := d ++ [(Y, S.brk, false)]) (x := (Y, S.brk, false)) hown1 rfl rfl
            have R7 : (d ++ [(Y, S.brk, false)]).length = d.length + 1 := by simp
            clear hown1 hgrow hat h1 h2 h3 ho c0 c1 c2 c3 c4 c5 HK hq1 hq2 hq5 hk1 hk2 hk3 hHeld
            go_wp2_with fail
            go_roundw
            case rel => exact ⟨0 + 1, d ++ [(Y, S.brk, false)], _, by go_num, by omega, by omega, blk_set R1, row_far (by decide) R1 R6, row_far (by decide) R1 R4, fun k hk => by cases hk; exact (by simpa [grow] using R3), R2.set h4, row_far (by decide) R1 R5, Lib.hid (by rw [List.append_assoc]; exact HD2.out.symm)⟩
            case measure => simp [intOf]; omega
        · have hiz : ((i : Int) == 0) = false := by simp; omega
          have hin : (i == 0) = false := by simpa using hi0
          rw [hin, Bool.false_and] at HD2
          clear hin
          go_wp2_with fail
          obtain ⟨hk1, hk2, hk3⟩ := HK.out (.cells #[.string (ba Y), .bool false, .bool false] 59)
          refine wp_region_tail 17 (S := (fun w' => w'.cell? ⟨b, 1, none⟩ = some u ∧ w'.cell? ⟨b, 5, none⟩ = some (.bool S.brk) ∧ w'.frozen? ⟨b, 1, none⟩ = false)) (by kernel_rfl) ⟨c1, c5, hf1⟩ (fun hHeld => ?_)
          simp only [List.size_toArray, List.length_cons, List.length_nil, Nat.zero_add, Nat.reduceAdd]
          refine wpAnyT_take (i := 0) (oi := { dst := some 35, op := Go.Op.move (Go.Operand.tmp 0), type := 48, pos := "respeak.go:78", after := #[], guard := none }) (v := ?bv0) rfl (by kernel_rfl) (by kernel_rfl) (by kernel_rfl) (by kernel_rfl) (fun _ _ _ h => h) (Or.inl ⟨by rfl, ?by0⟩) (by assumption) ?br0
          case by0 =>
            intro w hSw
            (try dsimp only at hSw)
            go_simp
            all_goals (with_reducible rfl)
          try simp only [Act.put, List.setIfInBounds_toArray, List.set_cons_zero, List.set_cons_succ]
          refine wpAnyT_take (i := 1) (oi := { dst := some 36, op := Go.Op.move (Go.Operand.tmp 0), type := 48, pos := "respeak.go:78", after := #[], guard := none }) (v := ?bv1) rfl (by kernel_rfl) (by kernel_rfl) (by kernel_rfl) (by kernel_rfl) (fun _ _ _ h => h) (Or.inl ⟨by rfl, ?by1⟩) (by assumption) ?br1
          case by1 =>
            intro w hSw
            (try dsimp only at hSw)
            go_simp
            all_goals (with_reducible rfl)
          try simp only [Act.put, List.setIfInBounds_toArray, List.set_cons_zero, List.set_cons_succ]
          refine wpAnyT_take (i := 2) (oi := { dst := some 37, op := Go.Op.nilCheck (Go.Operand.tmp 36), type := 0, pos := "respeak.go:78", after := #[{ on := 1, ground := Go.Ground.data }], guard := none }) (v := ?bv2) rfl (by kernel_rfl) (by kernel_rfl) (by kernel_rfl) (by kernel_rfl) (fun _ _ _ h => h) (Or.inl ⟨by rfl, ?by2⟩) (by assumption) ?br2
          case by2 =>
            intro w hSw
            (try dsimp only at hSw)
            go_simp
            all_goals (with_reducible rfl)
          try simp only [Act.put, List.setIfInBounds_toArray, List.set_cons_zero, List.set_cons_succ]
          refine wpAnyT_take (i := 3) (oi := { dst := some 38, op := Go.Op.fieldAddr 88 (Go.Operand.tmp 37) 1, type := 0, pos := "respeak.go:78", after := #[{ on := 2, ground := Go.Ground.data }], guard := none }) (v := ?bv3) rfl (by kernel_rfl) (by kernel_rfl) (by kernel_rfl) (by kernel_rfl) (fun _ _ _ h => h) (Or.inl ⟨by rfl, ?by3⟩) (by assumption) ?br3
          case by3 =>
            intro w hSw
            (try dsimp only at hSw)
            go_simp
            all_goals (with_reducible rfl)
          try simp only [Act.put, List.setIfInBounds_toArray, List.set_cons_zero, List.set_cons_succ]
          refine wpAnyT_take (i := 4) (oi := { dst := some 39, op := Go.Op.load 51 (Go.Operand.tmp 38), type := 51, pos := "respeak.go:78", after := #[{ on := 3, ground := Go.Ground.data }], guard := none }) (v := ?bv4) rfl (by kernel_rfl) (by kernel_rfl) (by kernel_rfl) (by kernel_rfl) (fun _ _ _ h => h) (Or.inl ⟨by rfl, ?by4⟩) (by assumption) ?br4
          case by4 =>
            intro w hSw
            (try dsimp only at hSw)
            go_simp
            all_goals (with_reducible rfl)
          try simp only [Act.put, List.setIfInBounds_toArray, List.set_cons_zero, List.set_cons_succ]
          refine wpAnyT_take (i := 5) (oi := { dst := some 40, op := Go.Op.move (Go.Operand.tmp 8), type := 9, pos := "respeak.go:78", after := #[], guard := none }) (v := ?bv5) rfl (by kernel_rfl) (by kernel_rfl) (by kernel_rfl) (by kernel_rfl) (fun _ _ _ h => h) (Or.inl ⟨by rfl, ?by5⟩) (by assumption) ?br5
          case by5 =>
            intro w hSw
            (try dsimp only at hSw)
            go_simp
            all_goals (with_reducible rfl)
          try simp only [Act.put, List.setIfInBounds_toArray, List.set_cons_zero, List.set_cons_succ]
          refine wpAnyT_take (i := 6) (oi := { dst := some 41, op := Go.Op.move (Go.Operand.tmp 7), type := 3, pos := "respeak.go:78", after := #[], guard := none }) (v := ?bv6) rfl (by kernel_rfl) (by kernel_rfl) (by kernel_rfl) (by kernel_rfl) (fun _ _ _ h => h) (Or.inl ⟨by rfl, ?by6⟩) (by assumption) ?br6
          case by6 =>
            intro w hSw
            (try dsimp only at hSw)
            go_simp
            all_goals (with_reducible rfl)
          try simp only [Act.put, List.setIfInBounds_toArray, List.set_cons_zero, List.set_cons_succ]
          refine wpAnyT_take (i := 7) (oi := { dst := some 42, op := Go.Op.binOp Go.BinOp.eql 3 (Go.Operand.tmp 41) (Go.Operand.const (Go.Value.int Go.IntKind.i64 0)) 3, type := 4, pos := "respeak.go:78", after := #[{ on := 6, ground := Go.Ground.data }], guard := none }) (v := ?bv7) rfl (by kernel_rfl) (by kernel_rfl) (by kernel_rfl) (by kernel_rfl) (fun _ _ _ h => h) (Or.inl ⟨by rfl, ?by7⟩) (by assumption) ?br7
          case by7 =>
            intro w hSw
            (try dsimp only at hSw)
            go_simp
            all_goals (with_reducible rfl)
          try simp only [Act.put, List.setIfInBounds_toArray, List.set_cons_zero, List.set_cons_succ]
          refine wpAnyT_take (i := 8) (oi := { dst := some 43, op := Go.Op.move (Go.Operand.tmp 42), type := 4, pos := "respeak.go:78", after := #[{ on := 7, ground := Go.Ground.data }], guard := none }) (v := ?bv8) rfl (by kernel_rfl) (by kernel_rfl) (by kernel_rfl) (by kernel_rfl) (fun _ _ _ h => h) (Or.inl ⟨by rfl, ?by8⟩) (by assumption) ?br8
          case by8 =>
            intro w hSw
            (try dsimp only at hSw)
            go_simp
            all_goals (with_reducible rfl)
          try simp only [Act.put, List.setIfInBounds_toArray, List.set_cons_zero, List.set_cons_succ]
          refine wpAnyT_take (i := 9) (oi := { dst := some 44, op := Go.Op.move (Go.Operand.tmp 0), type := 48, pos := "respeak.go:78", after := #[{ on := 8, ground := Go.Ground.guard }], guard := some (8, true) }) (v := undef) rfl (by kernel_rfl) (by kernel_rfl) (by kernel_rfl) (by kernel_rfl) (fun _ _ _ h => h) (Or.inr ⟨by rfl, rfl⟩) (by assumption) ?_
          try simp only [Act.put, List.setIfInBounds_toArray, List.set_cons_zero, List.set_cons_succ]
          refine wpAnyT_take (i := 10) (oi := { dst := some 45, op := Go.Op.nilCheck (Go.Operand.tmp 44), type := 0, pos := "respeak.go:78", after := #[{ on := 9, ground := Go.Ground.data }, { on := 8, ground := Go.Ground.guard }], guard := some (8, true) }) (v := undef) rfl (by kernel_rfl) (by kernel_rfl) (by kernel_rfl) (by kernel_rfl) (fun _ _ _ h => h) (Or.inr ⟨by rfl, rfl⟩) (by assumption) ?_
          try simp only [Act.put, List.setIfInBounds_toArray, List.set_cons_zero, List.set_cons_succ]
          refine wpAnyT_take (i := 11) (oi := { dst := some 46, op := Go.Op.fieldAddr 88 (Go.Operand.tmp 45) 5, type := 0, pos := "respeak.go:78", after := #[{ on := 10, ground := Go.Ground.data }, { on := 8, ground := Go.Ground.guard }], guard := some (8, true) }) (v := undef) rfl (by kernel_rfl) (by kernel_rfl) (by kernel_rfl) (by kernel_rfl) (fun _ _ _ h => h) (Or.inr ⟨by rfl, rfl⟩) (by assumption) ?_
          try simp only [Act.put, List.setIfInBounds_toArray, List.set_cons_zero, List.set_cons_succ]
          refine wpAnyT_take (i := 12) (oi := { dst := some 47, op := Go.Op.load 4 (Go.Operand.tmp 46), type := 4, pos := "respeak.go:78", after := #[{ on := 11, ground := Go.Ground.data }, { on := 8, ground := Go.Ground.guard }], guard := some (8, true) }) (v := undef) rfl (by kernel_rfl) (by kernel_rfl) (by kernel_rfl) (by kernel_rfl) (fun _ _ _ h => h) (Or.inr ⟨by rfl, rfl⟩) (by assumption) ?_
          try simp only [Act.put, List.setIfInBounds_toArray, List.set_cons_zero, List.set_cons_succ]
          refine wpAnyT_take (i := 13) (oi := { dst := some 48, op := Go.Op.pick (Go.Operand.tmp 43) (Go.Operand.tmp 47) (Go.Operand.const (Go.Value.bool false)), type := 4, pos := "respeak.go:78", after := #[{ on := 8, ground := Go.Ground.data }, { on := 12, ground := Go.Ground.data }], guard := none }) (v := ?bv13) rfl (by kernel_rfl) (by kernel_rfl) (by kernel_rfl) (by kernel_rfl) (fun _ _ _ h => h) (Or.inl ⟨by rfl, ?by13⟩) (by assumption) ?br13
          case by13 =>
            intro w hSw
            (try dsimp only at hSw)
            go_simp
            all_goals (with_reducible rfl)
          try simp only [Act.put, List.setIfInBounds_toArray, List.set_cons_zero, List.set_cons_succ]
          refine wpAnyT_take (i := 14) (oi := { dst := some 49, op := Go.Op.build 59 #[(0, Go.Operand.tmp 40), (1, Go.Operand.tmp 48)], type := 59, pos := "respeak.go:78", after := #[{ on := 5, ground := Go.Ground.data }, { on := 13, ground := Go.Ground.data }], guard := none }) (v := ?bv14) rfl (by kernel_rfl) (by kernel_rfl) (by kernel_rfl) (by kernel_rfl) (fun _ _ _ h => h) (Or.inl ⟨by rfl, ?by14⟩) (by assumption) ?br14
          case by14 =>
            intro w hSw
            (try dsimp only at hSw)
            go_simp
            all_goals (with_reducible rfl)
          try simp only [Act.put, List.setIfInBounds_toArray, List.set_cons_zero, List.set_cons_succ]
          refine wpAnyT_one (i := 15) (o := { dst := some 50, op := Go.Op.buildSlice 51 1 #[(0, Go.Operand.tmp 49)], type := 51, pos := "respeak.go:78", after := #[{ on := 14, ground := Go.Ground.data }], guard := none }) (by kernel_rfl) rfl (fun K hK => ?_)
          go_simp
          refine hK.out _ _ ⟨hk1, hk2, hk3⟩ (fun hHeld => ?_)
          clear hK K
          try simp only [Act.put, List.setIfInBounds_toArray, List.set_cons_zero, List.set_cons_succ]
          refine wpAnyT_one (i := 16) (o := { dst := some 51, op := Go.Op.call { callee := Go.Callee.builtin Go.Builtin.append, args := #[Go.Operand.tmp 39, Go.Operand.tmp 50], argTypes := #[51, 51] }, type := 51, pos := "respeak.go:78", after := #[{ on := 4, ground := Go.Ground.data }, { on := 15, ground := Go.Ground.data }, { on := 8, ground := Go.Ground.chain }], guard := none }) (by kernel_rfl) rfl (fun K hK => ?_)
          refine step_append_lies _ (by rfl) _ _ _ (by rfl) 0 59 i0 _ 3 24 Tryd.underlying51 hi iz0 iz1 iz2 rfl (by omega) u d.length (scells d) (by rfl) ((h2.alloc _).drew) ⟨wr.heap.size, 0, none⟩ 1 1 [.string (ba Y), .bool false, .bool false] (by rfl) (by rfl) (World.news_of_block (cs := #[.string (ba Y), .bool false, .bool false]) (t := 59) (fr := (0, 0)) (heap_alloc_new wr _)) (by simp [Value.oneCell']) (by omega) (by unfold maxLen; omega) (by omega) (by simp) (wr.heap.size + 1) (by simp) ?_
          intro gg cap w1 hown1 hgrow hat hltg
          have hq1 := (hgrow.cell_far ⟨b, 1, none⟩ (by simp; omega) hne0).trans hk1
          have hq5 := (hgrow.cell_far ⟨b, 5, none⟩ (by simp; omega) hne0).trans hk2
          have hq2 := (hgrow.frozen_far ⟨b, 1, none⟩ (by simp; omega) hne0).trans hk3
          refine hK.out _ _ ⟨hq1, hq5, hq2⟩ (fun hHeld => ?_)
          clear hK K
          try simp only [Act.put, List.setIfInBounds_toArray, List.set_cons_zero, List.set_cons_succ]
          refine wpAnyT_last (i := 17) (o := { dst := some 52, op := Go.Op.nilCheck (Go.Operand.tmp 35), type := 0, pos := "respeak.go:78", after := #[{ on := 0, ground := Go.Ground.data }, { on := 0, ground := Go.Ground.phase }, { on := 1, ground := Go.Ground.phase }, { on := 2, ground := Go.Ground.phase }, { on := 3, ground := Go.Ground.phase }, { on := 4, ground := Go.Ground.phase }, { on := 5, ground := Go.Ground.phase }, { on := 6, ground := Go.Ground.phase }, { on := 7, ground := Go.Ground.phase }, { on := 8, ground := Go.Ground.phase }, { on := 9, ground := Go.Ground.phase }, { on := 10, ground := Go.Ground.phase }, { on := 11, ground := Go.Ground.phase }, { on := 12, ground := Go.Ground.phase }, { on := 13, ground := Go.Ground.phase }, { on := 14, ground := Go.Ground.phase }, { on := 15, ground := Go.Ground.phase }, { on := 16, ground := Go.Ground.phase }], guard := none }) (by kernel_rfl) rfl (by decide) (fun K hK => ?_)
          go_simp
          refine hK.out _ _ ?_
          clear hK K
          try simp only [Act.put, List.setIfInBounds_toArray, List.set_cons_zero, List.set_cons_succ]
          refine wpAnyT_last (i := 18) (o := { dst := some 53, op := Go.Op.fieldAddr 88 (Go.Operand.tmp 52) 1, type := 0, pos := "respeak.go:78", after := #[{ on := 17, ground := Go.Ground.data }, { on := 0, ground := Go.Ground.phase }, { on := 1, ground := Go.Ground.phase }, { on := 2, ground := Go.Ground.phase }, { on := 3, ground := Go.Ground.phase }, { on := 4, ground := Go.Ground.phase }, { on := 5, ground := Go.Ground.phase }, { on := 6, ground := Go.Ground.phase }, { on := 7, ground := Go.Ground.phase }, { on := 8, ground := Go.Ground.phase }, { on := 9, ground := Go.Ground.phase }, { on := 10, ground := Go.Ground.phase }, { on := 11, ground := Go.Ground.phase }, { on := 12, ground := Go.Ground.phase }, { on := 13, ground := Go.Ground.phase }, { on := 14, ground := Go.Ground.phase }, { on := 15, ground := Go.Ground.phase }, { on := 16, ground := Go.Ground.phase }], guard := none }) (by kernel_rfl) rfl (by decide) (fun K hK => ?_)
          go_simp
          refine hK.out _ _ ?_
          clear hK K
          try simp only [Act.put, List.setIfInBounds_toArray, List.set_cons_zero, List.set_cons_succ]
          refine wpAnyT_last (i := 19) (o := { dst := none, op := Go.Op.store 51 (Go.Operand.tmp 53) (Go.Operand.tmp 51), type := 0, pos := "respeak.go:78", after := #[{ on := 18, ground := Go.Ground.data }, { on := 16, ground := Go.Ground.data }, { on := 16, ground := Go.Ground.chain }, { on := 0, ground := Go.Ground.phase }, { on := 1, ground := Go.Ground.phase }, { on := 2, ground := Go.Ground.phase }, { on := 3, ground := Go.Ground.phase }, { on := 4, ground := Go.Ground.phase }, { on := 5, ground := Go.Ground.phase }, { on := 6, ground := Go.Ground.phase }, { on := 7, ground := Go.Ground.phase }, { on := 8, ground := Go.Ground.phase }, { on := 9, ground := Go.Ground.phase }, { on := 10, ground := Go.Ground.phase }, { on := 11, ground := Go.Ground.phase }, { on := 12, ground := Go.Ground.phase }, { on := 13, ground := Go.Ground.phase }, { on := 14, ground := Go.Ground.phase }, { on := 15, ground := Go.Ground.phase }, { on := 16, ground := Go.Ground.phase }], guard := none }) (by kernel_rfl) rfl (by decide) (fun K hK => ?_)
          go_simp
          refine hK.out _ _ ?_
          clear hK K
          try simp only [Act.put, List.setIfInBounds_toArray, List.set_cons_zero, List.set_cons_succ]
          refine wpAnyT_done (by kernel_rfl) ?_ _
          all_goals
            obtain ⟨R1, R2, R3⟩ := app59 hW h1 h2 h5 (W1 := (wr.alloc (.cells #[.string (ba Y), .bool false, .bool false] 59)).drew) (below1 _ (Nat.le_refl _)).drew hgrow (by simpa using hat) hltg hown1
            have R4 := keep59 (by decide) h3 h2 (W1 := (wr.alloc (.cells #[.string (ba Y), .bool false, .bool false] 59)).drew) (below1 _ (Nat.le_refl _)).drew hgrow
            have R5 := keep59 (by decide) ho h2 (W1 := (wr.alloc (.cells #[.string (ba Y), .bool false, .bool false] 59)).drew) (below1 _ (Nat.le_refl _)).drew hgrow
            have R6 := open_step (d' := d ++ [(Y, false, false)]) (x := (Y, false, false)) hown1 rfl rfl
            have R7 : (d ++ [(Y, false, false)]).length = d.length + 1 := by simp
            clear hown1 hgrow hat h1 h2 h3 ho c0 c1 c2 c3 c4 c5 HK hq1 hq2 hq5 hk1 hk2 hk3 hHeld
            go_wp2_with fail
            go_roundw
            case rel => exact ⟨i + 1, d ++ [(Y, false, false)], _, by go_num, by omega, by omega, blk_set R1, row_far (by decide) R1 R6, row_far (by decide) R1 R4, fun k hk => by cases hk; exact (by simpa [grow] using R3), R2.set h4, row_far (by decide) R1 R5, Lib.hid (by rw [List.append_assoc]; exact HD2.out.symm)⟩
            case measure => simp [intOf]; omega
      · obtain rfl : i = L.length := by omega
        have hz : ¬ (L.length : Int) < (L.length : Int) := by omega
        have HD2 := HD.out
        rw [newGo_end, List.append_nil] at HD2
        have HD2 := Lib.hid HD2
        go_wp2_with fail
        go_ret
        have e1 : R.1 = { S with opn := d, brk := false } := HT.out.2.1.trans (by rw [HD2.out])
        rw [e1]
        exact ⟨ret_int HT.out.2.2.symm, ⟨u, vt, blk_set h1, row_far (by decide) h1 h2, row_far (by decide) h1 h3, Or.inl h4, fun k hk => (by simpa [grow] using h5 k hk), fun k hk => Or.inl (h6 k hk)⟩, hW.set h4⟩
  · have HR := Lib.hid (Hbad.out hE0)
    have hEz : (E == 0) = false := by simpa using hE0
    clear Hbad Hfull Hgood
    go_wp2_with fail
    go_ret
    rw [HR.out]
    exact ⟨rfl, (hh.below hb).weaken (fun k hk => Or.inl hk), Within.of_below hb⟩
end Go.Proofs.YtheemefggkcfbaaDoor
namespace Go.Proofs.YtheemefggkcfbaaDoor
open Go Go.Lib Go.RowKit Go.Shelf
/-! ### what Take and Fix do, plainly -/
def Sp.take (S : Sp) : Sp :=
  if S.can = true then { S with opn := S.opn.drop 1, free := S.free - 1, mark := false, tkn := if S.mark = true then S.tkn else last8 (S.tkn ++ [(S.opn.getD 0 default).1]) } else S
theorem take_none {S : Sp} (h : S.can = false) : S.take = S ∧ S.peek = default := by
  exact ⟨by unfold Sp.take; rw [h]; rfl, by unfold Sp.peek; rw [h]; rfl⟩
theorem take_mark {S : Sp} (h : S.can = true) (h2 : S.mark = true) : S.take = { S with opn := S.opn.drop 1, free := S.free - 1, mark := false } ∧ S.peek = S.opn.getD 0 default := by
  exact ⟨by unfold Sp.take; rw [if_pos h, if_pos h2], by unfold Sp.peek; rw [if_pos h]⟩
theorem take_word {S : Sp} (h : S.can = true) (h2 : S.mark = false) : S.take = { S with opn := S.opn.drop 1, free := S.free - 1, mark := false, tkn := last8 (S.tkn ++ [S.peek.1]) } ∧ S.peek = S.opn.getD 0 default := by
  exact ⟨by unfold Sp.take Sp.peek; rw [if_pos h, if_neg (by simp [h2]), if_pos h], by unfold Sp.peek; rw [if_pos h]⟩
theorem can_len {S : Sp} (h : S.can = true) : 0 < S.opn.length := by
  unfold Sp.can at h
  rcases Nat.eq_zero_or_pos S.opn.length with h0 | h0
  · simp [h0] at h
  · exact h0
def markS : Spk := ([45, 45], false, true)
/-- Fix, its words being known: k words are replaced by L. -/
def Sp.fixIn (S : Sp) (k : Nat) (L : List (List UInt8)) : Sp :=
  { S with opn := S.opn.take (S.opn.length - k) ++ newW (S.opn.getD (S.opn.length - k) default).2.1 (S.opn.getD (S.opn.length - k) default).2.2 L, free := min S.free (S.opn.length - k) }
def Sp.fixOut (S : Sp) (k : Nat) (L : List (List UInt8)) : Sp :=
  { S with opn := (S.opn.take (S.opn.length - S.count) ++ (if S.mark = true then [] else [markS])) ++ newW false true L, mark := true, free := min S.free (S.opn.length - S.count), tkn := S.tkn.take (S.tkn.length - (k - S.count)) }
def Sp.cap (S T : Sp) : Sp × Int := if 400 < T.opn.length then (S, 9) else (T, 0)
def Sp.fix (S : Sp) (n : Int) (l : List UInt8) : Sp × Int :=
  if n < 1 ∨ 8 < n then (S, 2) else if spkE l ≠ 0 then (S, spkE l) else
  if S.count + S.tkn.length < n.toNat then (S, 6) else
  if n.toNat ≤ S.count then S.cap (S.fixIn n.toNat (spkL l)) else S.cap (S.fixOut n.toNat (spkL l))
theorem fix_range {S : Sp} {n : Int} {l : List UInt8} (h : n < 1 ∨ 8 < n) : S.fix n l = (S, 2) := by unfold Sp.fix; rw [if_pos h]
theorem fix_bad {S : Sp} {k : Nat} {l : List UInt8} (h1 : 1 ≤ k) (h8 : k ≤ 8) (h : spkE l ≠ 0) : S.fix (k : Int) l = (S, spkE l) := by unfold Sp.fix; rw [if_neg (by omega), if_pos h]
theorem fix_none {S : Sp} {k : Nat} {l : List UInt8} (h1 : 1 ≤ k) (h8 : k ≤ 8) (h : spkE l = 0) (h2 : S.count + S.tkn.length < k) : S.fix (k : Int) l = (S, 6) := by
  unfold Sp.fix; rw [if_neg (by omega), if_neg (by simpa using h), Int.toNat_natCast, if_pos h2]
theorem fix_in {S : Sp} {k : Nat} {l : List UInt8} (h1 : 1 ≤ k) (h8 : k ≤ 8) (h : spkE l = 0) (h2 : ¬ S.count + S.tkn.length < k) (h3 : k ≤ S.count) : S.fix (k : Int) l = S.cap (S.fixIn k (spkL l)) := by
  unfold Sp.fix; rw [if_neg (by omega), if_neg (by simpa using h), Int.toNat_natCast, if_neg h2, if_pos h3]
theorem fix_out {S : Sp} {k : Nat} {l : List UInt8} (h1 : 1 ≤ k) (h8 : k ≤ 8) (h : spkE l = 0) (h2 : ¬ S.count + S.tkn.length < k) (h3 : ¬ k ≤ S.count) : S.fix (k : Int) l = S.cap (S.fixOut k (spkL l)) := by
  unfold Sp.fix; rw [if_neg (by omega), if_neg (by simpa using h), Int.toNat_natCast, if_neg h2, if_neg h3]
theorem count_le {S : Sp} : S.count ≤ S.opn.length := by unfold Sp.count; split <;> omega
theorem newW_len (bk fx : Bool) (L : List (List UInt8)) : (newW bk fx L).length = L.length := newGo_len bk fx L 0
theorem new_ok {n : Nat} (h : n ≤ 16) : (Sp.new n).ok := ⟨(fun e => by cases e), Nat.le_refl _, by simp [Sp.new], h, by simp [Sp.new]⟩
theorem break_ok {S : Sp} (h : S.ok) : ({ S with brk := true } : Sp).ok := ⟨h.mark, h.free, h.tkn, h.hold, h.len⟩
theorem flush_ok {S : Sp} (h : S.ok) : ({ S with free := S.opn.length } : Sp).ok := ⟨h.mark, Nat.le_refl _, h.tkn, h.hold, h.len⟩
theorem say_ok {S : Sp} (h : S.ok) (l : List UInt8) : (S.say l).1.ok := by
  unfold Sp.say
  split
  · exact h
  · split
    · exact h
    · rename_i h2
      refine ⟨fun e => by have := h.mark e; simp; omega, ?_, h.tkn, h.hold, ?_⟩
      · have := h.free; simp; omega
      · show (S.opn ++ newW S.brk false (spkL l)).length ≤ 400
        rw [List.length_append, newW_len]; omega
theorem last8_len (l : List (List UInt8)) : (last8 l).length ≤ 8 := by unfold last8; rw [List.length_drop]; omega
theorem take_ok {S : Sp} (h : S.ok) : S.take.ok := by
  unfold Sp.take
  split
  · refine ⟨(fun e => by cases e), ?_, ?_, h.hold, ?_⟩
    · have := h.free; show S.free - 1 ≤ (S.opn.drop 1).length; rw [List.length_drop]; omega
    · show (if S.mark = true then S.tkn else last8 (S.tkn ++ [(S.opn.getD 0 default).1])).length ≤ 8
      split
      · exact h.tkn
      · exact last8_len _
    · have := h.len; show (S.opn.drop 1).length ≤ 400; rw [List.length_drop]; omega
  · exact h
theorem cap_ok {S T : Sp} (h : S.ok) (hm : T.mark = true → 0 < T.opn.length) (hf : T.free ≤ T.opn.length) (ht : T.tkn.length ≤ 8) (hh : T.hold ≤ 16) : (S.cap T).1.ok := by
  unfold Sp.cap
  split
  · exact h
  · exact ⟨hm, hf, ht, hh, by show T.opn.length ≤ 400; omega⟩
theorem fixIn_len (S : Sp) (k : Nat) (L : List (List UInt8)) : (S.fixIn k L).opn.length = min (S.opn.length - k) S.opn.length + L.length := by
  show (_ ++ _ : List Spk).length = _
  rw [List.length_append, newW_len, List.length_take]
theorem fixOut_len (S : Sp) (k : Nat) (L : List (List UInt8)) : (S.fixOut k L).opn.length = min (S.opn.length - S.count) S.opn.length + (if S.mark = true then 0 else 1) + L.length := by
  show ((_ ++ _ : List Spk) ++ _).length = _
  rw [List.length_append, List.length_append, newW_len, List.length_take]
  split <;> rfl
theorem fix_ok {S : Sp} (h : S.ok) (n : Int) (l : List UInt8) : (S.fix n l).1.ok := by
  unfold Sp.fix
  split
  · exact h
  split
  · exact h
  split
  · exact h
  have hc := count_le (S := S)
  have hf := h.free
  rename_i h1 h2 h3
  split
  · rename_i h4
    refine cap_ok h (fun e => ?_) ?_ h.tkn h.hold
    · rw [fixIn_len]
      have hm : S.mark = true := e
      have := h.mark hm
      have hc2 : S.count = S.opn.length - 1 := by unfold Sp.count; rw [if_pos hm]
      omega
    · rw [fixIn_len]; show min S.free _ ≤ _; omega
  · refine cap_ok h (fun e => ?_) ?_ ?_ h.hold
    · rw [fixOut_len]
      by_cases hm : S.mark = true
      · have := h.mark hm
        have hc2 : S.count = S.opn.length - 1 := by unfold Sp.count; rw [if_pos hm]
        omega
      · rw [if_neg hm]; omega
    · rw [fixOut_len]; show min S.free _ ≤ _; omega
    · show (S.tkn.take _).length ≤ 8
      rw [List.length_take]; have := h.tkn; omega
end Go.Proofs.YtheemefggkcfbaaDoor
