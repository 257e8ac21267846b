import Derived.Test.YtheemefggkcfbaaDoorT5
namespace Go.Proofs.YtheemefggkcfbaaDoor
open Go Go.Lib Go.RowKit Go.Shelf
set_option maxHeartbeats 1000000 in
theorem sepFn_any (r : Int) (w : World) : Calls Tryd.prog 57 #[.int .i32 r] w fun e w' => e = .returned (.bool (r == 32 || r == 10)) ∧ w = w' := by
  by_cases h1 : r = 32
  · subst h1
    go_enter Tryd.func57, Tryd.ntmps57
    go_wp2
    go_ret
    exact ⟨rfl, rfl⟩
  · have hf : (r == 32) = false := by simpa using h1
    go_enter Tryd.func57, Tryd.ntmps57
    go_wp2
    go_ret
    exact ⟨ret_bool (by simp [hf]), rfl⟩
theorem sep_int (x : Nat) : (((x : Int) == 32) || ((x : Int) == 10)) = sepR x := by
  unfold sepR
  congr 1
  · exact Bool.eq_iff_iff.2 (by simp; omega)
  · exact Bool.eq_iff_iff.2 (by simp; omega)
theorem sepFn_pred (w : World) : PredAt Tryd.prog 57 #[] encR sepR w := by
  intro W x _
  refine (sepFn_any (x : Int) W).mono ?_
  rintro e w' ⟨rfl, rfl⟩
  exact ⟨ret_bool (sep_int x), 0, rfl⟩
theorem enters57 : ∀ args w, (callFunc 57 args).run Tryd.prog w = .ok (.enter 57 args) w := enters_of Tryd.func57 (by kernel_rfl) rfl
theorem fields_any (s : ByteArray) (w : World) (hs : s.size ≤ 4294967296) :
    Calls Tryd.prog 56 #[.string s, .func (.func 57) #[] #[]] w (Made w.heap.size 9 1 (words s.data.toList).length (wcells (words s.data.toList)) w) := by
  refine (Tryd.strings_FieldsFunc 57 #[] enters57 sepR s w hs (sepFn_pred w)).mono ?_
  rintro e w' ⟨A, rfl, _, ho, hb⟩
  rw [goFieldsP_len, goFieldsP_words] at ho
  rw [goFieldsP_len]
  exact ⟨_, rfl, ho, hb⟩
/-- Whether a word is one of a list's. -/
def memW (x : List UInt8) (L : List (List UInt8)) : Bool := L.any (fun y => y == x)
theorem own_at {w : World} {B n : Nat} {a : Option Addr} {m c : Nat} {L : List (List UInt8)} (h : w.ownsRow B 9 1 (.slice a m c) n (wcells L)) (i : Nat) (hi : i < L.length) : ∃ g, a = some ⟨g, 0, none⟩ ∧ g < w.heap.size ∧ w.cell? ⟨g, i, none⟩ = some (strV (L.getD i [])) := by
  rcases h.2 with ⟨e, h0⟩ | ⟨g, cap, cur, e, hB, hh, hcap, hm, hsz, hx⟩
  · have := h.1
    simp [wcells] at this
    omega
  · obtain ⟨rfl, rfl, rfl⟩ : a = some ⟨g, 0, none⟩ ∧ m = n ∧ c = cap := by cases e; exact ⟨rfl, rfl, rfl⟩
    refine ⟨g, rfl, heap_lt hh, ?_⟩
    have h1 := h.1
    simp [wcells] at h1
    have hc : w.cell? ⟨g, i, none⟩ = cur[i]? := by
      unfold World.cell?; rw [hh]; simp
    rw [hc]
    have e2 : cur[i]? = (cur.toList.take (m * 1))[i]? := by
      rw [List.getElem?_take_of_lt (by omega)]; simp
    rw [e2, hx]
    simp [wcells, List.getElem?_map, List.getD, List.getElem?_eq_getElem hi]
theorem memW_step (x : List UInt8) (L : List (List UInt8)) (i : Nat) (hi : i < L.length) : memW x (L.drop i) = ((L.getD i [] == x) || memW x (L.drop (i + 1))) := by
  unfold memW
  rw [List.drop_eq_getElem_cons hi, List.any_cons, List.getD_eq_getElem?_getD, List.getElem?_eq_getElem hi]
  rfl
def ba (l : List UInt8) : ByteArray := ⟨l.toArray⟩
theorem ba_list (l : List UInt8) : (ba l).toList = l := by rw [toList_data]; rfl
theorem ba_size (l : List UInt8) : (ba l).size = l.length := by rw [size_eq]; rfl
theorem strV_ba (l : List UInt8) : strV l = .string (ba l) := rfl

theorem words_len (s : ByteArray) : (words s.data.toList).length ≤ s.size + 1 := by
  have := wordsGo_len s.data.toList []
  rw [← size_eq] at this
  exact this
set_option maxHeartbeats 4000000 in
set_option maxRecDepth 100000 in
theorem ramong_any (lst s : ByteArray) (w : World) (hs : lst.size ≤ 1099511627776) :
    Calls Tryd.prog 64 #[.string lst, .string s] w fun e w' => e = .returned (.bool (memW s.data.toList (words lst.data.toList))) ∧ Below w.heap.size w w' := by
  have c := rwords_any lst w hs
  have hsl : s.toList = s.data.toList := toList_data s
  have hLl := words_len lst
  generalize words lst.data.toList = L at *
  generalize s.data.toList = x at *
  obtain ⟨Z, hZ⟩ : ∃ Z, memW x L = Z := ⟨_, rfl⟩
  rw [hZ]
  go_enter Tryd.func64, Tryd.ntmps64
  go_wp2_with (refine c.mono ?_; rintro e w1 ⟨v, rfl, ho, hb⟩; obtain ⟨a, cp, rfl⟩ := own_len ho)
  go_loop [10] (fun v => ∃ i : Nat, v = .int .i64 i ∧ i ≤ L.length ∧ memW x (L.drop i) = Z) (fun v => L.length - (intOf v).toNat)
  case atStart => exact ⟨0, rfl, Nat.zero_le _, hZ⟩
  case round =>
    clear hZ
    obtain ⟨i, rfl, hi, hZ⟩ := hrel
    by_cases hlt : i < L.length
    · have hz : (i : Int) < (L.length : Int) := by omega
      obtain ⟨g, rfl, hg, hc⟩ := own_at ho i hlt
      rw [memW_step x L i hlt] at hZ
      rw [strV_ba] at hc
      have hq : ((ba (L.getD i [])).toList == s.toList) = (L.getD i [] == x) := by rw [ba_list, hsl]
      cases hyx : (L.getD i [] == x)
      · rw [hyx] at hq hZ
        rw [Bool.false_or] at hZ
        clear hyx hsl
        generalize ba (L.getD i []) = Y at *
        go_wp2_with fail
        go_round
        case rel => exact ⟨i + 1, by go_num, by omega, hZ⟩
        case measure => simp [intOf]; omega
      · rw [hyx] at hq hZ
        rw [Bool.true_or] at hZ
        subst hZ
        clear hyx hsl
        generalize ba (L.getD i []) = Y at *
        go_wp2_with fail
        go_ret
        exact ⟨rfl, hb⟩
    · obtain rfl : i = L.length := by omega
      rw [List.drop_length] at hZ
      have hz : ¬ (L.length : Int) < (L.length : Int) := by omega
      go_wp2_with fail
      go_ret
      exact ⟨ret_bool hZ, hb⟩

theorem own_made (w : World) (xs : List ByteArray) (h : xs.length ≤ maxLen) : (w.alloc (.cells (xs.map Value.string).toArray 9)).ownsRow w.heap.size 9 1 (.slice (some ⟨w.heap.size, 0, none⟩) xs.length xs.length) xs.length (wcells (xs.map (·.data.toList))) := by
  have h1 := World.ownsRow_lit (base := w.heap.size) (e := 9) (size := 1) w (xs.map Value.string).toArray xs.length (Nat.le_refl _) h (by simp)
  have e : (xs.map Value.string).toArray.toList = wcells (xs.map (·.data.toList)) := by
    unfold wcells; rw [List.map_map]; rfl
  rw [← e]; exact h1
/-- strings.Split of a list at its spaces. -/
theorem split_any (lst : ByteArray) (L : List (List UInt8)) (w : World) (hE : Env w) (hs : lst.size < 4294967281) (hn : (Lib.splitB ⟨#[32]⟩ 0 (Lib.countB lst ⟨#[32]⟩) lst).length = Lib.countB lst ⟨#[32]⟩ + 1) (hm : Lib.countB lst ⟨#[32]⟩ + 1 ≤ maxLen) (hL : (Lib.splitB ⟨#[32]⟩ 0 (Lib.countB lst ⟨#[32]⟩) lst).map (·.data.toList) = L) :
    Calls Tryd.prog 69 #[.string lst, .string ⟨#[32]⟩] w (Made w.heap.size 9 1 L.length (wcells L) w) := by
  obtain ⟨m, hm0⟩ := hE.maxl
  refine (Tryd.strings_Split lst ⟨#[32]⟩ m w hs hm0 (by decide)).mono ?_
  rintro e w' ⟨rfl, rfl⟩
  have h := own_made w (Lib.splitB ⟨#[32]⟩ 0 (Lib.countB lst ⟨#[32]⟩) lst) (by rw [hn]; exact hm)
  rw [hn, hL] at h
  have hl : L.length = Lib.countB lst ⟨#[32]⟩ + 1 := by rw [← hL, List.length_map, hn]
  rw [hl]
  exact ⟨_, rfl, h, below1 _ (Nat.le_refl _)⟩
set_option maxHeartbeats 4000000 in
set_option maxRecDepth 100000 in
theorem among_any (lst s : ByteArray) (L : List (List UInt8)) (w : World) (hLl : L.length ≤ 1000)
    (c : Calls Tryd.prog 69 #[.string lst, .string ⟨#[32]⟩] w (Made w.heap.size 9 1 L.length (wcells L) w)) :
    Calls Tryd.prog 62 #[.string s, .string lst] w fun e w' => e = .returned (.bool (memW s.data.toList L)) ∧ Below w.heap.size w w' := by
  have hsl : s.toList = s.data.toList := toList_data s
  generalize s.data.toList = x at *
  obtain ⟨Z, hZ⟩ : ∃ Z, memW x L = Z := ⟨_, rfl⟩
  rw [hZ]
  go_enter Tryd.func62, Tryd.ntmps62
  go_wp2_with (refine c.mono ?_; rintro e w1 ⟨v, rfl, ho, hb⟩; obtain ⟨a, cp, rfl⟩ := own_len ho)
  go_loop [10] (fun v => ∃ i : Nat, v = .int .i64 i ∧ i ≤ L.length ∧ memW x (L.drop i) = Z) (fun v => L.length - (intOf v).toNat)
  case atStart => exact ⟨0, rfl, Nat.zero_le _, hZ⟩
  case round =>
    clear hZ
    obtain ⟨i, rfl, hi, hZ⟩ := hrel
    by_cases hlt : i < L.length
    · have hz : (i : Int) < (L.length : Int) := by omega
      obtain ⟨g, rfl, hg, hc⟩ := own_at ho i hlt
      rw [memW_step x L i hlt] at hZ
      rw [strV_ba] at hc
      have hq : ((ba (L.getD i [])).toList == s.toList) = (L.getD i [] == x) := by rw [ba_list, hsl]
      cases hyx : (L.getD i [] == x)
      · rw [hyx] at hq hZ
        rw [Bool.false_or] at hZ
        clear hyx hsl
        generalize ba (L.getD i []) = Y at *
        go_wp2_with fail
        go_round
        case rel => exact ⟨i + 1, by go_num, by omega, hZ⟩
        case measure => simp [intOf]; omega
      · rw [hyx] at hq hZ
        rw [Bool.true_or] at hZ
        subst hZ
        clear hyx hsl
        generalize ba (L.getD i []) = Y at *
        go_wp2_with fail
        go_ret
        exact ⟨rfl, hb⟩
    · obtain rfl : i = L.length := by omega
      rw [List.drop_length] at hZ
      have hz : ¬ (L.length : Int) < (L.length : Int) := by omega
      go_wp2_with fail
      go_ret
      exact ⟨ret_bool hZ, hb⟩
end Go.Proofs.YtheemefggkcfbaaDoor
