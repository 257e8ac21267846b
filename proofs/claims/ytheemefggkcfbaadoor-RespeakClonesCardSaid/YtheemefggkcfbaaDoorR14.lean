import Derived.Test.YtheemefggkcfbaaDoorR13
import Derived.Lib.OwnBridge
namespace Go.Proofs.YtheemefggkcfbaaDoor
open Go Go.Lib Go.RowKit Go.Shelf Go.Sort
/-! ### the words of a text -/
def firstE : List (List UInt8) → Int
  | [] => 0
  | x :: t => if wordE x = 0 then firstE t else wordE x
def spkE (l : List UInt8) : Int := if spW l = [] then 1 else firstE (spW l)
def spkL (l : List UInt8) : List (List UInt8) := if spkE l = 0 then spW l else []
theorem firstE_drop (L : List (List UInt8)) (i : Nat) (h : i < L.length) : firstE (L.drop i) = if wordE (L.getD i []) = 0 then firstE (L.drop (i + 1)) else wordE (L.getD i []) := by
  rw [List.drop_eq_getElem_cons h, List.getD_eq_getElem?_getD, List.getElem?_eq_getElem h]; rfl
theorem spGo_len : ∀ (t cur : List UInt8), (spGo cur t).length ≤ t.length + 1
  | [], cur => by unfold spGo; split <;> simp
  | b :: t, cur => by
    rw [spGo_cons]
    split
    · rw [List.length_append]
      have := spGo_len t []
      have h2 : (if cur = [] then ([] : List (List UInt8)) else [cur]).length ≤ 1 := by split <;> simp
      simp; omega
    · have := spGo_len t (cur ++ [b])
      simp; omega
theorem spW_len (l : List UInt8) : (spW l).length ≤ l.length + 1 := spGo_len l []
theorem spGo_mem : ∀ (t cur x : List UInt8), x ∈ spGo cur t → x.length ≤ cur.length + t.length
  | [], cur, x, h => by
    unfold spGo at h
    split at h
    · simp at h
    · obtain rfl : x = cur := by simpa using h
      simp
  | b :: t, cur, x, h => by
    rw [spGo_cons] at h
    split at h
    · rw [List.mem_append] at h
      rcases h with h | h
      · split at h
        · simp at h
        · obtain rfl : x = cur := by simpa using h
          simp
      · have := spGo_mem t [] x h
        simp at *; omega
    · have := spGo_mem t (cur ++ [b]) x h
      simp at *; omega
theorem spW_getD_len (l : List UInt8) (i : Nat) : ((spW l).getD i []).length ≤ l.length := by
  by_cases h : i < (spW l).length
  · have := spGo_mem l [] ((spW l).getD i []) (by
      rw [List.getD_eq_getElem?_getD, List.getElem?_eq_getElem h]; exact List.getElem_mem h)
    simpa using this
  · rw [List.getD_eq_getElem?_getD, List.getElem?_eq_none (by omega)]; simp
set_option maxHeartbeats 1000000 in
theorem isNone_any (s : ByteArray) (w : World) : Calls Tryd.prog 70 #[.string s] w fun e w' => e = .returned (.bool s.data.toList.isEmpty) ∧ w' = w := by
  obtain ⟨he1, he2⟩ := empty_str s
  rw [← he2]
  clear he1 he2
  go_enter Tryd.func70, Tryd.ntmps70
  go_wp2_with fail
  go_ret
  exact ⟨ret_bool (by cases s.toList <;> rfl), rfl⟩
theorem enters70 : ∀ args w, (callFunc 70 args).run Tryd.prog w = .ok (.enter 70 args) w := enters_of Tryd.func70 (by kernel_rfl) rfl
theorem isNone_gives (W : World) (x : List UInt8) : FnGives Tryd.prog 70 #[] #[strV x] (.bool x.isEmpty) W := by
  refine (isNone_any (ba x) W).mono ?_
  rintro e w' ⟨rfl, rfl⟩
  exact ⟨rfl, 0, rfl⟩
/-- slices.DeleteFunc of the pieces: the words. -/
theorem delete_any (L : List (List UInt8)) (w : World) (v : Value) (B : Nat) (hv : v ≠ .slice none 0 0) (ho : w.ownsRow B 9 1 v L.length (wcells L)) (hL : L.length ≤ maxLen) :
    Calls Tryd.prog 68 #[v, .func (.func 70) #[] #[]] w fun e w' => ∃ v', e = .returned v' ∧ w'.ownsRow B 9 1 v' (L.filter (fun x => !x.isEmpty)).length (wcells (L.filter (fun x => !x.isEmpty))) ∧ Below B w w' := by
  obtain ⟨g, cap, rfl, hg, hlt, hn, hm, hlen, hH⟩ := holds_of_ownsRow (enc := strV) (zs := L) ho hv
  have c := Tryd.slices_DeleteFunc strV (fun _ => rfl) List.isEmpty 70 #[] enters70 [] (fun w => Tryd.zeroValue9 w) g 0 cap L.toArray w (fun W x _ => isNone_gives W x) (fun n os dk x _ => isNone_gives _ x) hH (by simpa [maxLen] using hL) (by simpa using hn)
  refine c.mono ?_
  rintro e w' ⟨rfl, q, rfl⟩
  have hfl : (L.filter (fun x => !x.isEmpty)).length ≤ L.length := List.length_filter_le _ _
  refine ⟨_, rfl, ?_, below_putRow (Below.refl _ _) hg⟩
  have := ownsRow_putRow (enc := strV) (zs := L) (q := q) (k := (L.filter (fun x => !x.isEmpty)).length) (ys := L.filter (fun x => !x.isEmpty) ++ List.replicate (L.length - (L.filter (fun x => !x.isEmpty)).length) []) ho (by simp; omega) hfl
  rw [List.take_left'] at this
  · exact this
  · rfl
end Go.Proofs.YtheemefggkcfbaaDoor
