import Derived.Test.YtgiaohccebolpaaGreatDoorQ13
import Derived.Shelf.Strings.BuilderK
namespace Go.Proofs.YtgiaohccebolpaaGreatDoor
open Go Go.RowKit
open Go.Lib hiding intOf
set_option linter.unusedVariables false
/-! ### subrip.Markup -/
def uT (l : List UInt8) : List UInt8 := [60, 117, 62] ++ l ++ [60, 47, 117, 62]
def iT (l : List UInt8) : List UInt8 := [60, 105, 62] ++ l ++ [60, 47, 105, 62]
def runM (x : Rn) : List UInt8 := if x.i = true then iT (if x.u = true then uT x.t else x.t) else (if x.u = true then uT x.t else x.t)
def mkL (L : Rw) : List UInt8 := L.flatMap runM
def mkR (L : Rw) : List UInt8 := mkL (carR L)
def markE (L : Rw) : Int := if scE L = 0 then (if (plainR L).any tagB = true then 10 else 0) else scE L
theorem mkL_snoc (a : Rw) (x : Rn) : mkL (a ++ [x]) = mkL a ++ runM x := by simp [mkL]
theorem runM_len (x : Rn) : (runM x).length ≤ x.t.length + 14 := by
  unfold runM uT iT
  split <;> split <;> simp <;> omega
theorem mkL_len : ∀ L : Rw, (mkL L).length ≤ tot L + 14 * L.length
  | [] => by simp [mkL, tot]
  | x :: L => by
    have h := mkL_len L
    have h2 := runM_len x
    simp [mkL, tot] at h ⊢
    omega
theorem ba_uT (l : List UInt8) : ba (uT l) = ⟨#[60, 117, 62]⟩ ++ ba l ++ ⟨#[60, 47, 117, 62]⟩ := by
  show _ = ba [60, 117, 62] ++ ba l ++ ba [60, 47, 117, 62]
  rw [ba_app, ba_app]; rfl
theorem ba_iT (l : List UInt8) : ba (iT l) = ⟨#[60, 105, 62]⟩ ++ ba l ++ ⟨#[60, 47, 105, 62]⟩ := by
  show _ = ba [60, 105, 62] ++ ba l ++ ba [60, 47, 105, 62]
  rw [ba_app, ba_app]; rfl
theorem scE_valid {L : Rw} (h : scE L = 0) : L.length ≤ 16 ∧ validC (plainR L) = true := by
  unfold scE at h
  split at h
  · cases h
  · refine ⟨by omega, ?_⟩
    have h0 := (fnz_zero _ _ _).1 h
    have hall : ∀ x ∈ L, validC x.t = true := by
      intro x hx
      obtain ⟨j, hj, rfl⟩ := List.getElem_of_mem hx
      have h1 := h0 j (Nat.zero_le _) (by omega)
      rw [scS_def, getD_of hj] at h1
      by_cases hv : validC (L[j]).t = true
      · exact hv
      · rw [if_pos (by simpa using hv)] at h1; cases h1
    clear h h0
    induction L with
    | nil => rfl
    | cons x L ih =>
      show validC (x.t ++ plainR L) = true
      rw [valid_app (hall x List.mem_cons_self)]
      exact ih (by simp at *; omega) (fun y hy => hall y (List.mem_cons_of_mem _ hy))
theorem nstep_len (d : Rw) (x : Rn) : (nstep d x).length ≤ d.length + 1 := by
  rw [nstep_def]
  split
  · omega
  · split
    · simp
    · simp
theorem nstep_tot (d : Rw) (x : Rn) : tot (nstep d x) = tot d + x.t.length := by
  rw [nstep_def]
  split
  · rename_i h; rw [h]; simp
  · split
    · rename_i h; exact tot_last d h.1 x.t
    · rw [tot_app]; simp [tot]
theorem foldn_len : ∀ (L d : Rw), (L.foldl nstep d).length ≤ d.length + L.length
  | [], d => by simp
  | x :: L, d => by
    have h := foldn_len L (nstep d x)
    have h2 := nstep_len d x
    rw [List.foldl_cons, List.length_cons]; omega
theorem foldn_tot : ∀ (L d : Rw), tot (L.foldl nstep d) = tot d + tot L
  | [], d => by simp [tot]
  | x :: L, d => by
    rw [List.foldl_cons, foldn_tot L (nstep d x), nstep_tot]
    simp [tot]; omega
theorem carR_len (L : Rw) : (carR L).length ≤ L.length := by
  have h := foldn_len (carL L) []
  rw [carL_len] at h
  simpa [carR, normR] using h
theorem carR_tot (L : Rw) : tot (carR L) = tot L := by
  have h := foldn_tot (carL L) []
  rw [tot_car] at h
  simpa [carR, normR, tot] using h
theorem isbF_stays {T e : TypeId} {B b : Nat} {bs : List Value} {w w' : World} (h : Lib.IsBuilderF T e B b bs w) (hb : Below w.heap.size w w') : Lib.IsBuilderF T e B b bs w' := by
  have k : ∀ p, Lib.BuilderAtF T e B b p bs w → Lib.BuilderAtF T e B b p bs w' := by
    rintro p ⟨h1, v, h2, h3, h4⟩
    exact ⟨h1, v, blk_stay h2 hb, h3.kept (grown_of (r := none) hb) (by cases v.ownBlock <;> simp), h4⟩
  exact h.elim (fun x => .inl (k _ x)) (fun x => .inr (k _ x))
theorem isbF_snoc {B b : Nat} {l : List UInt8} {s : List UInt8} {w : World} (h : Lib.BuilderAtF 77 5 B b (.pointer (some ⟨b, 0, none⟩)) (Lib.byteCells l ++ Lib.strCells (ba s)) w) : Lib.IsBuilderF 77 5 B b (Lib.byteCells (l ++ s)) w := by
  rw [Lib.byteCells_append]; exact Or.inr h
theorem isbF_new (w : World) : Lib.IsBuilderF 77 5 w.heap.size w.heap.size (Lib.byteCells []) (w.alloc (.cells #[.pointer none, .slice none 0 0] 77)) := Lib.IsBuilderF.of (isb_new w)
/-- A row that another builder's growth leaves alone. -/
theorem own_oth {w w' : World} {B b E s n : Nat} {v : Value} {xs : List Value} (h : w.ownsRow B E s v n xs) (hk : Lib.OthersKept 5 (some b) w w') (hE : E ≠ 5) (hB : b < B) : w'.ownsRow B E s v n xs := by
  refine ⟨h.1, ?_⟩
  rcases h.2 with h | ⟨g, c, cur, hv, hgb, hgg, rest⟩
  · exact Or.inl h
  · exact Or.inr ⟨g, c, cur, hv, hgb, hk g _ hgg (by intro e; injection e with e; omega) (by intro c' fz e; injection e with _ e; exact hE e), rest⟩
theorem write_any (B b : Nat) (l s : List UInt8) (w : World) (h : Lib.IsBuilderF 77 5 B b (Lib.byteCells l) w) (hlen : l.length + s.length ≤ 140737488355328) (hB : B ≤ w.heap.size) :
    Calls Tryz.prog 26 #[.pointer (some ⟨b, 0, none⟩), .string (ba s)] w fun e w' => e = .returned (.tuple #[.int .i64 (ba s).size, .nilIface]) ∧ Lib.IsBuilderF 77 5 B b (Lib.byteCells (l ++ s)) w' ∧ Below B w w' ∧ Lib.OthersKept 5 (some b) w w' :=
  (Any.Builder_WriteString_k Tryz.lays166b Tryz.Builder_Extra_156 B b (Lib.byteCells l) (ba s) w h (by rw [Lib.byteCells_length, ba_size]; exact hlen) hB).mono fun e w' ⟨h1, h2, h3, h4⟩ => ⟨h1, isbF_snoc h2, h3, h4⟩
theorem string_any (B b : Nat) (l : List UInt8) (w : World) (h : Lib.IsBuilderF 77 5 B b (Lib.byteCells l) w) (hB : B ≤ w.heap.size) :
    Calls Tryz.prog 28 #[.pointer (some ⟨b, 0, none⟩)] w fun e w' => e = .returned (.string (ba l)) ∧ Below B w w' :=
  (Any.Builder_String_any_k Tryz.lays169 Tryz.Builder_Extra_169 B b l w h hB).mono fun e w' ⟨h1, h2, h3, h4⟩ => ⟨h1, h3⟩
theorem fldr (w : World) (a0 : Value) (h : a0.oneCell' = true) : (Instr.field 71 (.agg #[a0]) 0).run Tryz.prog w = .ok a0 w := by
  cases a0 <;> first | kernel_rfl | simp_all [Value.oneCell']
set_option maxHeartbeats 16000000 in
set_option maxRecDepth 100000 in
theorem markup_any (v : Value) (L : Rw) (w : World) (hR : RunsR w v L) (hf : ∀ r ∈ L, r.fit) (hn : L.length ≤ 1048576) (hT : tot L ≤ 1048576) (hE : Env w) :
    Calls Tryz.prog 54 #[.agg #[v]] w fun e w' => e = .returned (.tuple #[.string (if markE L = 0 then ba (mkR L) else ⟨#[]⟩), .int .i64 (markE L)]) ∧ Below w.heap.size w w' := by
  obtain ⟨a, c, rfl⟩ := RowR.len hR
  have cS := fun w' h hE => scheck_any (.slice a L.length c) L w' h hf hn hE
  have cP := fun w' h => plain_any (.slice a L.length c) L w' h hn hT
  have cC := fun w' h => carried_any (.slice a L.length c) L w' h hn hT
  have HR := Lib.hid hR
  have HS := Lib.hid (take_succ (carR L))
  by_cases hs : scE L = 0
  case neg =>
    have hm : markE L = scE L := by unfold markE; rw [if_neg hs]
    rw [hm, if_neg hs]
    clear hm hf hT hR
    generalize scE L = Z at *
    have hz : (Z == 0) = false := by simpa using hs
    clear hs
    go_enter Tryz.func54, Tryz.ntmps54
    go_wp2_with fail
    refine (cS _ (HR.out.below (below1 _ (Nat.le_refl _))) (hE.below (below1 _ (Nat.le_refl _)))).mono ?_
    rintro e w1 ⟨rfl, hb⟩
    have hb1 := (below1 (.cells #[.slice a L.length c] 71) (Nat.le_refl w.heap.size)).trans (hb.mono (by simp))
    go_wp2_with fail
    go_ret2
    exact ⟨rfl, hb1⟩
  obtain ⟨h16, hvp⟩ := scE_valid hs
  have hpl : (plainR L).length ≤ 1048576 := by rw [plainR_len]; exact hT
  have cA := fun w' => contains_any (ba (plainR L)) hvp (by rw [ba_size]; omega) w'
  rw [ba_data] at cA
  have hm : markE L = if (plainR L).any tagB = true then 10 else 0 := by unfold markE; rw [if_pos hs]
  rw [hm]
  rw [hs] at cS
  clear hm hs hvp hf hR
  cases ht : (plainR L).any tagB
  case true =>
    rw [ht] at cA
    have e1 : (if true = true then (10 : Int) else 0) = 10 := rfl
    rw [e1, if_neg (by omega)]
    clear ht e1
    go_enter Tryz.func54, Tryz.ntmps54
    go_wp2_with fail
    refine (cS _ (HR.out.below (below1 _ (Nat.le_refl _))) (hE.below (below1 _ (Nat.le_refl _)))).mono ?_
    rintro e w1 ⟨rfl, hb⟩
    have hB1 := blk_stay (heap_alloc_new w (.cells #[.slice a L.length c] 71)) hb
    have hb1 := (below1 (.cells #[.slice a L.length c] 71) (Nat.le_refl w.heap.size)).trans (hb.mono (by simp))
    clear hb
    obtain ⟨k0, kf, _⟩ := blk1 hB1
    go_wp2_with fail
    refine (cP _ (HR.out.below hb1)).mono ?_
    rintro e w2 ⟨rfl, hb2⟩
    go_wp2_with fail
    refine (cA _).mono ?_
    rintro e w3 ⟨rfl, hb3⟩
    go_wp2_with fail
    go_ret2
    exact ⟨rfl, below_trans (below_trans hb1 hb2) hb3⟩
  rw [ht] at cA
  have e1 : (if false = true then (10 : Int) else 0) = 0 := rfl
  rw [e1, if_pos rfl]
  clear ht e1
  have hCl := Nat.le_trans (carR_len L) h16
  have hCt : tot (carR L) ≤ 1048576 := by rw [carR_tot]; exact hT
  have hmk : mkR L = mkL (carR L) := rfl
  rw [hmk]
  clear hmk
  generalize carR L = C at *
  go_enter Tryz.func54, Tryz.ntmps54
  go_wp2_with fail
  refine (cS _ (HR.out.below (below1 _ (Nat.le_refl _))) (hE.below (below1 _ (Nat.le_refl _)))).mono ?_
  rintro e w1 ⟨rfl, hb⟩
  have hB1 := blk_stay (heap_alloc_new w (.cells #[.slice a L.length c] 71)) hb
  have hb1 := (below1 (.cells #[.slice a L.length c] 71) (Nat.le_refl w.heap.size)).trans (hb.mono (by simp))
  clear hb
  obtain ⟨k0, kf, _⟩ := blk1 hB1
  go_wp2_with fail
  refine (cP _ (HR.out.below hb1)).mono ?_
  rintro e w2 ⟨rfl, hb2⟩
  go_wp2_with fail
  refine (cA _).mono ?_
  rintro e w3 ⟨rfl, hb3⟩
  have hB3 := blk_stay (blk_stay hB1 hb2) hb3
  have HB3 := Lib.hid (below_trans (below_trans hb1 hb2) hb3)
  clear hB1 hb1 hb2 hb3 k0 kf
  have hB4 := blk_stay hB3 (below1 (.cells #[.pointer none, .slice none 0 0] 77) (Nat.le_refl _))
  obtain ⟨k0, kf, _⟩ := blk1 hB4
  have HI0 := Lib.hid (isbF_new w3)
  go_wp2_with fail
  refine (cC _ ((HR.out.below HB3.out).below (below1 _ (Nat.le_refl _)))).mono ?_
  rintro e w4 ⟨va, rfl, ho, hb4⟩
  obtain ⟨ac, cc, rfl⟩ := own_len ho
  have hfd := fun w => fldr w (.slice ac C.length cc) rfl
  have HI4 := Lib.hid (isbF_stays HI0.out hb4)
  have HC := Lib.hid ho
  have HB4 := Lib.hid (below_trans (HB3.out.alloc HB3.out.size (.cells #[.pointer none, .slice none 0 0] 77)) hb4)
  have hz4 : w3.heap.size ≤ w4.heap.size := by have := hb4.size; simp at this; omega
  have hz3 := HB3.out.size
  clear ho hb4 cS cP cC cA HI0 HB3 k0 kf hB3 hB4
  go_wp2_with fail
  go_loopw [21] (fun v wx => ∃ i : Nat, v = .int .i64 i ∧ i ≤ C.length ∧ Hid (Lib.IsBuilderF 77 5 w3.heap.size w3.heap.size (Lib.byteCells (mkL (C.take i))) wx) ∧ Hid (Below w.heap.size w wx) ∧ Hid (wx.ownsRow (w3.alloc (.cells #[.pointer none, .slice none 0 0] 77)).heap.size 111 5 (.slice ac C.length cc) C.length (encL Rn.cells C)) ∧ w3.heap.size ≤ wx.heap.size) (fun v _ => C.length - (intOf v).toNat)
  case atStart => exact ⟨0, rfl, Nat.zero_le _, HI4, HB4, HC, hz4⟩
  case round =>
    clear HI4 HB4 HC hz4
    obtain ⟨i, rfl, hil, HI, HB, HC, hz4⟩ := hrel
    by_cases hlt : i < C.length
    · have hiz : (i : Int) < (C.length : Int) := by omega
      have hR : RunsR wr (.slice ac C.length cc) C := RowR.of_own HC.out
      obtain ⟨g, off, rfl, hg, _⟩ := hR.addr (by omega)
      obtain ⟨c0, c1, c2, c3, c4⟩ := RunsR.at hR rfl i hlt
      have hl1 := mkL_len (C.take i)
      have hl2 := tot_take C (i + 1)
      rw [HS.out i hlt, tot_app] at hl2
      have hl3 : tot [C.getD i default] = (C.getD i default).t.length := by simp [tot]
      rw [hl3] at hl2
      have hl4 : (C.take i).length ≤ 16 := by rw [List.length_take]; omega
      have hrl := runM_len (C.getD i default)
      have cW := fun w' h hb => write_any w3.heap.size w3.heap.size (mkL (C.take i)) (runM (C.getD i default)) w' h (by omega) hb
      have HP : Hid (mkL (C.take i) ++ runM (C.getD i default) = mkL (C.take (i + 1))) := Lib.hid (by rw [HS.out i hlt, mkL_snoc])
      have hT1 : (ba (C.getD i default).t).size ≤ 1048576 := by rw [ba_size]; omega
      clear hR hl1 hl2 hl3 hl4 hrl
      generalize C.getD i default = X at *
      have o1 : ¬ ((⟨#[60, 117, 62]⟩ : ByteArray).size + (ba X.t).size > 9223372036854775807) := by
        have : (⟨#[60, 117, 62]⟩ : ByteArray).size = 3 := rfl
        omega
      have o2 : ¬ ((⟨#[60, 117, 62]⟩ ++ ba X.t).size + (⟨#[60, 47, 117, 62]⟩ : ByteArray).size > 9223372036854775807) := by
        have e1 : (⟨#[60, 117, 62]⟩ : ByteArray).size = 3 := rfl
        have e2 : (⟨#[60, 47, 117, 62]⟩ : ByteArray).size = 4 := rfl
        rw [ByteArray.size_append]; omega
      have o3 : ¬ ((⟨#[60, 105, 62]⟩ : ByteArray).size + (ba X.t).size > 9223372036854775807) := by
        have : (⟨#[60, 105, 62]⟩ : ByteArray).size = 3 := rfl
        omega
      have o4 : ¬ ((⟨#[60, 105, 62]⟩ ++ ba X.t).size + (⟨#[60, 47, 105, 62]⟩ : ByteArray).size > 9223372036854775807) := by
        have e1 : (⟨#[60, 105, 62]⟩ : ByteArray).size = 3 := rfl
        have e2 : (⟨#[60, 47, 105, 62]⟩ : ByteArray).size = 4 := rfl
        rw [ByteArray.size_append]; omega
      have o5 : ¬ ((⟨#[60, 105, 62]⟩ : ByteArray).size + (⟨#[60, 117, 62]⟩ ++ ba X.t ++ ⟨#[60, 47, 117, 62]⟩).size > 9223372036854775807) := by
        have e1 : (⟨#[60, 105, 62]⟩ : ByteArray).size = 3 := rfl
        have e2 : (⟨#[60, 117, 62]⟩ : ByteArray).size = 3 := rfl
        have e3 : (⟨#[60, 47, 117, 62]⟩ : ByteArray).size = 4 := rfl
        rw [ByteArray.size_append, ByteArray.size_append]; omega
      have o6 : ¬ ((⟨#[60, 105, 62]⟩ ++ (⟨#[60, 117, 62]⟩ ++ ba X.t ++ ⟨#[60, 47, 117, 62]⟩)).size + (⟨#[60, 47, 105, 62]⟩ : ByteArray).size > 9223372036854775807) := by
        have e1 : (⟨#[60, 105, 62]⟩ : ByteArray).size = 3 := rfl
        have e2 : (⟨#[60, 117, 62]⟩ : ByteArray).size = 3 := rfl
        have e3 : (⟨#[60, 47, 117, 62]⟩ : ByteArray).size = 4 := rfl
        have e4 : (⟨#[60, 47, 105, 62]⟩ : ByteArray).size = 4 := rfl
        rw [ByteArray.size_append, ByteArray.size_append, ByteArray.size_append]; omega
      clear hT1
      rcases X with ⟨xt, xc, xi, xu, xr⟩
      dsimp only at o1 o2 o3 o4 o5 o6
      cases xi <;> cases xu
      · have hr : ba (runM ⟨xt, xc, false, false, xr⟩) = ba xt := by
          show ba (xt) = _
          rfl
        rw [hr] at cW
        clear hr
        go_wp2_with fail
        refine (cW _ (isbF_stays HI.out (below1 _ (Nat.le_refl _))) (by simp; omega)).mono ?_
        rintro e w5 ⟨rfl, hI5, hb5, ho5⟩
        rw [HP.out] at hI5
        have HI5 := Lib.hid hI5
        have HB5 := Lib.hid ((HB.out.alloc HB.out.size _).trans (hb5.mono hz3))
        have HC5 := Lib.hid (own_oth (own_stays HC.out (below1 _ (Nat.le_refl _))) ho5 (by decide) (by simp))
        have hz5 : w3.heap.size ≤ w5.heap.size := by have := hb5.size; simp at this; omega
        clear hI5 hb5 ho5
        go_wp2_with fail
        go_roundw
        case rel => exact ⟨i + 1, by go_num, by omega, HI5, HB5, HC5, hz5⟩
        case measure => simp [intOf]; omega
      · have hr : ba (runM ⟨xt, xc, false, true, xr⟩) = ⟨#[60, 117, 62]⟩ ++ ba xt ++ ⟨#[60, 47, 117, 62]⟩ := by
          show ba (uT xt) = _
          rw [ba_uT]
        rw [hr] at cW
        clear hr
        go_wp2_with fail
        refine (cW _ (isbF_stays HI.out (below1 _ (Nat.le_refl _))) (by simp; omega)).mono ?_
        rintro e w5 ⟨rfl, hI5, hb5, ho5⟩
        rw [HP.out] at hI5
        have HI5 := Lib.hid hI5
        have HB5 := Lib.hid ((HB.out.alloc HB.out.size _).trans (hb5.mono hz3))
        have HC5 := Lib.hid (own_oth (own_stays HC.out (below1 _ (Nat.le_refl _))) ho5 (by decide) (by simp))
        have hz5 : w3.heap.size ≤ w5.heap.size := by have := hb5.size; simp at this; omega
        clear hI5 hb5 ho5
        go_wp2_with fail
        go_roundw
        case rel => exact ⟨i + 1, by go_num, by omega, HI5, HB5, HC5, hz5⟩
        case measure => simp [intOf]; omega
      · have hr : ba (runM ⟨xt, xc, true, false, xr⟩) = ⟨#[60, 105, 62]⟩ ++ ba xt ++ ⟨#[60, 47, 105, 62]⟩ := by
          show ba (iT (xt)) = _
          rw [ba_iT]
        rw [hr] at cW
        clear hr
        go_wp2_with fail
        refine (cW _ (isbF_stays HI.out (below1 _ (Nat.le_refl _))) (by simp; omega)).mono ?_
        rintro e w5 ⟨rfl, hI5, hb5, ho5⟩
        rw [HP.out] at hI5
        have HI5 := Lib.hid hI5
        have HB5 := Lib.hid ((HB.out.alloc HB.out.size _).trans (hb5.mono hz3))
        have HC5 := Lib.hid (own_oth (own_stays HC.out (below1 _ (Nat.le_refl _))) ho5 (by decide) (by simp))
        have hz5 : w3.heap.size ≤ w5.heap.size := by have := hb5.size; simp at this; omega
        clear hI5 hb5 ho5
        go_wp2_with fail
        go_roundw
        case rel => exact ⟨i + 1, by go_num, by omega, HI5, HB5, HC5, hz5⟩
        case measure => simp [intOf]; omega
      · have hr : ba (runM ⟨xt, xc, true, true, xr⟩) = ⟨#[60, 105, 62]⟩ ++ (⟨#[60, 117, 62]⟩ ++ ba xt ++ ⟨#[60, 47, 117, 62]⟩) ++ ⟨#[60, 47, 105, 62]⟩ := by
          show ba (iT (uT xt)) = _
          rw [ba_iT, ba_uT]
        rw [hr] at cW
        clear hr
        go_wp2_with fail
        refine (cW _ (isbF_stays HI.out (below1 _ (Nat.le_refl _))) (by simp; omega)).mono ?_
        rintro e w5 ⟨rfl, hI5, hb5, ho5⟩
        rw [HP.out] at hI5
        have HI5 := Lib.hid hI5
        have HB5 := Lib.hid ((HB.out.alloc HB.out.size _).trans (hb5.mono hz3))
        have HC5 := Lib.hid (own_oth (own_stays HC.out (below1 _ (Nat.le_refl _))) ho5 (by decide) (by simp))
        have hz5 : w3.heap.size ≤ w5.heap.size := by have := hb5.size; simp at this; omega
        clear hI5 hb5 ho5
        go_wp2_with fail
        go_roundw
        case rel => exact ⟨i + 1, by go_num, by omega, HI5, HB5, HC5, hz5⟩
        case measure => simp [intOf]; omega
    · obtain rfl : i = C.length := by omega
      have hI := HI.out
      rw [List.take_length] at hI
      have cS := fun w' h hb => string_any w3.heap.size w3.heap.size (mkL C) w' h hb
      have HI := Lib.hid hI
      clear hI
      have hiz : ¬ (C.length : Int) < (C.length : Int) := by omega
      go_wp2_with fail
      refine (cS _ HI.out (by omega)).mono ?_
      rintro e w2 ⟨rfl, hb2⟩
      go_wp2_with fail
      go_ret2
      exact ⟨rfl, HB.out.trans (hb2.mono (by omega))⟩
end Go.Proofs.YtgiaohccebolpaaGreatDoor
namespace Go.Proofs.YtgiaohccebolpaaGreatDoor
open Go Go.RowKit
open Go.Lib hiding intOf
set_option linter.unusedVariables false
/-! ### subrip.block -/
def capOk (T f : Int) : Prop := f * T ≤ 10378368000
def msOf (T f : Int) : Nat := (quo (f * T) 120).toNat
def rowsM (rows : List Rw) : List UInt8 := rows.flatMap fun r => mkR r ++ [10]
def blkH (T : Int) (n : Nat) (inn out : Int) : List UInt8 := Lib.decDigits n ++ [10] ++ clk (msOf T inn) ++ [32, 45, 45, 62, 32] ++ clk (msOf T out) ++ [10]
def blkL (T : Int) (n : Nat) (e : Ev) : List UInt8 := blkH T n e.inn e.out ++ rowsM e.rows ++ [10]
def rmkS (rows : List Rw) (i : Nat) : Int := markE (rows.getD i [])
def blkE (T : Int) (e : Ev) : Int := if e.inn * T ≤ 10378368000 then (if e.out * T ≤ 10378368000 then fnz (rmkS e.rows) 0 e.rows.length else 2) else 2
theorem rowsM_snoc (a : List Rw) (x : Rw) : rowsM (a ++ [x]) = rowsM a ++ mkR x ++ [10] := by simp [rowsM]
theorem clk_len (m : Nat) : (clk m).length = 12 := rfl
theorem dec_len (n : Nat) (h : n < 1000) : (Lib.decDigits n).length ≤ 3 := by
  by_cases h1 : n < 10
  · rw [Lib.decDigits_one h1]; simp
  by_cases h2 : n < 100
  · rw [Lib.decDigits_two h1 h2]; simp
  · rw [Lib.decDigits, dif_neg h1, Lib.decDigits_two (by omega) (by omega)]; simp
theorem mkR_len (L : Rw) (h : L.length ≤ 1048576) (ht : tot L ≤ 1048576) : (mkR L).length ≤ 16777216 := by
  have h1 := mkL_len (carR L)
  have h2 := carR_len L
  have h3 := carR_tot L
  unfold mkR
  omega
theorem rowsM_len : ∀ rows : List Rw, (∀ r ∈ rows, rowFit r) → (rowsM rows).length ≤ 16777217 * rows.length
  | [], _ => by simp [rowsM]
  | r :: rows, h => by
    have h1 := rowsM_len rows (fun x hx => h x (List.mem_cons_of_mem _ hx))
    have h2 := h r List.mem_cons_self
    have h3 := mkR_len r h2.n h2.t
    have e : rowsM (r :: rows) = mkR r ++ [10] ++ rowsM rows := by simp [rowsM]
    rw [e, List.length_append, List.length_append, List.length_cons]
    simp; omega
theorem ms_ok (T f : Int) (hT : 2002 ≤ T) (h0 : 0 ≤ f) (hc : f * T ≤ 10378368000) : quo (f * T) 120 = (msOf T f : Int) ∧ msOf T f ≤ 359999999 := by
  have h := quo_cap (f * T) 120 (Int.mul_nonneg h0 (by omega)) hc (by omega) (by omega)
  unfold msOf
  omega
set_option maxHeartbeats 16000000 in
set_option maxRecDepth 100000 in
theorem block_any (r : Nat) (hr : r < 256) (hok : okRate r = true) (n : Nat) (hn : n < 1000) (e : Ev) (hf : evFit e) (hsp : okSpan e.inn e.out = true) (vr : Value) (w : World) (hR : RowsR w vr e.rows) (h4 : e.rows.length ≤ 4) (hE : Env w) :
    Calls Tryz.prog 25 #[.int .u8 (r : Int), .int .i64 (n : Int), evV e.id e.inn e.out (ba e.reg) (e.kind : Int) (ba e.spk) vr] w fun en w' => en = .returned (.tuple #[.string (if blkE (ticksOf r) e = 0 then ba (blkL (ticksOf r) n e) else ⟨#[]⟩), .int .i64 (blkE (ticksOf r) e)]) ∧ Below w.heap.size w w' := by
  obtain ⟨a, c, rfl⟩ := hR.len
  rw [okSpan_eq] at hsp
  obtain ⟨hs0, hs1, hs2⟩ := of_decide_eq_true hsp
  obtain ⟨t1, t2⟩ : 2002 ≤ ticksOf r ∧ ticksOf r ≤ 5005 := by
    rcases ticks_cases r with ⟨_, h⟩ | ⟨h1, h2, _⟩
    · rw [h] at hok; cases hok
    · exact ⟨h1, h2⟩
  have c1 := fun w => millis_any r hr hok e.inn hs0 (by omega) w
  have c2 := fun w => millis_any r hr hok e.out (by omega) (by omega) w
  have hb0 : blkE (ticksOf r) e = if e.inn * ticksOf r ≤ 10378368000 then (if e.out * ticksOf r ≤ 10378368000 then fnz (rmkS e.rows) 0 e.rows.length else 2) else 2 := rfl
  have hL0 : blkL (ticksOf r) n e = Lib.decDigits n ++ [10] ++ clk (msOf (ticksOf r) e.inn) ++ [32, 45, 45, 62, 32] ++ clk (msOf (ticksOf r) e.out) ++ [10] ++ rowsM e.rows ++ [10] := rfl
  rw [hb0, hL0]
  have hq1 := ms_ok (ticksOf r) e.inn t1 hs0
  have hq2 := ms_ok (ticksOf r) e.out t1 (by omega)
  have HR := Lib.hid hR
  clear hok hsp hb0 hL0 hR
  obtain ⟨eid, einn, eout, ereg, ekind, espk, erows⟩ := e
  dsimp only at *
  generalize msOf (ticksOf r) einn = M1 at *
  generalize msOf (ticksOf r) eout = M2 at *
  by_cases h1 : einn * ticksOf r ≤ 10378368000
  case neg =>
    rw [if_neg h1, if_neg (by omega)]
    simp only [if_neg h1] at c1
    clear c2 hq1 hq2 h1 hf
    go_enter Tryz.func25, Tryz.ntmps25
    go_wp2_with fail
    refine (c1 _).mono ?_
    rintro e w1 ⟨rfl, hb⟩
    have hb1 := (below1 (.cells #[.int .i64 eid, .int .i64 einn, .int .i64 eout, .string (ba ereg), .int .u8 (ekind : Int), .string (ba espk), .slice a erows.length c] 63) (Nat.le_refl w.heap.size)).trans (hb.mono (by simp))
    go_wp2_with fail
    go_ret2
    exact ⟨rfl, hb1⟩
  rw [if_pos h1]
  simp only [if_pos h1] at c1
  obtain ⟨q1, m1⟩ := hq1 h1
  rw [q1] at c1
  clear h1 hq1 q1
  by_cases h2 : eout * ticksOf r ≤ 10378368000
  case neg =>
    rw [if_neg h2, if_neg (by omega)]
    simp only [if_neg h2] at c2
    clear hq2 h2 hf
    go_enter Tryz.func25, Tryz.ntmps25
    go_wp2_with fail
    refine (c1 _).mono ?_
    rintro e w1 ⟨rfl, hb⟩
    have hb1 := (below1 (.cells #[.int .i64 eid, .int .i64 einn, .int .i64 eout, .string (ba ereg), .int .u8 (ekind : Int), .string (ba espk), .slice a erows.length c] 63) (Nat.le_refl w.heap.size)).trans (hb.mono (by simp))
    have hB1 := blk_stay (heap_alloc_new w (.cells #[.int .i64 eid, .int .i64 einn, .int .i64 eout, .string (ba ereg), .int .u8 (ekind : Int), .string (ba espk), .slice a erows.length c] 63)) hb
    obtain ⟨k0, k1, k2, k3, k4, k5, k6, kf, _⟩ := blk7 hB1
    clear hb
    go_wp2_with fail
    refine (c2 _).mono ?_
    rintro e w2 ⟨rfl, hb2⟩
    go_wp2_with fail
    go_ret2
    exact ⟨rfl, below_trans hb1 hb2⟩
  rw [if_pos h2]
  simp only [if_pos h2] at c2
  obtain ⟨q2, m2⟩ := hq2 h2
  rw [q2] at c2
  clear h2 hq2 q2 t1 t2 hs0 hs1 hs2
  have cD := fun w hE => decimal_any n (by omega) w hE
  have cK1 := fun w hE => clock_any M1 m1 w hE
  have cK2 := fun w hE => clock_any M2 m2 w hE
  have e1 : (⟨(Lib.decDigits n).toArray⟩ : ByteArray) = ba (Lib.decDigits n) := rfl
  have e2 : (⟨(clk M1).toArray⟩ : ByteArray) = ba (clk M1) := rfl
  have e3 : (⟨(clk M2).toArray⟩ : ByteArray) = ba (clk M2) := rfl
  rw [e1] at cD
  rw [e2] at cK1
  rw [e3] at cK2
  have lD := dec_len n hn
  have l1 := clk_len M1
  have l2 := clk_len M2
  generalize Lib.decDigits n = D at *
  generalize clk M1 = K1 at *
  generalize clk M2 = K2 at *
  clear e1 e2 e3 m1 m2
  have z1 : (⟨#[10]⟩ : ByteArray).size = 1 := rfl
  have z2 : (⟨#[32, 45, 45, 62, 32]⟩ : ByteArray).size = 5 := rfl
  have o1 : ¬ ((ba D).size + (⟨#[10]⟩ : ByteArray).size > 9223372036854775807) := by rw [ba_size]; omega
  have o2 : ¬ ((ba D ++ ⟨#[10]⟩).size + (ba K1).size > 9223372036854775807) := by simp only [ByteArray.size_append, ba_size]; omega
  have o3 : ¬ ((ba D ++ ⟨#[10]⟩ ++ ba K1).size + (⟨#[32, 45, 45, 62, 32]⟩ : ByteArray).size > 9223372036854775807) := by simp only [ByteArray.size_append, ba_size]; omega
  have o4 : ¬ ((ba D ++ ⟨#[10]⟩ ++ ba K1 ++ ⟨#[32, 45, 45, 62, 32]⟩).size + (ba K2).size > 9223372036854775807) := by simp only [ByteArray.size_append, ba_size]; omega
  have o5 : ¬ ((ba D ++ ⟨#[10]⟩ ++ ba K1 ++ ⟨#[32, 45, 45, 62, 32]⟩ ++ ba K2).size + (⟨#[10]⟩ : ByteArray).size > 9223372036854775807) := by simp only [ByteArray.size_append, ba_size]; omega
  have eH : ba D ++ ⟨#[10]⟩ ++ ba K1 ++ ⟨#[32, 45, 45, 62, 32]⟩ ++ ba K2 ++ ⟨#[10]⟩ = ba (D ++ [10] ++ K1 ++ [32, 45, 45, 62, 32] ++ K2 ++ [10]) := by
    show ba D ++ ba [10] ++ ba K1 ++ ba [32, 45, 45, 62, 32] ++ ba K2 ++ ba [10] = _
    simp only [ba_app]
  have lH : (D ++ [10] ++ K1 ++ [32, 45, 45, 62, 32] ++ K2 ++ [10]).length ≤ 40 := by simp; omega
  have hrl := rowsM_len erows hf.r
  have hfr := Lib.hid hf.r
  have EH := Lib.hid eH
  obtain ⟨H, hH⟩ : ∃ H, D ++ [10] ++ K1 ++ [32, 45, 45, 62, 32] ++ K2 ++ [10] = H := ⟨_, rfl⟩
  rw [hH] at EH lH ⊢
  obtain ⟨V, hV⟩ : ∃ V, fnz (rmkS erows) 0 (erows.length - 0) = V := ⟨_, rfl⟩
  have hV2 : fnz (rmkS erows) 0 erows.length = V := hV
  rw [hV2]
  have HV := Lib.hid hV
  clear hH eH hV hV2 hf lD l1 l2 z1 z2
  go_enter Tryz.func25, Tryz.ntmps25
  go_wp2_with fail
  refine (c1 _).mono ?_
  rintro e w1 ⟨rfl, hb⟩
  have hb1 := (below1 (.cells #[.int .i64 eid, .int .i64 einn, .int .i64 eout, .string (ba ereg), .int .u8 (ekind : Int), .string (ba espk), .slice a erows.length c] 63) (Nat.le_refl w.heap.size)).trans (hb.mono (by simp))
  have hB1 := blk_stay (heap_alloc_new w (.cells #[.int .i64 eid, .int .i64 einn, .int .i64 eout, .string (ba ereg), .int .u8 (ekind : Int), .string (ba espk), .slice a erows.length c] 63)) hb
  obtain ⟨k0, k1, k2, k3, k4, k5, k6, kf, _⟩ := blk7 hB1
  clear hb
  go_wp2_with fail
  refine (c2 _).mono ?_
  rintro e w2 ⟨rfl, hb2⟩
  go_wp2_with fail
  refine (cK1 _ (hE.below (below_trans hb1 hb2))).mono ?_
  rintro e w3 ⟨rfl, hb3⟩
  go_wp2_with fail
  refine (cK2 _ (hE.below (below_trans (below_trans hb1 hb2) hb3))).mono ?_
  rintro e w4 ⟨rfl, hb4⟩
  go_wp2_with fail
  refine (cD _ (hE.below (below_trans (below_trans (below_trans hb1 hb2) hb3) hb4))).mono ?_
  rintro e w5 ⟨rfl, hb5⟩
  have hB5 := blk_stay (blk_stay (blk_stay (blk_stay hB1 hb2) hb3) hb4) hb5
  have HB5 := Lib.hid (below_trans (below_trans (below_trans (below_trans hb1 hb2) hb3) hb4) hb5)
  clear hb1 hb2 hb3 hb4 hb5 hB1 k0 k1 k2 k3 k4 k5 k6 kf c1 c2 cD cK1 cK2
  obtain ⟨k0, k1, k2, k3, k4, k5, k6, kf, _⟩ := blk7 hB5
  go_wp2_with fail
  rw [EH.out]
  clear o1 o2 o3 o4 o5 EH k0 k1 k2 k3 k4 k5 k6 kf hB5
  have HS := Lib.hid (take_succ erows)
  have hrl2 := rowsM_len
  go_loopw [64, 15] (fun v s wx => ∃ i : Nat, v = .int .i64 i ∧ s = .string (ba (H ++ rowsM (erows.take i))) ∧ i ≤ erows.length ∧ Hid (fnz (rmkS erows) i (erows.length - i) = V) ∧ Hid (Below w.heap.size w wx)) (fun v _ _ => erows.length - (intOf v).toNat)
  case atStart => exact ⟨0, rfl, by rw [List.take_zero]; simp [rowsM], Nat.zero_le _, HV, HB5⟩
  case round =>
    clear HV HB5
    obtain ⟨i, rfl, rfl, hil, HV, HB⟩ := hrel
    have hsz := HB.out.size
    by_cases hlt : i < erows.length
    · have hiz : (i : Int) < (erows.length : Int) := by omega
      have hR := HR.out.below HB.out
      obtain ⟨g, off, rfl, hg⟩ := hR.addr (by omega)
      obtain ⟨u, hu, hRu⟩ := hR.at rfl i hlt
      have hfx := hfr.out (erows.getD i []) (by rw [getD_of hlt]; exact List.getElem_mem hlt)
      have cM := fun w' h hE => markup_any u (erows.getD i []) w' h hfx.r hfx.n hfx.t hE
      have hml := mkR_len _ hfx.n hfx.t
      have hst := fnz_step (rmkS erows) i erows.length hlt
      have hrs : rmkS erows i = markE (erows.getD i []) := rfl
      rw [HV.out, hrs] at hst
      have hP : H ++ rowsM (erows.take (i + 1)) = H ++ rowsM (erows.take i) ++ (mkR (erows.getD i []) ++ [10]) := by
        have h := HS.out i hlt
        rw [show erows.getD i default = erows.getD i [] from rfl] at h
        rw [h, rowsM_snoc]; simp
      have hal := hrl2 (erows.take i) (fun x hx => hfr.out x (List.mem_of_mem_take hx))
      have htl : (erows.take i).length ≤ 4 := by rw [List.length_take]; omega
      obtain ⟨au, cu, rfl⟩ := RowR.len hRu
      clear hrs hfx
      generalize erows.getD i [] = X at *
      have HST := Lib.hid hst
      have HRu := Lib.hid hRu
      have HP := Lib.hid hP
      clear hst hR hRu hP
      by_cases hm : markE X = 0
      case neg =>
        have hz : V = markE X := by rw [HST.out, if_neg hm]
        rw [if_neg hm] at cM
        rw [← hz] at cM hm
        have hzz : (V == 0) = false := by simpa using hm
        clear HST hz
        clear hal htl hml
        go_wp2_with fail
        refine (cM _ (RowR.below HRu.out (below1 _ (Nat.le_refl _))) (hE.below (below_grow HB.out hsz (below1 _ (Nat.le_refl _))))).mono ?_
        rintro e w2 ⟨rfl, hb2⟩
        have HB2 := Lib.hid (below_trans (HB.out.alloc hsz (.cells #[.slice au X.length cu] 71)) hb2)
        clear hb2
        go_wp2_with fail
        go_ret2
        exact ⟨rfl, HB2.out⟩
      have hv2 : fnz (rmkS erows) (i + 1) (erows.length - (i + 1)) = V := by rw [HST.out, if_pos hm]
      have HV2 := Lib.hid hv2
      rw [hm] at cM
      simp only [if_pos] at cM
      clear HST hm hv2
      have o1 : ¬ ((ba (mkR X)).size + (⟨#[10]⟩ : ByteArray).size > 9223372036854775807) := by
        have : (⟨#[10]⟩ : ByteArray).size = 1 := rfl
        rw [ba_size]; omega
      have o2 : ¬ ((ba (H ++ rowsM (erows.take i))).size + (ba (mkR X) ++ ⟨#[10]⟩).size > 9223372036854775807) := by
        have : (⟨#[10]⟩ : ByteArray).size = 1 := rfl
        rw [ByteArray.size_append, ba_size, ba_size, List.length_append]; omega
      have eS : ba (H ++ rowsM (erows.take i)) ++ (ba (mkR X) ++ ⟨#[10]⟩) = ba (H ++ rowsM (erows.take (i + 1))) := by
        show ba (H ++ rowsM (erows.take i)) ++ (ba (mkR X) ++ ba [10]) = _
        rw [ba_app, ba_app, HP.out]
      clear hal htl hml HP
      go_wp2_with fail
      refine (cM _ (RowR.below HRu.out (below1 _ (Nat.le_refl _))) (hE.below (below_grow HB.out hsz (below1 _ (Nat.le_refl _))))).mono ?_
      rintro e w2 ⟨rfl, hb2⟩
      have HB2 := Lib.hid (below_trans (HB.out.alloc hsz (.cells #[.slice au X.length cu] 71)) hb2)
      clear hb2
      go_wp2_with fail
      go_roundw
      case rel => exact ⟨i + 1, by go_num, by first | rfl | rw [eS], by omega, HV2, HB2⟩
      case measure => simp [intOf]; omega
    · obtain rfl : i = erows.length := by omega
      have hv := HV.out
      rw [fnz_end] at hv
      have hlen : (H ++ rowsM erows).length ≤ 1073741824 := by rw [List.length_append]; omega
      rw [List.take_length]
      have o1 : ¬ ((ba (H ++ rowsM erows)).size + (⟨#[10]⟩ : ByteArray).size > 9223372036854775807) := by
        have : (⟨#[10]⟩ : ByteArray).size = 1 := rfl
        rw [ba_size]; omega
      have eS : ba (H ++ rowsM erows) ++ ⟨#[10]⟩ = ba (H ++ rowsM erows ++ [10]) := by
        show _ ++ ba [10] = _
        rw [ba_app]
      subst hv
      have hiz : ¬ (erows.length : Int) < (erows.length : Int) := by omega
      clear HV hlen hrl
      go_wp2_with fail
      go_ret2
      exact ⟨rfl, HB.out⟩
end Go.Proofs.YtgiaohccebolpaaGreatDoor
namespace Go.Proofs.YtgiaohccebolpaaGreatDoor
open Go Go.RowKit
open Go.Lib hiding intOf
set_option linter.unusedVariables false
/-! ### subrip.encode -/
/-- What an accepted document is. -/
structure Acc (d : Dc) : Prop where
  rate : rateE d.rate d.drop = 0
  n : d.evs.length ≤ 400
  last : 0 ≤ d.last ∧ d.last ≤ 1099511627776
  ev : ∀ i, i < d.evs.length → evE d.regs (d.evs.getD i default) = 0 ∧ (0 < i → ltE (d.evs.getD (i - 1) default) (d.evs.getD i default) = true)
theorem chkE_acc {d : Dc} (h : chkE d = 0) : Acc d := by
  unfold chkE at h
  split at h
  case isFalse h1 => exact absurd h h1
  rename_i h1
  split at h
  case isFalse h2 => exact absurd h h2
  unfold chkE2 at h
  split at h
  · cases h
  split at h
  case isFalse h2 h3 => exact absurd h h3
  rename_i h2 h3
  obtain ⟨a, b, c⟩ := headE_zero h1
  refine ⟨c, by omega, ⟨a, b⟩, fun i hi => ?_⟩
  have h4 := (fnz_zero _ _ _).1 h3 i (Nat.zero_le _) (by omega)
  rw [chkS_def] at h4
  split at h4
  case isFalse h5 => exact absurd h4 h5
  rename_i h5
  refine ⟨h5, fun h0 => ?_⟩
  split at h4
  · cases h4
  · split at h4
    · cases h4
    · rename_i h6
      cases hb : ltE (d.evs.getD (i - 1) default) (d.evs.getD i default) with
      | true => rfl
      | false => exact absurd ⟨h0, hb⟩ h6
theorem rate_ok {r : Nat} {drop : Bool} (h : rateE r drop = 0) : okRate r = true ∧ (drop = true → dropOf r = true) := by
  unfold rateE at h
  split at h
  · cases h
  · rename_i h1
    split at h
    · cases h
    · rename_i h2
      refine ⟨by simpa using h1, fun hd => ?_⟩
      cases hh : dropOf r with
      | true => rfl
      | false => exact absurd ⟨hd, hh⟩ h2
def encB (T : Int) (evs : List Ev) (i : Nat) : List UInt8 := (List.range i).flatMap fun j => blkL T (j + 1) (evs.getD j default)
theorem encB_succ (T : Int) (evs : List Ev) (i : Nat) : encB T evs (i + 1) = encB T evs i ++ blkL T (i + 1) (evs.getD i default) := by
  unfold encB; rw [List.range_succ, List.flatMap_append]; simp
def blkS (T : Int) (evs : List Ev) (i : Nat) : Int := blkE T (evs.getD i default)
def encE (d : Dc) : Int :=
  if chkE d = 0 then (if fnz (blkS (ticksOf d.rate) d.evs) 0 d.evs.length = 0 then (if 262144 < (encB (ticksOf d.rate) d.evs d.evs.length).length then 9 else 0) else fnz (blkS (ticksOf d.rate) d.evs) 0 d.evs.length) else chkE d
def encS (d : Dc) : List UInt8 := encB (ticksOf d.rate) d.evs d.evs.length
theorem blkL_len (T : Int) (n : Nat) (hn : n < 1000) (e : Ev) (hf : evFit e) (h4 : e.rows.length ≤ 4) : (blkL T n e).length ≤ 67108909 := by
  have h1 := rowsM_len e.rows hf.r
  have h2 := dec_len n hn
  unfold blkL blkH
  have l1 := clk_len (msOf T e.inn)
  have l2 := clk_len (msOf T e.out)
  simp only [List.length_append, l1, l2, List.length_cons, List.length_nil]
  omega
end Go.Proofs.YtgiaohccebolpaaGreatDoor
