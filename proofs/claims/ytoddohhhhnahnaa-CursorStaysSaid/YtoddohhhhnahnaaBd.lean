/- Boundaries: Snap, Left, Right of the program and of the document. -/
import Derived.Test.YtoddohhhhnahnaaQr
namespace Go.Proofs.Ytoddohhhhnahnaa
open Go.RowKit

/-- A slice of bools that is read. -/
def RB (w : World) (A : Option Addr) (n c : Nat) (l : List Bool) : Prop :=
  l.length = n ∧ n ≤ c ∧ c ≤ 9223372036854775807 ∧ (∀ (j : Nat) (b : Bool), l[j]? = some b → ∃ a : Addr, A = some a ∧ w.cell? (a.add j) = some (.bool b)) ∧ (A = none → c = 0)

def snapN (l : List Bool) : Nat → Nat
  | 0 => 0
  | k + 1 => if l.getD (k + 1) false = true then k + 1 else snapN l k

theorem snapN_succ (l : List Bool) (k : Nat) : snapN l (k + 1) = if l.getD (k + 1) false = true then k + 1 else snapN l k := rfl

/-- The greatest boundary that is not above a place. -/
def snapV (l : List Bool) (p : Int) : Int := snapN l (min p ((l.length : Int) - 1)).toNat

def snapF (l : List Bool) (p : Int) : Nat → Nat
  | 0 => 0
  | n + 1 => if l.getD n false = true ∧ (n : Int) ≤ p then n else snapF l p n

theorem snapF_eq (l : List Bool) (p : Int) : ∀ n : Nat, snapF l p (n + 1) = snapN l (min p n).toNat
  | 0 => by
    have e : (min p ((0 : Nat) : Int)).toNat = 0 := by omega
    rw [e]
    simp [snapF, snapN]
  | n + 1 => by
    unfold snapF
    by_cases h : ((n + 1 : Nat) : Int) ≤ p
    · have e : (min p ((n + 1 : Nat) : Int)).toNat = n + 1 := by omega
      rw [e]
      unfold snapN
      by_cases hl : l.getD (n + 1) false = true
      · rw [if_pos ⟨hl, h⟩, if_pos hl]
      · rw [if_neg (fun e => hl e.1), if_neg hl, snapF_eq l p n]
        congr 1
        omega
    · rw [if_neg (fun e => h e.2), snapF_eq l p n]
      congr 1
      omega

theorem snapF_all (l : List Bool) (p : Int) : (snapF l p l.length : Int) = snapV l p := by
  unfold snapV
  rcases hl : l.length with _ | n
  · have e : (min p (((0 : Nat) : Int) - 1)).toNat = 0 := by omega
    rw [e]; rfl
  · rw [snapF_eq]
    have e : (((n + 1 : Nat) : Int) - 1) = (n : Int) := by omega
    rw [e]

theorem getD_of {l : List Bool} {k : Nat} {b : Bool} (h : l[k]? = some b) : l.getD k false = b := by simp [List.getD, h]

/-- Right. -/
def rightV (l : List Bool) (p : Int) : Int := match (l.drop (p + 1).toNat).findIdx? id with
  | some k => ((p + 1).toNat + k : Nat)
  | none => max 0 ((l.length : Int) - 1)

theorem rightV_hit {l : List Bool} {p : Int} {k : Nat} (h : l[k]? = some true) (hp : p < k) (hn : ∀ j < k, l[j]? = some true → (j : Int) ≤ p) : rightV l p = k := by
  have hf : (l.drop (p + 1).toNat).findIdx? id = some (k - (p + 1).toNat) := by
    rw [List.findIdx?_eq_some_iff_getElem]
    have hkl : k < l.length := (List.getElem?_eq_some_iff.1 h).1
    refine ⟨by simp; omega, ?_, ?_⟩
    · have e : (p + 1).toNat + (k - (p + 1).toNat) = k := by omega
      have h2 : (l.drop (p + 1).toNat)[k - (p + 1).toNat]? = some true := by rw [List.getElem?_drop, e, h]
      rw [(List.getElem?_eq_some_iff.1 h2).2]; rfl
    · intro j hj hb
      have h2 : (l.drop (p + 1).toNat)[j]? = some true := by
        rw [List.getElem?_eq_getElem (by simp; omega)]
        simpa using hb
      rw [List.getElem?_drop] at h2
      have := hn _ (by omega) h2
      omega
  unfold rightV
  rw [hf]
  simp only
  omega

theorem rightV_miss {l : List Bool} {p : Int} (hn : ∀ j : Nat, l[j]? = some true → (j : Int) ≤ p) : rightV l p = max 0 ((l.length : Int) - 1) := by
  have hf : (l.drop (p + 1).toNat).findIdx? id = none := by
    rw [List.findIdx?_eq_none_iff]
    intro b hb
    obtain ⟨j, hj⟩ := List.getElem?_of_mem hb
    rw [List.getElem?_drop] at hj
    rcases hbb : b with _ | _
    · rfl
    · rw [hbb] at hj
      have := hn _ hj
      omega
  unfold rightV
  rw [hf]

def idxT (l : List Bool) : Int := match l.findIdx? id with
  | some k => k
  | none => -1

theorem idxT_hit {l : List Bool} {k : Nat} (h : l[k]? = some true) (hn : ∀ j < k, l[j]? = some false) : idxT l = k := by
  have hf : l.findIdx? id = some k := by
    rw [List.findIdx?_eq_some_iff_getElem]
    refine ⟨(List.getElem?_eq_some_iff.1 h).1, by rw [(List.getElem?_eq_some_iff.1 h).2]; rfl, fun j hj => ?_⟩
    have := (List.getElem?_eq_some_iff.1 (hn j hj)).2
    rw [this]; simp
  simp [idxT, hf]
theorem idxT_miss {l : List Bool} (hn : ∀ j < l.length, l[j]? = some false) : idxT l = -1 := by
  have hf : l.findIdx? id = none := by
    rw [List.findIdx?_eq_none_iff]
    intro b hb
    obtain ⟨j, hj⟩ := List.getElem?_of_mem hb
    have := hn j (List.getElem?_eq_some_iff.1 hj).1
    rw [hj] at this
    cases this; rfl
  simp [idxT, hf]

theorem addr_add_add (a : Addr) (k j : Nat) : (a.add k).add j = a.add (k + j) := by
  unfold Addr.add
  by_cases h1 : k = 0
  · subst h1; simp
  · by_cases h2 : j = 0
    · subst h2; simp [h1]
    · simp only [if_neg h2, if_neg h1, if_neg (show ¬ k + j = 0 by omega), Nat.add_assoc]

def isInt (w : World) (v : Int) (e : Ending) (w' : World) : Prop := e = .returned (.int .i64 v) ∧ w = w'

theorem snap_any (w : World) (A : Option Addr) (n c : Nat) (l : List Bool) (h : RB w A n c l) (p : Int) (hp1 : -9223372036854775808 ≤ p) :
    Calls Try.prog 15 #[.slice A n c, .int .i64 p] w (isInt w (snapV l p)) := by
  obtain ⟨hl, hnc, hc, hb, _⟩ := h
  have HB := Lib.hid hb
  have HV : Hid (snapV l p = snapN l (min p ((n : Int) - 1)).toNat) := Lib.hid (by rw [← hl]; rfl)
  generalize snapV l p = sv at *
  clear hb
  have hm : p ≤ (n : Int) - 1 ∨ (n : Int) - 1 < p := by omega
  rcases hm with hm | hm
  all_goals
    go_enter Try.func15, Try.ntmps15
    go_wp2
    go_loopw [5] (fun t5 wr => ∃ q : Int, t5 = .int .i64 q ∧ wr = w ∧ q ≤ min p ((n : Int) - 1) ∧ -9223372036854775808 ≤ q ∧ snapN l q.toNat = snapN l (min p ((n : Int) - 1)).toNat) (fun t5 _ => (intOf t5).toNat)
    case atStart => exact ⟨_, rfl, rfl, by omega, by omega, by congr 2; omega⟩
    case round =>
      obtain ⟨q, rfl, rfl, h1, h2, h3⟩ := hrel
      have h1' : q ≤ (n : Int) - 1 := by omega
      have H1 := Lib.hid h1
      clear h1
      by_cases hq : 0 < q
      · obtain ⟨k, rfl⟩ : ∃ k : Nat, q = ((k + 1 : Nat) : Int) := ⟨q.toNat - 1, by omega⟩
        have hkl : k + 1 < l.length := by omega
        obtain ⟨b, hb⟩ : ∃ b, l[k + 1]? = some b := ⟨_, List.getElem?_eq_getElem hkl⟩
        obtain ⟨a, rfl, hcell⟩ := HB.out _ _ hb
        have hk' : (((k + 1 : Nat) : Int)).toNat = k + 1 := by omega
        rw [hk'] at h3
        rw [snapN_succ, getD_of hb] at h3
        have H3 := Lib.hid h3
        obtain ⟨kk, hkk⟩ : ∃ kk, kk = k + 1 := ⟨_, rfl⟩
        have HKK := Lib.hid hkk
        rw [← hkk] at hcell hkl ⊢
        have h1n : (kk : Int) ≤ (n : Int) - 1 := by omega
        have h0n : 0 < kk := by omega
        clear h3 hb hk' hq h2 h1' hkk
        rcases b with _ | _
        · go_wp2
          go_roundw
          case rel =>
            have hkk := HKK.out
            have h1 := H1.out
            refine ⟨(k : Int), by congr 1; omega, by first | rfl | trivial, by omega, by omega, ?_⟩
            have := H3.out
            rw [if_neg (by decide)] at this
            rw [Int.toNat_natCast]
            exact this
          case measure =>
            have hkk := HKK.out
            simp [intOf]
            omega
        · go_wp2
          go_ret
          have h3 := H3.out
          simp only [if_true] at h3
          exact ⟨by rw [HV.out, ← h3, HKK.out]; rfl, rfl⟩
      · have H3 := Lib.hid h3
        clear h3
        go_wp2
        go_ret
        have h3 := H3.out
        rw [show q.toNat = 0 by omega] at h3
        exact ⟨by rw [HV.out, ← h3]; rfl, rfl⟩

set_option maxRecDepth 100000 in
theorem left_any (w : World) (A : Option Addr) (n c : Nat) (l : List Bool) (h : RB w A n c l) (p : Int) (hp1 : -9223372036854775808 ≤ p) (hp2 : p ≤ 9223372036854775807) :
    Calls Try.prog 17 #[.slice A n c, .int .i64 p] w (isInt w (snapV l (p - 1))) := by
  by_cases h0 : p < 1
  · have HV : Hid (snapV l (p - 1) = 0) := Lib.hid (by
      unfold snapV
      rw [show (min (p - 1) ((l.length : Int) - 1)).toNat = 0 by omega]; rfl)
    generalize snapV l (p - 1) = sv at *
    clear h
    go_enter Try.func17, Try.ntmps17
    go_wp2
    go_ret
    exact ⟨by rw [HV.out]; rfl, rfl⟩
  · have HS := Lib.hid (snap_any w A n c l h (p - 1) (by omega))
    generalize snapV l (p - 1) = sv at *
    clear h
    go_enter Try.func17, Try.ntmps17
    go_wp2_with (first | (go_at_call 15; refine HS.out.mono ?_; rintro e w' ⟨rfl, rfl⟩))
    go_ret
    exact ⟨rfl, rfl⟩

theorem idxT_bd (l : List Bool) : -1 ≤ idxT l ∧ idxT l ≤ l.length := by
  unfold idxT
  rcases hf : l.findIdx? id with _ | k
  · simp
  · rw [List.findIdx?_eq_some_iff_getElem] at hf
    obtain ⟨h, _⟩ := hf
    simp; omega

theorem index_any (w : World) (A : Option Addr) (n c : Nat) (l : List Bool) (h : RB w A n c l) :
    Calls Try.prog 33 #[.slice A n c, .bool true] w (isInt w (idxT l)) := by
  obtain ⟨hl, hnc, hc, hb, _⟩ := h
  have HB := Lib.hid hb
  clear hb
  go_enter Try.func33, Try.ntmps33
  go_wp2
  go_loopw [8] (fun t8 wr => ∃ k : Nat, k ≤ n ∧ t8 = .int .i64 k ∧ wr = w ∧ ∀ j < k, l[j]? = some false) (fun t8 _ => n - (intOf t8).toNat)
  case atStart => exact ⟨0, Nat.zero_le _, rfl, rfl, fun j hj => absurd hj (Nat.not_lt_zero _)⟩
  case round =>
    obtain ⟨k, hk, rfl, rfl, hno⟩ := hrel
    have HN := Lib.hid hno
    clear hno
    by_cases hkl : k < n
    · obtain ⟨b, hb⟩ : ∃ b, l[k]? = some b := ⟨_, List.getElem?_eq_getElem (by omega)⟩
      obtain ⟨a, rfl, hcell⟩ := HB.out _ _ hb
      have Hb := Lib.hid hb
      clear hb
      rcases b with _ | _
      · go_wp2
        go_roundw
        case rel =>
          refine ⟨k + 1, by omega, by go_num, by first | rfl | trivial, fun j hj => ?_⟩
          by_cases e : j < k
          · exact HN.out j e
          · obtain rfl : j = k := by omega
            exact Hb.out
        case measure => simp [intOf]; omega
      · go_wp2
        go_ret
        exact ⟨by rw [idxT_hit Hb.out HN.out]; rfl, rfl⟩
    · go_wp2
      go_ret
      exact ⟨by rw [idxT_miss (fun j hj => HN.out j (by omega))]; rfl, rfl⟩

theorem right_any2 (w : World) (A : Option Addr) (n c : Nat) (l : List Bool) (h : RB w A n c l) (p : Int) (hp1 : -9223372036854775808 ≤ p) :
    Calls Try.prog 19 #[.slice A n c, .int .i64 p] w (isInt w (rightV l p)) := by
  have hl := h.1
  have hnc := h.2.1
  have hc := h.2.2.1
  obtain ⟨q, hq⟩ : ∃ q, q = max p (-1) := ⟨_, rfl⟩
  by_cases hlast : max 0 ((n : Int) - 1) ≤ q
  · have hV : rightV l p = max 0 ((n : Int) - 1) := by
      rw [← hl]
      refine rightV_miss (fun j hj => ?_)
      have := (List.getElem?_eq_some_iff.1 hj).1
      omega
    have HV := Lib.hid hV
    generalize rightV l p = sv at *
    clear hV h
    have hn : n = 0 ∨ n = 1 ∨ 1 < n := by omega
    rcases hn with rfl | rfl | hn
    · have hp : ¬ p < 0 := by omega
      clear hlast hl
      go_enter Try.func19, Try.ntmps19
      go_wp2
      go_ret
      exact ⟨by rw [HV.out]; rfl, rfl⟩
    · have hp : ¬ p < 0 := by omega
      clear hlast hl
      go_enter Try.func19, Try.ntmps19
      go_wp2
      go_ret
      exact ⟨by rw [HV.out]; rfl, rfl⟩
    · have hp : ¬ p < 0 := by omega
      have hp' : (n : Int) - 1 ≤ p := by omega
      clear hlast hl
      go_enter Try.func19, Try.ntmps19
      go_wp2
      go_ret
      exact ⟨by rw [HV.out, show max 0 ((n : Int) - 1) = (n : Int) - 1 by omega]; rfl, rfl⟩
  · by_cases hn0 : n = 0
    · subst hn0
      have hp : p < 0 := by omega
      obtain rfl : l = [] := List.length_eq_zero_iff.1 hl
      have HI : Hid (Calls Try.prog 33 #[.slice A 0 c, .bool true] w (isInt w (-1))) := Lib.hid (index_any w A 0 c [] h)
      have HV : Hid (rightV [] p = 0) := Lib.hid (by rw [rightV_miss (fun j hj => by simp at hj)]; rfl)
      generalize rightV [] p = sv at *
      have hnil := h.2.2.2.2
      clear h hlast hl hq
      rcases A with _ | a
      · obtain rfl : c = 0 := hnil rfl
        clear hnil
        go_enter Try.func19, Try.ntmps19
        go_wp2_with (first | (go_at_call 33; refine HI.out.mono ?_; rintro e w' ⟨rfl, rfl⟩))
        go_ret
        exact ⟨by rw [HV.out]; rfl, rfl⟩
      · clear hnil
        go_enter Try.func19, Try.ntmps19
        go_wp2_with (first | (go_at_call 33; refine HI.out.mono ?_; rintro e w' ⟨rfl, rfl⟩))
        go_ret
        exact ⟨by rw [HV.out]; rfl, rfl⟩
    have hql : q + 1 < n := by omega
    obtain ⟨k, hk⟩ : ∃ k : Nat, (k : Int) = q + 1 := ⟨(q + 1).toNat, by omega⟩
    have hkp : (p + 1).toNat = k := by omega
    have hR : rightV l p = if idxT (l.drop k) < 0 then max 0 ((n : Int) - 1) else k + idxT (l.drop k) := by
      unfold rightV idxT
      rw [hkp, hl]
      rcases hf : (l.drop k).findIdx? id with _ | j
      · simp
      · simp; omega
    have HV := Lib.hid hR
    obtain ⟨b0, hb0⟩ : ∃ b, l[k]? = some b := ⟨_, List.getElem?_eq_getElem (by omega)⟩
    obtain ⟨a, rfl, _⟩ := h.2.2.2.1 _ _ hb0
    have HI := Lib.hid (index_any w (some (a.add k)) (n - k) (c - k) (l.drop k) ⟨by simp; omega, by omega, by omega, fun j b hj => by
      rw [List.getElem?_drop] at hj
      obtain ⟨a', e, hc'⟩ := h.2.2.2.1 _ _ hj
      cases e
      refine ⟨_, rfl, ?_⟩
      rw [← hc']
      congr 1
      exact addr_add_add a k j, fun e => by cases e⟩)
    have hib := idxT_bd (l.drop k)
    have hib2 : ((l.drop k).length : Int) = n - k := by simp; omega
    generalize rightV l p = sv at *
    generalize idxT (l.drop k) = ix at *
    clear hR h hb0 hkp
    have hi1 : -1 ≤ ix := hib.1
    have hi2 : (k : Int) + ix ≤ n := by omega
    clear hib hib2
    have hfin : ∀ v : Int, (0 ≤ ix → v = k + ix) → (ix < 0 → v = max 0 ((n : Int) - 1)) → sv = v := by
      intro v h1 h2
      rw [HV.out]
      split
      · exact (h2 (by assumption)).symm
      · exact (h1 (by omega)).symm
    have HF := Lib.hid hfin
    clear hfin
    by_cases hp : p < 0
    · obtain rfl : k = 0 := by omega
      have HI' : Hid (Calls Try.prog 33 #[.slice (some a) n c, .bool true] w (isInt w ix)) := HI
      clear HI
      clear hlast hl
      by_cases hix : 0 ≤ ix
      all_goals by_cases hn1 : 1 < n
      all_goals
        go_enter Try.func19, Try.ntmps19
        go_wp2_with (first | (go_at_call 33; refine HI'.out.mono ?_; rintro e w' ⟨rfl, rfl⟩))
        go_ret
        refine ⟨?_, rfl⟩
        show Ending.returned (.int .i64 _) = _
        rw [HF.out _ ?_ ?_]
        all_goals omega
    · obtain ⟨m, rfl⟩ : ∃ m : Nat, p = (m : Int) := ⟨p.toNat, by omega⟩
      obtain rfl : k = m + 1 := by omega
      have hn1 : 1 < n := by omega
      have hmn : (m : Int) < (n : Int) - 1 := by omega
      clear hlast hl
      by_cases hix : 0 ≤ ix
      all_goals
        go_enter Try.func19, Try.ntmps19
        go_wp2_with (first | (go_at_call 33; refine HI.out.mono ?_; rintro e w' ⟨rfl, rfl⟩))
        go_ret
        refine ⟨?_, rfl⟩
        show Ending.returned (.int .i64 _) = _
        rw [HF.out _ ?_ ?_]
        all_goals omega
end Go.Proofs.Ytoddohhhhnahnaa
