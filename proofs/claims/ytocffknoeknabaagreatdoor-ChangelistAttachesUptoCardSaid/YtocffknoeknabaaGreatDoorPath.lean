/-
  The walks of path.IsByte, path.Component and path.Valid: what each returns, for every string; the world stays as it is.
-/
import Derived.Test.YtocffknoeknabaaGreatDoorBase
namespace Go.Proofs.YtocffknoeknabaaGreatDoor
open Go.RowKit

def isByteI (n : Int) : Bool := decide ((65 ≤ n ∧ n ≤ 90) ∨ (97 ≤ n ∧ n ≤ 122) ∨ (48 ≤ n ∧ n ≤ 57) ∨ n = 95 ∨ n = 46 ∨ n = 43 ∨ n = 45)

set_option maxHeartbeats 400000 in
theorem isByte_any (n : Int) (w : World) :
    Calls Tryz.prog 81 #[.int .u8 n] w fun e w' => e = .returned (.bool (isByteI n)) ∧ w = w' := by
  go_enter Tryz.func81, Tryz.ntmps81
  go_wp2
  all_goals (go_ret; refine ⟨ret_bool ?_, rfl⟩; rw [Bool.eq_iff_iff]; simp [isByteI] <;> omega)

def compB (l : List UInt8) : Bool := match l with
  | [] => false
  | c :: _ => c != 46 && l.all (fun c => isByteI c.toNat)

theorem head_data (s : ByteArray) (h : 0 < s.size) : ∃ r, s.data.toList = s[0] :: r := by
  have hl : s.data.toList.length = s.size := by simp
  cases e : s.data.toList with
  | nil => rw [e] at hl; simp at hl; omega
  | cons a r =>
    refine ⟨r, ?_⟩
    congr 1
    have : s[0] = s.data.toList[0]'(by omega) := by simp [ByteArray.getElem_eq_getElem_data]
    rw [this]; simp [e]

theorem compB_dot (s : ByteArray) (h : 0 < s.size) (hd : s[0] = 46) : compB s.data.toList = false := by
  obtain ⟨r, e⟩ := head_data s h
  rw [e, hd]; rfl
theorem compB_all (s : ByteArray) (h : 0 < s.size) (hd : ¬ s[0] = 46) : compB s.data.toList = s.data.toList.all (fun c => isByteI c.toNat) := by
  obtain ⟨r, e⟩ := head_data s h
  rw [e]
  simp [compB, hd]
theorem takeB_snoc (s : ByteArray) (k : Nat) (h : k < s.size) : s.data.toList.take (k + 1) = s.data.toList.take k ++ [s[k]] := by
  rw [List.take_succ_eq_append_getElem (by simpa using h)]; rfl
theorem all_not (s : ByteArray) (k : Nat) (h : k < s.size) (f : UInt8 → Bool) (hf : f s[k] = false) : s.data.toList.all f = false := by
  rw [← List.take_append_drop (k + 1) s.data.toList, takeB_snoc s k h]
  simp [hf]

set_option maxHeartbeats 400000 in
theorem comp_any (s : ByteArray) (w : World) (hs : s.size ≤ maxLen) :
    Calls Tryz.prog 31 #[.string s] w fun e w' => e = .returned (.bool (compB s.data.toList)) ∧ w = w' := by
  unfold maxLen at hs
  by_cases h0 : s.size = 0
  · have := eq_empty_of_size s h0
    subst this
    go_enter Tryz.func31, Tryz.ntmps31
    go_wp2_with fail
    go_ret
    exact ⟨rfl, rfl⟩
  · have hp : 0 < s.size := by omega
    have e1 := isEmpty_of_pos s hp
    have e2 := not_nil_of_pos s hp
    by_cases hd : s[0] = 46
    · have e3 : ((s[0].toNat : Int) == 46) = true := by rw [hd]; rfl
      clear h0
      go_enter Tryz.func31, Tryz.ntmps31
      go_wp2_with fail
      go_ret
      exact ⟨ret_bool (compB_dot s hp hd).symm, rfl⟩
    · have e3 : ((s[0].toNat : Int) == 46) = false := by
        rw [beq_eq_false_iff_ne]; intro e; apply hd; apply UInt8.toNat_inj.1; show _ = 46; omega
      clear h0
      go_enter Tryz.func31, Tryz.ntmps31
      go_wp2_with fail
      have HA := Lib.hid (compB_all s hp hd)
      clear hd e1 e2 e3
      go_loop [13] (fun i => ∃ k : Nat, k ≤ s.size ∧ i = .int .i64 k ∧ Hid ((s.data.toList.take k).all (fun c => isByteI c.toNat) = true)) (fun i => s.size - (intOf i).toNat)
      case atStart => exact ⟨0, Nat.zero_le _, rfl, rfl⟩
      case round =>
        obtain ⟨k, hk, rfl, hall⟩ := hrel
        by_cases hlt : k < s.size
        · have hsn := Lib.hid (takeB_snoc s k hlt)
          cases hb : isByteI (s[k].toNat : Int)
          · go_wp2_with (go_at_call 81; refine (isByte_any _ _).mono ?_; rintro e w' ⟨rfl, rfl⟩)
            go_ret
            exact ⟨ret_bool (by rw [HA.out, all_not s k hlt _ hb]), rfl⟩
          · go_wp2_with (go_at_call 81; refine (isByte_any _ _).mono ?_; rintro e w' ⟨rfl, rfl⟩)
            go_round
            case rel => exact ⟨k + 1, by omega, by go_num, by show _ = true; rw [hsn.out, List.all_append, hall.out]; simp [hb]⟩
            case measure => simp [intOf]; omega
        · go_wp2_with fail
          go_ret
          exact ⟨ret_bool (by rw [HA.out, ← hall.out, List.take_of_length_le (by simp; omega)]), rfl⟩

/-- What 'Valid' computes behind the root: the components read so far, the one that is being read, what is left. -/
def validFrom (count : Nat) (cur : List UInt8) : List UInt8 → Bool
  | [] => compB cur && decide (1 ≤ count)
  | c :: r => if c = 47 then compB cur && validFrom (count + 1) [] r else validFrom count (cur ++ [c]) r
def validB (p : List UInt8) : Bool := match p with
  | 47 :: 47 :: r => validFrom 0 [] r
  | _ => false

theorem extract_toList (s : ByteArray) (i j : Nat) : (s.extract i j).toList = (s.data.toList.take j).drop i := by
  rw [toList_eq]
  simp [ByteArray.data_extract, List.drop_take]
theorem extract_data (s : ByteArray) (i j : Nat) : (s.extract i j).data.toList = (s.data.toList.take j).drop i := by
  rw [← toList_eq, extract_toList]

theorem prefix_yes (s p : ByteArray) (_h : p.size ≤ s.size) : ((s.extract 0 p.size).toList == p.toList) = p.data.toList.isPrefixOf s.data.toList := by
  rw [Bool.eq_iff_iff, beq_iff_eq, extract_toList, List.drop_zero, List.isPrefixOf_iff_prefix, List.prefix_iff_eq_take, toList_eq]
  have : p.data.toList.length = p.size := by simp
  rw [this]
  exact ⟨fun h => h.symm, fun h => h.symm⟩
theorem prefix_no (s p : ByteArray) (h : s.size < p.size) : p.data.toList.isPrefixOf s.data.toList = false := by
  cases e : p.data.toList.isPrefixOf s.data.toList with
  | false => rfl
  | true =>
    have := (List.isPrefixOf_iff_prefix.1 e).length_le
    simp at this
    have h1 : p.size = p.data.size := rfl
    have h2 : s.size = s.data.size := rfl
    omega

set_option maxHeartbeats 400000 in
theorem hasPrefix_any (s p : ByteArray) (w : World) (_hs : s.size ≤ maxLen) (_hp : p.size ≤ maxLen) :
    Calls Tryz.prog 30 #[.string s, .string p] w fun e w' => e = .returned (.bool (p.data.toList.isPrefixOf s.data.toList)) ∧ w = w' := by
  unfold maxLen at _hs _hp
  by_cases hlt : p.size ≤ s.size
  · have H := Lib.hid (prefix_yes s p hlt)
    go_enter Tryz.func30, Tryz.ntmps30
    go_wp2
    go_ret
    exact ⟨ret_bool H.out, rfl⟩
  · have H := Lib.hid (prefix_no s p (by omega))
    have hlt' : s.size < p.size := by omega
    go_enter Tryz.func30, Tryz.ntmps30
    go_wp2
    go_ret
    exact ⟨ret_bool H.out.symm, rfl⟩

theorem validB_no (l : List UInt8) (h : ([47, 47] : List UInt8).isPrefixOf l = false) : validB l = false := by
  unfold validB
  split
  · simp [List.isPrefixOf] at h
  · rfl
theorem validB_yes (l : List UInt8) (h : ([47, 47] : List UInt8).isPrefixOf l = true) : validB l = validFrom 0 [] (l.drop 2) ∧ 2 ≤ l.length := by
  obtain ⟨t, rfl⟩ := List.isPrefixOf_iff_prefix.1 h
  exact ⟨rfl, by simp⟩

/-- Where the loop of 'Valid' stands. -/
def VAt (l : List UInt8) (c b k : Nat) : Prop :=
  (k ≤ l.length ∧ validB l = validFrom c ((l.take k).drop b) (l.drop k)) ∨ (k = l.length + 1 ∧ validB l = decide (2 ≤ c))
theorem VAt.go {l : List UInt8} {c b k : Nat} (h : VAt l c b k) (hb : b ≤ k) (hk : k < l.length) (hc : ¬ l[k] = 47) : VAt l c b (k + 1) := by
  rcases h with ⟨_, h⟩ | ⟨h, _⟩
  · refine .inl ⟨by omega, ?_⟩
    rw [h, List.drop_eq_getElem_cons hk, validFrom, if_neg hc, List.take_succ_eq_append_getElem hk, List.drop_append_of_le_length (by simp; omega)]
  · omega
theorem VAt.next {l : List UInt8} {c b k : Nat} (h : VAt l c b k) (hk : k < l.length) (hc : l[k] = 47) (hcur : compB ((l.take k).drop b) = true) : VAt l (c + 1) (k + 1) (k + 1) := by
  rcases h with ⟨_, h⟩ | ⟨h, _⟩
  · refine .inl ⟨by omega, ?_⟩
    rw [h, List.drop_eq_getElem_cons hk, validFrom, if_pos hc, hcur, Bool.true_and]
    congr 1
    simp
  · omega
theorem VAt.end_ {l : List UInt8} {c b k : Nat} (h : VAt l c b k) (hk : k = l.length) (hcur : compB ((l.take k).drop b) = true) : VAt l (c + 1) (k + 1) (k + 1) := by
  rcases h with ⟨_, h⟩ | ⟨h, _⟩
  · refine .inr ⟨by omega, ?_⟩
    rw [h, hk, List.drop_length, validFrom]
    rw [hk] at hcur
    rw [hcur, Bool.true_and]
    simp
  · omega
theorem VAt.no {l : List UInt8} {c b k : Nat} (h : VAt l c b k) (hk : k ≤ l.length) (hc : ∀ h : k < l.length, l[k] = 47) (hcur : compB ((l.take k).drop b) = false) : validB l = false := by
  rcases h with ⟨_, h⟩ | ⟨h, _⟩
  · rw [h]
    by_cases hlt : k < l.length
    · rw [List.drop_eq_getElem_cons hlt, validFrom, if_pos (hc hlt), hcur, Bool.false_and]
    · have : k = l.length := by omega
      rw [this, List.drop_length, validFrom]
      rw [this] at hcur
      rw [hcur, Bool.false_and]
  · omega

set_option maxHeartbeats 800000 in
theorem valid_any (s : ByteArray) (w : World) (hs : s.size ≤ 4611686018427387904) :
    Calls Tryz.prog 14 #[.string s] w fun e w' => e = .returned (.bool (validB s.data.toList)) ∧ w = w' := by
  have hs' : s.size ≤ maxLen := by unfold maxLen; omega
  cases hr : ([47, 47] : List UInt8).isPrefixOf s.data.toList
  · have H := Lib.hid (validB_no _ hr)
    go_enter Tryz.func14, Tryz.ntmps14
    go_wp2_with (go_at_call 30; refine (hasPrefix_any _ _ _ hs' (by decide)).mono ?_; rintro e w' ⟨rfl, rfl⟩)
    go_ret
    exact ⟨ret_bool H.out.symm, rfl⟩
  · have hl : s.data.toList.length = s.size := by simp
    have hz := (validB_yes _ hr).2
    rw [hl] at hz
    have H0 : Hid (VAt s.data.toList 0 2 2) := .inl ⟨by omega, by rw [(validB_yes _ hr).1]; congr 1; simp⟩
    have HL := Lib.hid hl
    clear hl
    go_enter Tryz.func14, Tryz.ntmps14
    go_wp2_with (go_at_call 30; refine (hasPrefix_any _ _ _ hs' (by decide)).mono ?_; rintro e w' ⟨rfl, rfl⟩)
    clear hr
    go_loop [3, 4, 5] (fun c b i => ∃ cn bn k : Nat, cn ≤ k ∧ bn ≤ k ∧ k ≤ s.size + 1 ∧ c = .int .i64 cn ∧ b = .int .i64 bn ∧ i = .int .i64 k ∧ Hid (VAt s.data.toList cn bn k)) (fun _ _ i => s.size + 1 - (intOf i).toNat)
    case atStart => exact ⟨0, 2, 2, by omega, by omega, by omega, rfl, rfl, rfl, H0⟩
    case round =>
      obtain ⟨cn, bn, k, hck, hbk, hk, rfl, rfl, rfl, hv⟩ := hrel
      by_cases hlt : k < s.size
      · by_cases hc : s[k] = 47
        · have e3 : ((s[k].toNat : Int) != 47) = false := by rw [hc]; rfl
          have HC := Lib.hid hc
          clear hc
          have hx := extract_data s bn k
          cases hcur : compB ((s.data.toList.take k).drop bn)
          · have HX := Lib.hid hx
            clear hx
            have HCUR := Lib.hid hcur
            clear hcur
            go_wp2_with (go_at_call 31; refine (comp_any _ _ (by simp [ByteArray.size_extract]; omega)).mono ?_; rintro e w' ⟨rfl, rfl⟩; rw [HX.out, HCUR.out])
            go_ret
            exact ⟨ret_bool (hv.out.no (by rw [HL.out]; omega) (fun _ => HC.out) HCUR.out).symm, rfl⟩
          · have HX := Lib.hid hx
            clear hx
            have HCUR := Lib.hid hcur
            clear hcur
            go_wp2_with (go_at_call 31; refine (comp_any _ _ (by simp [ByteArray.size_extract]; omega)).mono ?_; rintro e w' ⟨rfl, rfl⟩; rw [HX.out, HCUR.out])
            go_round
            case rel => exact ⟨cn + 1, k + 1, k + 1, by omega, by omega, by omega, by go_num, by go_num, by go_num, hv.out.next (by rw [HL.out]; exact hlt) HC.out HCUR.out⟩
            case measure => simp [intOf]; omega
        · have e3 : ((s[k].toNat : Int) != 47) = true := by
            rw [bne_iff_ne]; intro e; apply hc; apply UInt8.toNat_inj.1; show _ = 47; omega
          go_wp2_with fail
          go_round
          case rel => exact ⟨cn, bn, k + 1, by omega, by omega, by omega, rfl, rfl, by go_num, hv.out.go hbk (by rw [HL.out]; exact hlt) hc⟩
          case measure => simp [intOf]; omega
      · by_cases hk2 : k = s.size
        · obtain rfl : k = s.size := hk2
          have hx := extract_data s bn s.size
          cases hcur : compB ((s.data.toList.take s.size).drop bn)
          · have HX := Lib.hid hx
            clear hx
            have HCUR := Lib.hid hcur
            clear hcur
            go_wp2_with (go_at_call 31; refine (comp_any _ _ (by simp [ByteArray.size_extract]; omega)).mono ?_; rintro e w' ⟨rfl, rfl⟩; rw [HX.out, HCUR.out])
            go_ret
            exact ⟨ret_bool (hv.out.no (by rw [HL.out]; omega) (fun h => by rw [HL.out] at h; omega) HCUR.out).symm, rfl⟩
          · have HX := Lib.hid hx
            clear hx
            have HCUR := Lib.hid hcur
            clear hcur
            go_wp2_with (go_at_call 31; refine (comp_any _ _ (by simp [ByteArray.size_extract]; omega)).mono ?_; rintro e w' ⟨rfl, rfl⟩; rw [HX.out, HCUR.out])
            go_round
            case rel => exact ⟨cn + 1, s.size + 1, s.size + 1, by omega, by omega, by omega, by go_num, by go_num, by go_num, hv.out.end_ HL.out.symm HCUR.out⟩
            case measure => simp [intOf]
        · have hk3 : k = s.size + 1 := by omega
          have HK := Lib.hid hk3
          have hk4 : s.size < k := by omega
          clear hk3 hk2
          go_wp2_with fail
          go_ret
          exact ⟨ret_bool (by rcases hv.out with ⟨h1, _⟩ | ⟨_, h2⟩
                              · rw [HL.out] at h1; omega
                              · rw [h2]; rw [Bool.eq_iff_iff]; simp; omega), rfl⟩
end Go.Proofs.YtocffknoeknabaaGreatDoor
