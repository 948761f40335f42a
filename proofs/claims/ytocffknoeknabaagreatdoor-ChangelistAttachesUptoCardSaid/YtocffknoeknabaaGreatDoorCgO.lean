/-
  Joined by a program of ours from our own texts.
-/
import Derived.Test.YtocffknoeknabaaGreatDoorPath
import Derived.Test.YtocffknoeknabaaGreatDoorShelf
import Derived.Lib.SplitLaws
import Derived.Lib.IndexAny
import Derived.Test.YtocffknoeknabaaGreatDoorCgA
import Derived.Lib.Bytealg
namespace Go.Proofs.YtocffknoeknabaaGreatDoor
section
open Go.RowKit

/-! The plain part: splitting at 47. -/
def splitA : List UInt8 → List (List UInt8)
  | [] => [[]]
  | c :: r => if c = 47 then [] :: splitA r else match splitA r with
    | [] => [[c]]
    | h :: t => (c :: h) :: t
theorem splitA_cons (l : List UInt8) : ∃ h t, splitA l = h :: t := by
  cases l with
  | nil => exact ⟨[], [], rfl⟩
  | cons c r =>
    unfold splitA
    split
    · exact ⟨_, _, rfl⟩
    · split <;> exact ⟨_, _, rfl⟩

theorem index_cons_ne (c : UInt8) (r : List UInt8) (h : ¬ c = 47) : Lib.index (c :: r) [47] = if Lib.index r [47] == -1 then -1 else Lib.index r [47] + 1 := by
  rw [Lib.index]
  have : ([47] : List UInt8).isPrefixOf (c :: r) = false := by
    simp [List.isPrefixOf]
    intro e; exact h e.symm
  rw [this]
  rfl
theorem index_cons_eq (r : List UInt8) : Lib.index (47 :: r) [47] = 0 := by
  rw [Lib.index]
  simp [List.isPrefixOf]
theorem splitK_is (l : List UInt8) : Lib.splitK [47] 0 (l.count 47) l = splitA l := by
  induction l with
  | nil => rfl
  | cons c r ih =>
    by_cases h : c = 47
    · subst h
      rw [List.count_cons_self, Lib.splitK, index_cons_eq]
      simp [splitA, ih]
    · rw [List.count_cons_of_ne (by simpa using h)]
      unfold splitA
      rw [if_neg h, ← ih]
      cases hk : r.count 47 with
      | zero => simp [Lib.splitK]
      | succ k =>
        rw [Lib.splitK, Lib.splitK, index_cons_ne c r h]
        have hge := Lib.index_ge r [47]
        by_cases hi : Lib.index r [47] = -1
        · simp [hi]
        · have h1 : (Lib.index r [47] == -1) = false := by simpa using hi
          have h2 : ((Lib.index r [47] + 1) == -1) = false := by
            rw [beq_eq_false_iff_ne]; omega
          simp only [h1, h2, Bool.false_eq_true, if_false]
          have e1 : (Lib.index r [47] + 1).toNat = (Lib.index r [47]).toNat + 1 := by omega
          rw [e1]
          simp only [Nat.add_zero, List.take_succ_cons, List.length_singleton, List.drop_succ_cons]
theorem validFrom_is (l : List UInt8) : ∀ (n : Nat) (cur h : List UInt8) (t : List (List UInt8)), splitA l = h :: t → validFrom n cur l = (compB (cur ++ h) && t.all compB && decide (1 ≤ n + t.length)) := by
  induction l with
  | nil =>
    intro n cur h t e
    simp only [splitA, List.cons.injEq] at e
    obtain ⟨rfl, rfl⟩ := e
    simp [validFrom]
  | cons c r ih =>
    intro n cur h t e
    obtain ⟨h', t', e'⟩ := splitA_cons r
    unfold splitA at e
    unfold validFrom
    by_cases hc : c = 47
    · rw [if_pos hc] at e
      rw [if_pos hc]
      simp only [List.cons.injEq] at e
      obtain ⟨rfl, rfl⟩ := e
      rw [ih (n + 1) [] h' t' e', e']
      simp [Bool.and_assoc]
      rw [show n + 1 + t'.length = n + (t'.length + 1) from by omega]
    · rw [if_neg hc, e'] at e
      rw [if_neg hc]
      simp only [List.cons.injEq] at e
      obtain ⟨rfl, rfl⟩ := e
      rw [ih n (cur ++ [c]) h' t' e']
      simp
/-- What 'Valid' answers, in the reference's words. -/
theorem validB_split (r : List UInt8) : validB (47 :: 47 :: r) = ((splitA r).all compB && decide (2 ≤ (splitA r).length)) := by
  obtain ⟨h, t, e⟩ := splitA_cons r
  show validFrom 0 [] r = _
  rw [validFrom_is r 0 [] h t e, e]
  simp

def lettersL : List UInt8 := [65, 66, 67, 68, 69, 70, 71, 72, 73, 74, 75, 76, 77, 78, 79, 80, 81, 82, 83, 84, 85, 86, 87, 88, 89, 90, 97, 98, 99, 100, 101, 102, 103, 104, 105, 106, 107, 108, 109, 110, 111, 112, 113, 114, 115, 116, 117, 118, 119, 120, 121, 122, 48, 49, 50, 51, 52, 53, 54, 55, 56, 57, 95, 46, 43, 45]
theorem letters_is (c : UInt8) : decide (Lib.indexByte lettersL c < 0) = !isByteI c.toNat := by
  have h : ∀ n : Fin 256, decide (Lib.indexByte lettersL (UInt8.ofNat n.val) < 0) = !isByteI (UInt8.ofNat n.val).toNat := by decide +kernel
  have := h ⟨c.toNat, c.toNat_lt⟩
  simpa using this

/-! The walks. -/
theorem indexByte_letters (s : ByteArray) (k : Nat) (h : k < s.size) (w : World) :
    Calls Tryz.prog 170 #[.string ⟨lettersL.toArray⟩, .int .u8 (s[k].toNat : Int)] w fun e w' => e = .returned (.int .i64 (Lib.indexByte lettersL s[k])) ∧ w = w' :=
  (Tryz.strings_IndexByte ⟨lettersL.toArray⟩ (s[k].toNat : Int) w).mono fun e w' ⟨he, hw⟩ => ⟨by rw [he]; simp, hw.symm⟩

set_option maxHeartbeats 400000 in
theorem rcomp_any (s : ByteArray) (w : World) (hs : s.size ≤ maxLen) :
    Calls Tryz.prog 148 #[.string s] w fun e w' => e = .returned (.bool (compB s.data.toList)) ∧ w = w' := by
  unfold maxLen at hs
  by_cases h0 : s.size = 0
  · have := eq_empty_of_size s h0
    subst this
    go_enter Tryz.func148, Tryz.ntmps148
    go_wp2_with fail
    go_ret
    exact ⟨rfl, rfl⟩
  · have hp : 0 < s.size := by omega
    have e1 := isEmpty_of_pos s hp
    have e2 := not_nil_of_pos s hp
    by_cases hd : s[0] = 46
    · have e3 : ((s[0].toNat : Int) == 46) = true := by rw [hd]; rfl
      clear h0
      go_enter Tryz.func148, Tryz.ntmps148
      go_wp2_with fail
      go_ret
      exact ⟨ret_bool (compB_dot s hp hd).symm, rfl⟩
    · have e3 : ((s[0].toNat : Int) == 46) = false := by
        rw [beq_eq_false_iff_ne]; intro e; apply hd; apply UInt8.toNat_inj.1; show _ = 46; omega
      clear h0
      go_enter Tryz.func148, Tryz.ntmps148
      go_wp2_with fail
      have HA := Lib.hid (compB_all s hp hd)
      clear hd e1 e2 e3
      go_loop [3] (fun i => ∃ k : Nat, k ≤ s.size ∧ i = .int .i64 k ∧ Hid ((s.data.toList.take k).all (fun c => isByteI c.toNat) = true)) (fun i => s.size - (intOf i).toNat)
      case atStart => exact ⟨0, Nat.zero_le _, rfl, rfl⟩
      case round =>
        obtain ⟨k, hk, rfl, hall⟩ := hrel
        by_cases hlt : k < s.size
        · have hsn := Lib.hid (takeB_snoc s k hlt)
          have hle := letters_is s[k]
          have hc := Lib.hid (indexByte_letters s k hlt)
          cases hb : isByteI (s[k].toNat : Int)
          · rw [hb] at hle
            have hl2 : Lib.indexByte lettersL s[k] < 0 := by simpa using hle
            clear hle
            go_wp2_with fail
            refine (hc.out _).mono ?_
            rintro e w' ⟨rfl, rfl⟩
            go_wp2_with fail
            go_ret
            exact ⟨ret_bool (by rw [HA.out, all_not s k hlt _ hb]), rfl⟩
          · rw [hb] at hle
            have hl2 : 0 ≤ Lib.indexByte lettersL s[k] := by simpa using hle
            clear hle
            go_wp2_with fail
            refine (hc.out _).mono ?_
            rintro e w' ⟨rfl, rfl⟩
            go_wp2_with fail
            go_round
            case rel => exact ⟨k + 1, by omega, by go_num, by show _ = true; rw [hsn.out, List.all_append, hall.out]; simp [hb]⟩
            case measure => simp [intOf]; omega
        · go_wp2_with fail
          go_ret
          exact ⟨ret_bool (by rw [HA.out, ← hall.out, List.take_of_length_le (by simp; omega)]), rfl⟩

/-- The components of a path as the reference splits it. -/
def partsB (p : ByteArray) : List ByteArray := Lib.splitB ⟨#[47]⟩ 0 (Lib.countB (p.extract 2 p.size) ⟨#[47]⟩) (p.extract 2 p.size)
theorem partsB_data (p : ByteArray) : (partsB p).map (·.data.toList) = splitA (p.data.toList.drop 2) := by
  unfold partsB
  rw [Lib.splitB_data, Lib.extract_to_end]
  have : Lib.countB (p.extract 2 p.size) ⟨#[47]⟩ = (p.data.toList.drop 2).count 47 := by
    show Lib.count (p.extract 2 p.size).data.toList [47] = _
    rw [Lib.extract_to_end, Lib.count_one]
  rw [this]
  exact splitK_is _
theorem partsB_len (p : ByteArray) : (partsB p).length = Lib.countB (p.extract 2 p.size) ⟨#[47]⟩ + 1 := Lib.splitB_all _ (by decide) 0 _ _ rfl
theorem all_parts (p : ByteArray) : (splitA (p.data.toList.drop 2)).all compB = (partsB p).all (fun s => compB s.data.toList) := by
  rw [← partsB_data, List.all_map]
  rfl
theorem part_size (p s : ByteArray) (h : s ∈ partsB p) : s.size ≤ p.size := by
  have : ∀ (k : Nat) (q : ByteArray), ∀ s ∈ Lib.splitB ⟨#[47]⟩ 0 k q, s.size ≤ q.size := by
    intro k
    induction k with
    | zero => intro q s hs; simp [Lib.splitB] at hs; subst hs; exact Nat.le_refl _
    | succ k ih =>
      intro q s hs
      unfold Lib.splitB at hs
      split at hs
      · simp at hs; subst hs; exact Nat.le_refl _
      · rcases List.mem_cons.1 hs with rfl | hs
        · simp [ByteArray.size_extract]; omega
        · have := ih _ s hs
          simp [ByteArray.size_extract] at this
          omega
  have h2 := this _ _ s h
  simp [ByteArray.size_extract] at h2
  omega

/-- Strings that lie in a row from the head of a block on. -/
def StrsAt (b : Nat) (l : List ByteArray) (w : World) : Prop := ∀ (i : Nat) (s : ByteArray), l[i]? = some s → w.cell? ⟨b, i, none⟩ = some (.string s)
theorem strs_new (w : World) (l : List ByteArray) (T : TypeId) : StrsAt w.heap.size l (w.alloc (.cells (l.map Value.string).toArray T)) := by
  intro i s h
  have hb : (w.alloc (.cells (l.map Value.string).toArray T)).heap[w.heap.size]? = some (.cells (l.map Value.string).toArray T (0, 0)) := (MapKept.heap_alloc w _).1
  unfold World.cell?
  dsimp only
  rw [hb]
  simp [h]
theorem StrsAt.below {b B : Nat} {l : List ByteArray} {w w' : World} (h : StrsAt b l w) (hb : Below B w w') (hB : b < B) : StrsAt b l w' := fun i s hs => (hb.cell (p := ⟨b, i, none⟩) hB).trans (h i s hs)

/-- The variable that the library's search reads. -/
def G0 (w : World) : Prop := ∃ m, w.cell? ⟨0, 0, none⟩ = some (.int .i64 m)
theorem G0.below {w w' : World} (h : G0 w) (hb : Below w.heap.size w w') : G0 w' := by
  obtain ⟨m, hm⟩ := h
  exact ⟨m, (hb.cell (p := ⟨0, 0, none⟩) (by
    unfold World.cell? at hm
    split at hm
    · rename_i hh; exact (Array.getElem?_eq_some_iff.1 hh).1
    · cases hm)).trans hm⟩

/-- What 'Parts' and 'Path' leave. -/
structure PartsYes (p : ByteArray) (w : World) (e : Ending) (w' : World) : Prop where
  ret : e = .returned (.tuple #[.slice (some ⟨w.heap.size, 0, none⟩) (partsB p).length (partsB p).length, .bool true])
  strs : StrsAt w.heap.size (partsB p) w'
  lt : w.heap.size < w'.heap.size
  old : Below w.heap.size w w'

set_option maxHeartbeats 800000 in
theorem parts_pre (p : ByteArray) (w : World) (hs : p.size < 4294967281) (h : ([47, 47] : List UInt8).isPrefixOf p.data.toList = false) :
    Calls Tryz.prog 140 #[.string p] w fun e w' => e = .returned (.tuple #[.slice none 0 0, .bool false]) ∧ Below w.heap.size w w' := by
  go_enter Tryz.func140, Tryz.ntmps140
  go_wp2_with (go_at_call 30; refine (hasPrefix_any _ _ _ (by unfold maxLen; omega) (by decide)).mono ?_; rintro e w' ⟨rfl, rfl⟩)
  go_ret2
  exact ⟨rfl, Below.refl _ _⟩

theorem split_call (p : ByteArray) (w : World) (hs : p.size < 4294967281) (hg : G0 w) :
    Calls Tryz.prog 161 #[.string (p.extract 2 p.size), .string ⟨#[47]⟩] w fun e w' => e = .returned (.slice (some ⟨w.heap.size, 0, none⟩) (partsB p).length (partsB p).length) ∧ StrsAt w.heap.size (partsB p) w' ∧ w.heap.size < w'.heap.size ∧ Below w.heap.size w w' := by
  obtain ⟨mx, hmx⟩ := hg
  refine (Tryz.strings_Split (p.extract 2 p.size) ⟨#[47]⟩ mx w (by simp [ByteArray.size_extract]; omega) hmx (by decide)).mono ?_
  rintro e w' ⟨rfl, rfl⟩
  rw [partsB_len]
  exact ⟨rfl, strs_new w (partsB p) _, by simp, (Below.refl _ _).alloc (Nat.le_refl _) _⟩

set_option maxHeartbeats 800000 in
theorem parts_no (p : ByteArray) (w : World) (hs : p.size < 4294967281) (hg : G0 w) (h : ([47, 47] : List UInt8).isPrefixOf p.data.toList = true) (ha : (partsB p).all (fun s => compB s.data.toList) = false) :
    Calls Tryz.prog 140 #[.string p] w fun e w' => e = .returned (.tuple #[.slice none 0 0, .bool false]) ∧ Below w.heap.size w w' := by
  have h2 : 2 ≤ p.size := by
    have := (validB_yes _ h).2
    simpa using this
  have HA := Lib.hid ha
  clear ha
  have hlen : (partsB p).length ≤ 4294967282 := by
    rw [partsB_len]
    have := Lib.countB_le ⟨#[47]⟩ (by decide) (p.extract 2 p.size).size (p.extract 2 p.size) (Nat.le_refl _)
    simp [ByteArray.size_extract] at this
    omega
  go_enter Tryz.func140, Tryz.ntmps140
  go_wp2_with (go_at_call 30; refine (hasPrefix_any _ _ _ (by unfold maxLen; omega) (by decide)).mono ?_; rintro e w' ⟨rfl, rfl⟩)
  refine (split_call p w hs hg).mono ?_
  rintro e w1 ⟨rfl, hst, hlt1, HB⟩
  go_wp2_with fail
  clear h hg
  go_loop [15] (fun i => ∃ k : Nat, k ≤ (partsB p).length ∧ i = .int .i64 k ∧ Hid (((partsB p).take k).all (fun s => compB s.data.toList) = true)) (fun i => (partsB p).length - (intOf i).toNat)
  case atStart => exact ⟨0, Nat.zero_le _, rfl, rfl⟩
  case round =>
    obtain ⟨k, hk, rfl, hall⟩ := hrel
    by_cases hlt : k < (partsB p).length
    · have hc := hst k (partsB p)[k] (List.getElem?_eq_getElem hlt)
      have hz := part_size p (partsB p)[k] (List.getElem_mem hlt)
      have hsn := Lib.hid (List.take_succ_eq_append_getElem hlt)
      cases hb : compB (partsB p)[k].data.toList
      · have HBb := Lib.hid hb
        clear hb
        go_wp2_with fail
        refine (rcomp_any _ _ (by unfold maxLen; omega)).mono ?_
        rintro e w' ⟨rfl, rfl⟩
        rw [HBb.out]
        go_wp2_with fail
        go_ret2
        exact ⟨rfl, HB⟩
      · have HBb := Lib.hid hb
        clear hb
        go_wp2_with fail
        refine (rcomp_any _ _ (by unfold maxLen; omega)).mono ?_
        rintro e w' ⟨rfl, rfl⟩
        rw [HBb.out]
        go_wp2_with fail
        go_round
        case rel => exact ⟨k + 1, by omega, by go_num, by show _ = true; rw [hsn.out, List.all_append, hall.out]; simp [HBb.out]⟩
        case measure => simp [intOf]; omega
    · exfalso
      have := hall.out
      rw [List.take_of_length_le (by omega), HA.out] at this
      cases this

set_option maxHeartbeats 800000 in
theorem parts_yes (p : ByteArray) (w : World) (hs : p.size < 4294967281) (hg : G0 w) (h : ([47, 47] : List UInt8).isPrefixOf p.data.toList = true) (ha : (partsB p).all (fun s => compB s.data.toList) = true) :
    Calls Tryz.prog 140 #[.string p] w (PartsYes p w) := by
  have h2 : 2 ≤ p.size := by
    have := (validB_yes _ h).2
    simpa using this
  have HA := Lib.hid ha
  clear ha
  have hlen : (partsB p).length ≤ 4294967282 := by
    rw [partsB_len]
    have := Lib.countB_le ⟨#[47]⟩ (by decide) (p.extract 2 p.size).size (p.extract 2 p.size) (Nat.le_refl _)
    simp [ByteArray.size_extract] at this
    omega
  go_enter Tryz.func140, Tryz.ntmps140
  go_wp2_with (go_at_call 30; refine (hasPrefix_any _ _ _ (by unfold maxLen; omega) (by decide)).mono ?_; rintro e w' ⟨rfl, rfl⟩)
  refine (split_call p w hs hg).mono ?_
  rintro e w1 ⟨rfl, hst, hlt1, HB⟩
  go_wp2_with fail
  clear h hg
  go_loop [15] (fun i => ∃ k : Nat, k ≤ (partsB p).length ∧ i = .int .i64 k) (fun i => (partsB p).length - (intOf i).toNat)
  case atStart => exact ⟨0, Nat.zero_le _, rfl⟩
  case round =>
    obtain ⟨k, hk, rfl⟩ := hrel
    by_cases hlt : k < (partsB p).length
    · have hc := hst k (partsB p)[k] (List.getElem?_eq_getElem hlt)
      have hz := part_size p (partsB p)[k] (List.getElem_mem hlt)
      have HBb : Hid (compB (partsB p)[k].data.toList = true) := List.all_eq_true.1 HA.out _ (List.getElem_mem hlt)
      go_wp2_with fail
      refine (rcomp_any _ _ (by unfold maxLen; omega)).mono ?_
      rintro e w' ⟨rfl, rfl⟩
      rw [HBb.out]
      go_wp2_with fail
      go_round
      case rel => exact ⟨k + 1, by omega, by go_num⟩
      case measure => simp [intOf]; omega
    · go_wp2_with fail
      go_ret2
      exact ⟨rfl, hst, hlt1, HB⟩
end
section
open Go.RowKit

/-- The order of two lists of components. -/
def ccmp : List (List UInt8) → List (List UInt8) → Int
  | [], [] => 0
  | [], _ :: _ => -1
  | _ :: _, [] => 1
  | x :: xs, y :: ys => if Lib.compareBytes x y = 0 then ccmp xs ys else Lib.compareBytes x y
theorem splitA_47 (r : List UInt8) : splitA (47 :: r) = [] :: splitA r := by rw [splitA, if_pos rfl]
theorem splitA_ne {c : UInt8} {r : List UInt8} (h : ¬ c = 47) {x : List UInt8} {t : List (List UInt8)} (e : splitA r = x :: t) : splitA (c :: r) = (c :: x) :: t := by rw [splitA, if_neg h, e]
theorem ccmp_split : ∀ (a b : List UInt8), ccmp (splitA a) (splitA b) = pcmp a b
  | [], [] => by simp [splitA, ccmp, Lib.compareBytes, pcmp]
  | [], y :: ys => by
    by_cases hy : y = 47
    · subst hy
      obtain ⟨x, t, e⟩ := splitA_cons ys
      rw [splitA_47, e]
      simp [splitA, ccmp, Lib.compareBytes, pcmp]
    · obtain ⟨x, t, e⟩ := splitA_cons ys
      rw [splitA_ne hy e]
      simp [splitA, ccmp, Lib.compareBytes, pcmp]
  | x :: xs, [] => by
    by_cases hy : x = 47
    · subst hy
      obtain ⟨x, t, e⟩ := splitA_cons xs
      rw [splitA_47, e]
      simp [splitA, ccmp, Lib.compareBytes, pcmp]
    · obtain ⟨u, t, e⟩ := splitA_cons xs
      rw [splitA_ne hy e]
      simp [splitA, ccmp, Lib.compareBytes, pcmp]
  | x :: xs, y :: ys => by
    have ih := ccmp_split xs ys
    obtain ⟨u, t, eu⟩ := splitA_cons xs
    obtain ⟨v, s, ev⟩ := splitA_cons ys
    unfold pcmp
    by_cases e : x = y
    · subst e
      rw [if_pos rfl, ← ih]
      by_cases hx : x = 47
      · subst hx
        rw [splitA_47, splitA_47]
        simp [ccmp, Lib.compareBytes]
      · rw [splitA_ne hx eu, splitA_ne hx ev, eu, ev]
        simp [ccmp, Lib.compareBytes]
    · rw [if_neg e]
      by_cases hx : x = 47
      · subst hx
        have hy : ¬ y = 47 := fun h => e h.symm
        rw [splitA_47, splitA_ne hy ev, if_pos rfl]
        simp [ccmp, Lib.compareBytes]
      · by_cases hy : y = 47
        · subst hy
          rw [splitA_47, splitA_ne hx eu, if_neg hx, if_pos rfl]
          simp [ccmp, Lib.compareBytes]
        · rw [splitA_ne hx eu, splitA_ne hy ev, if_neg hx, if_neg hy]
          by_cases hl : x < y
          · rw [if_pos hl]
            simp [ccmp, Lib.compareBytes, hl]
          · have hl2 : y < x := by
              rcases UInt8.lt_or_lt_of_ne e with h | h
              · exact absurd h hl
              · exact h
            rw [if_neg hl]
            simp [ccmp, Lib.compareBytes, hl, hl2]
end
section
open Go.RowKit

theorem valid_parts (p : ByteArray) : validB p.data.toList = (([47, 47] : List UInt8).isPrefixOf p.data.toList && (partsB p).all (fun s => compB s.data.toList) && decide (2 ≤ (partsB p).length)) := by
  cases h : ([47, 47] : List UInt8).isPrefixOf p.data.toList
  · rw [validB_no _ h]; rfl
  · obtain ⟨t, ht⟩ := List.isPrefixOf_iff_prefix.1 h
    have hl : (partsB p).length = (splitA (p.data.toList.drop 2)).length := by rw [← partsB_data, List.length_map]
    rw [← all_parts, hl, ← ht]
    show validB (47 :: 47 :: t) = _
    rw [validB_split]
    simp

set_option maxHeartbeats 400000 in
theorem rpath_no (p : ByteArray) (w : World) (hs : p.size < 4294967281) (hg : G0 w) (h : validB p.data.toList = false) :
    Calls Tryz.prog 103 #[.string p] w fun e w' => e = .returned (.tuple #[.slice none 0 0, .bool false]) ∧ Below w.heap.size w w' := by
  rw [valid_parts] at h
  have key : ∀ (h1 : ∀ W, W = w → Calls Tryz.prog 140 #[.string p] W fun e w' => e = .returned (.tuple #[.slice none 0 0, .bool false]) ∧ Below w.heap.size w w'), Calls Tryz.prog 103 #[.string p] w fun e w' => e = .returned (.tuple #[.slice none 0 0, .bool false]) ∧ Below w.heap.size w w' := by
    intro h1
    have H := Lib.hid h1
    clear h1 h
    go_enter Tryz.func103, Tryz.ntmps103
    go_wp2_with fail
    refine (H.out _ rfl).mono ?_
    rintro e w1 ⟨rfl, HB⟩
    go_wp2_with fail
    go_ret2
    exact ⟨rfl, HB⟩
  cases h1 : ([47, 47] : List UInt8).isPrefixOf p.data.toList
  · exact key fun W hW => by subst hW; exact parts_pre p W hs h1
  · cases h2 : (partsB p).all (fun s => compB s.data.toList)
    · exact key fun W hW => by subst hW; exact parts_no p W hs hg h1 h2
    · rw [h1, h2] at h
      have h3 : (partsB p).length < 2 := by simpa using h
      have H := Lib.hid (parts_yes p w hs hg h1 h2)
      clear h h1 h2 key
      go_enter Tryz.func103, Tryz.ntmps103
      go_wp2_with fail
      refine H.out.mono ?_
      rintro e w1 ⟨rfl, hq, _, HB⟩
      clear hq H
      generalize (partsB p).length = n at h3 ⊢
      have h4 : decide ((n : Int) < 2) = true := by simp; omega
      go_wp2_with fail
      go_ret2
      exact ⟨rfl, HB⟩
set_option maxHeartbeats 400000 in
theorem rpath_yes (p : ByteArray) (w : World) (hs : p.size < 4294967281) (hg : G0 w) (h : validB p.data.toList = true) :
    Calls Tryz.prog 103 #[.string p] w (PartsYes p w) := by
  rw [valid_parts] at h
  simp only [Bool.and_eq_true, decide_eq_true_eq] at h
  obtain ⟨⟨h1, h2⟩, h3⟩ := h
  go_enter Tryz.func103, Tryz.ntmps103
  go_wp2_with fail
  refine (parts_yes p w hs hg h1 h2).mono ?_
  rintro e w1 ⟨rfl, hst, hlt, HB⟩
  go_wp2_with fail
  go_ret2
  exact ⟨rfl, hst, hlt, HB⟩

def useB (p : ByteArray) : Bool := decide (p.size ≤ 200) && validB p.data.toList
set_option maxHeartbeats 400000 in
theorem usable18_any (p : ByteArray) (w : World) (hs : p.size < 4294967281) (hg : G0 w) :
    Calls Tryz.prog 119 #[.string p] w fun e w' => e = .returned (.bool (useB p)) ∧ Below w.heap.size w w' := by
  cases h : validB p.data.toList
  · go_enter Tryz.func119, Tryz.ntmps119
    go_wp2_with fail
    refine (rpath_no p w hs hg h).mono ?_
    rintro e w1 ⟨rfl, HB⟩
    go_wp2_with fail
    go_ret
    exact ⟨ret_bool (by simp [useB, h]), HB⟩
  · go_enter Tryz.func119, Tryz.ntmps119
    go_wp2_with fail
    refine (rpath_yes p w hs hg h).mono ?_
    rintro e w1 ⟨rfl, hst, hlt, HB⟩
    go_wp2_with fail
    go_ret
    exact ⟨ret_bool (by rw [Bool.eq_iff_iff]; simp [useB, h]; omega), HB⟩
end
section
open Go.RowKit

def dat (L : List ByteArray) : List (List UInt8) := L.map (·.data.toList)
theorem ccmp_at {L1 L2 : List ByteArray} {k : Nat} (h1 : k < L1.length) (h2 : k < L2.length) : ccmp (dat (L1.drop k)) (dat (L2.drop k)) = if Lib.compareBytes L1[k].data.toList L2[k].data.toList = 0 then ccmp (dat (L1.drop (k + 1))) (dat (L2.drop (k + 1))) else Lib.compareBytes L1[k].data.toList L2[k].data.toList := by
  rw [List.drop_eq_getElem_cons h1, List.drop_eq_getElem_cons h2]
  simp only [dat, List.map_cons, ccmp]
theorem ccmp_end {L1 L2 : List ByteArray} {k : Nat} (hk1 : k ≤ L1.length) (hk2 : k ≤ L2.length) (h : k = L1.length ∨ k = L2.length) : ccmp (dat (L1.drop k)) (dat (L2.drop k)) = if L1.length < L2.length then -1 else if L2.length < L1.length then 1 else 0 := by
  have e1 : (dat (L1.drop k)).length = L1.length - k := by simp [dat]
  have e2 : (dat (L2.drop k)).length = L2.length - k := by simp [dat]
  cases h1 : dat (L1.drop k) with
  | nil =>
    rw [h1] at e1
    simp only [List.length_nil] at e1
    cases h2 : dat (L2.drop k) with
    | nil =>
      rw [h2] at e2
      simp only [List.length_nil] at e2
      rw [if_neg (by omega), if_neg (by omega)]; rfl
    | cons b t =>
      rw [h2] at e2
      simp only [List.length_cons] at e2
      rw [if_pos (by omega)]; rfl
  | cons a s =>
    rw [h1] at e1
    simp only [List.length_cons] at e1
    cases h2 : dat (L2.drop k) with
    | nil =>
      rw [h2] at e2
      simp only [List.length_nil] at e2
      rw [if_neg (by omega), if_pos (by omega)]; rfl
    | cons b t =>
      rw [h2] at e2
      simp only [List.length_cons] at e2
      omega

set_option maxRecDepth 100000 in
set_option maxHeartbeats 1600000 in
theorem rcompare_any (b1 b2 : Nat) (L1 L2 : List ByteArray) (w : World) (h1 : StrsAt b1 L1 w) (h2 : StrsAt b2 L2 w) (l1 : b1 < w.heap.size) (l2 : b2 < w.heap.size) (n1 : L1.length ≤ 4294967282) (_n2 : L2.length ≤ 4294967282) :
    Calls Tryz.prog 105 #[.slice (some ⟨b1, 0, none⟩) L1.length L1.length, .slice (some ⟨b2, 0, none⟩) L2.length L2.length] w fun e w' => e = .returned (.int .i64 (ccmp (dat L1) (dat L2))) ∧ Below w.heap.size w w' := by
  have H1 := Lib.hid h1
  have H2 := Lib.hid h2
  clear h1 h2
  go_enter Tryz.func105, Tryz.ntmps105
  go_wp2_with fail
  go_loopw [5] (fun i wr => ∃ k : Nat, i = .int .i64 k ∧ k ≤ L1.length ∧ k ≤ L2.length ∧ Below w.heap.size w wr ∧ Hid (ccmp (dat L1) (dat L2) = ccmp (dat (L1.drop k)) (dat (L2.drop k)))) (fun i _ => L1.length - (intOf i).toNat)
  case atStart => exact ⟨0, rfl, Nat.zero_le _, Nat.zero_le _, Below.refl _ _, rfl⟩
  case round =>
    obtain ⟨k, rfl, hk1, hk2, hb, hc⟩ := hrel
    by_cases q1 : k < L1.length
    · by_cases q2 : k < L2.length
      · have q1' : (k : Int) < (L1.length : Int) := by omega
        have q2' : (k : Int) < (L2.length : Int) := by omega
        have c1 : wr.cell? ⟨b1, k, none⟩ = some (.string L1[k]) := (hb.cell (p := ⟨b1, k, none⟩) l1).trans (H1.out k _ (List.getElem?_eq_getElem q1))
        have c2 : wr.cell? ⟨b2, k, none⟩ = some (.string L2[k]) := (hb.cell (p := ⟨b2, k, none⟩) l2).trans (H2.out k _ (List.getElem?_eq_getElem q2))
        have HST := Lib.hid (ccmp_at q1 q2)
        have HC : Hid (∀ y : Held (Below wr.heap.size wr), Calls Tryz.prog 104 #[.string L1[k], .string L2[k]] y.w fun e w'' => e = .returned (.int .i64 (Lib.compareBytes L1[k].data.toList L2[k].data.toList)) ∧ ∃ z : Held (Below wr.heap.size wr), w'' = z.w) :=
          fun y => (Tryz.strings_Compare L1[k] L2[k] y.w).mono (by rintro e w'' ⟨rfl, rfl⟩; exact ⟨rfl, y, rfl⟩)
        have HB := Lib.hid hb
        have hbs := hb.size
        have hS : Below wr.heap.size wr wr.drew := (Below.refl _ _).drew
        have HL1 : Hid (b1 < wr.heap.size) := Nat.lt_of_lt_of_le l1 hbs
        have HL2 : Hid (b2 < wr.heap.size) := Nat.lt_of_lt_of_le l2 hbs
        have HCC := Lib.hid hc.out
        clear hb hc
        generalize L1[k] = x1 at *
        generalize L2[k] = x2 at *
        obtain ⟨cv, hcv⟩ : ∃ cv, Lib.compareBytes x1.data.toList x2.data.toList = cv := ⟨_, rfl⟩
        rw [hcv] at HST HC
        clear hcv
        have C1 := Lib.hid c1
        have C2 := Lib.hid c2
        clear c1 c2
        go_wp2_with fail
        (refine wp_region_s (S := Below wr.heap.size wr) (by kernel_rfl) (by kernel_rfl) hS ?_; have hN : Nonempty (Held (Below wr.heap.size wr)) := ⟨⟨_, hS⟩⟩; (have v1 : ∀ y : Held (Below wr.heap.size wr), y.w.cell? ⟨b1, k, none⟩ = some (.string x1) := fun y => (((bcell y.ok).1 b1 k HL1.out).trans C1.out); have v2 : ∀ y : Held (Below wr.heap.size wr), y.w.cell? ⟨b2, k, none⟩ = some (.string x2) := fun y => (((bcell y.ok).1 b2 k HL2.out).trans C2.out)); (repeat (go_big_quiet_step ((go_at_call 104; exact HC.out _)))); refine wpQuiet_nil ?_; rintro _ ⟨⟨x, hx⟩, rfl⟩; clear hN)
        clear v1 v2
        have HX := Lib.hid (HB.out.trans (hx.mono hbs))
        by_cases hz : cv = 0
        · subst hz
          go_wp2_with fail
          go_round
          case rel => exact ⟨k + 1, by go_num, by omega, by omega, HX.out, by show _ = _; rw [HCC.out, HST.out]; rfl⟩
          case measure => simp [intOf]; omega
        · have hz' : (cv == 0) = false := by simpa using hz
          go_wp2_with fail
          go_ret
          exact ⟨by rw [HCC.out, HST.out, if_neg hz]; rfl, HX.out⟩
      · obtain rfl : k = L2.length := by omega
        have he := ccmp_end hk1 hk2 (.inr rfl)
        rw [if_neg (by omega), if_pos (by omega)] at he
        have HE := Lib.hid (hc.out.trans he)
        have q1' : (L2.length : Int) < (L1.length : Int) := by omega
        have q2' : ¬ (L1.length : Int) < (L2.length : Int) := by omega
        clear he hc
        go_wp2_with fail
        go_ret
        exact ⟨by rw [HE.out]; rfl, hb⟩
    · obtain rfl : k = L1.length := by omega
      have he := ccmp_end hk1 hk2 (.inl rfl)
      by_cases q2 : L1.length < L2.length
      · rw [if_pos q2] at he
        have HE := Lib.hid (hc.out.trans he)
        have q2' : (L1.length : Int) < (L2.length : Int) := by omega
        clear he hc
        go_wp2_with fail
        go_ret
        exact ⟨by rw [HE.out]; rfl, hb⟩
      · have q3 : L1.length = L2.length := by omega
        rw [if_neg q2, if_neg (by omega)] at he
        have HE := Lib.hid (hc.out.trans he)
        have q2' : (L1.length : Int) = (L2.length : Int) := by omega
        clear he hc
        go_wp2_with fail
        go_ret
        exact ⟨by rw [HE.out]; rfl, hb⟩

theorem parts_le (p : ByteArray) (hs : p.size < 4294967281) : (partsB p).length ≤ 4294967282 := by
  rw [partsB_len]
  have := Lib.countB_le ⟨#[47]⟩ (by decide) (p.extract 2 p.size).size (p.extract 2 p.size) (Nat.le_refl _)
  simp [ByteArray.size_extract] at this
  omega
theorem ordH_parts (p q : ByteArray) (hp : validB p.data.toList = true) (hq : validB q.data.toList = true) : ccmp (dat (partsB p)) (dat (partsB q)) = ordH p q := by
  have hp2 := hp
  have hq2 := hq
  rw [valid_parts] at hp2 hq2
  simp only [Bool.and_eq_true, decide_eq_true_eq] at hp2 hq2
  obtain ⟨t, ht⟩ := List.isPrefixOf_iff_prefix.1 hp2.1.1
  obtain ⟨s, hs⟩ := List.isPrefixOf_iff_prefix.1 hq2.1.1
  rw [ordH_valid hp hq]
  unfold dat
  rw [partsB_data, partsB_data, ccmp_split, ← ht, ← hs]
  simp [pcmp]

set_option maxRecDepth 100000 in
set_option maxHeartbeats 1600000 in
theorem rorder_any (p q : ByteArray) (w : World) (hp : p.size < 4294967281) (hq : q.size < 4294967281) (hg : G0 w) :
    Calls Tryz.prog 54 #[.string p, .string q] w fun e w' => e = .returned (.int .i64 (ordH p q)) ∧ Below w.heap.size w w' := by
  cases vp : validB p.data.toList
  · have HP := Lib.hid (rpath_no p w hp hg vp)
    cases vq : validB q.data.toList
    · have HQ : Hid (∀ w1, Below w.heap.size w w1 → Calls Tryz.prog 103 #[.string q] w1 fun e w' => e = .returned (.tuple #[.slice none 0 0, .bool false]) ∧ Below w1.heap.size w1 w') := fun w1 hb => rpath_no q w1 hq (hg.below hb) vq
      have HO : Hid (ordH p q = Lib.compareBytes p.data.toList q.data.toList) := by show _ = _; unfold ordH ordL; rw [vp, vq]
      rw [HO.out]
      clear vp vq hg HO
      go_enter Tryz.func54, Tryz.ntmps54
      go_wp2_with fail
      refine HP.out.mono ?_
      rintro e w1 ⟨rfl, hb1⟩
      go_wp2_with fail
      refine (HQ.out w1 hb1).mono ?_
      rintro e w2 ⟨rfl, hb2⟩
      go_wp2_with fail
      refine (Tryz.strings_Compare p q w2).mono ?_
      rintro e w3 ⟨rfl, rfl⟩
      go_wp2_with fail
      go_ret
      exact ⟨rfl, hb1.trans (hb2.mono hb1.size)⟩
    · have HQ : Hid (∀ w1, Below w.heap.size w w1 → Calls Tryz.prog 103 #[.string q] w1 (PartsYes q w1)) := fun w1 hb => rpath_yes q w1 hq (hg.below hb) vq
      have HO : Hid (ordH p q = -1) := by show _ = _; unfold ordH ordL; rw [vp, vq]
      rw [HO.out]
      clear vp vq hg HO
      go_enter Tryz.func54, Tryz.ntmps54
      go_wp2_with fail
      refine HP.out.mono ?_
      rintro e w1 ⟨rfl, hb1⟩
      go_wp2_with fail
      refine (HQ.out w1 hb1).mono ?_
      rintro e w2 ⟨rfl, _, _, hb2⟩
      go_wp2_with fail
      go_ret
      exact ⟨rfl, hb1.trans (hb2.mono hb1.size)⟩
  · have HP := Lib.hid (rpath_yes p w hp hg vp)
    cases vq : validB q.data.toList
    · have HQ : Hid (∀ w1, Below w.heap.size w w1 → Calls Tryz.prog 103 #[.string q] w1 fun e w' => e = .returned (.tuple #[.slice none 0 0, .bool false]) ∧ Below w1.heap.size w1 w') := fun w1 hb => rpath_no q w1 hq (hg.below hb) vq
      have HO : Hid (ordH p q = 1) := by show _ = _; unfold ordH ordL; rw [vp, vq]
      rw [HO.out]
      clear vp vq hg HO
      go_enter Tryz.func54, Tryz.ntmps54
      go_wp2_with fail
      refine HP.out.mono ?_
      rintro e w1 ⟨rfl, _, _, hb1⟩
      go_wp2_with fail
      refine (HQ.out w1 hb1).mono ?_
      rintro e w2 ⟨rfl, hb2⟩
      go_wp2_with fail
      go_ret
      exact ⟨rfl, hb1.trans (hb2.mono hb1.size)⟩
    · have HQ : Hid (∀ w1, Below w.heap.size w w1 → Calls Tryz.prog 103 #[.string q] w1 (PartsYes q w1)) := fun w1 hb => rpath_yes q w1 hq (hg.below hb) vq
      have HO := Lib.hid (ordH_parts p q vp vq)
      have np := parts_le p hp
      have nq := parts_le q hq
      rw [← HO.out]
      clear vp vq hg HO
      go_enter Tryz.func54, Tryz.ntmps54
      go_wp2_with fail
      refine HP.out.mono ?_
      rintro e w1 ⟨rfl, s1, t1, hb1⟩
      have HS1 := Lib.hid s1
      have HB1 := Lib.hid hb1
      clear s1 hb1
      go_wp2_with fail
      refine (HQ.out w1 HB1.out).mono ?_
      rintro e w2 ⟨rfl, s2, t2, hb2⟩
      have HS2 := Lib.hid s2
      have HS3 := Lib.hid (HS1.out.below hb2 t1)
      have HB2 := Lib.hid (HB1.out.trans (hb2.mono HB1.out.size))
      clear s2 hb2
      go_wp2_with fail
      refine (rcompare_any _ _ (partsB p) (partsB q) w2 HS3.out HS2.out (by omega) t2 np nq).mono ?_
      rintro e w3 ⟨rfl, hb3⟩
      go_wp2_with fail
      go_ret
      exact ⟨rfl, HB2.out.trans (hb3.mono HB2.out.size)⟩
end
end Go.Proofs.YtocffknoeknabaaGreatDoor
