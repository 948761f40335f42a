/-
  The reference of layer 2: Component, Parts, Path; and Usable of layer 19: they answer as the program's functions do.
-/
import Derived.Test.YthonhikkoabhlaaGreatDoorPath
import Derived.Test.YthonhikkoabhlaaGreatDoorShelf
import Derived.Lib.SplitLaws
import Derived.Lib.IndexAny
namespace Go.Proofs.YthonhikkoabhlaaGreatDoor
open Go.RowKit

/-! The plain part: splitting at 47. -/
def splitA : List UInt8 → List (List UInt8)
  | [] => [[]]
  | c :: r => if c = 47 then [] :: splitA r else match splitA r with
    | [] => [[c]]
    | h :: t => (c :: h) :: t
theorem splitA_cons (l : List UInt8) : ∃ h t, splitA l = h :: t := by
  cases l with
  | nil => exact ⟨[], [], rfl⟩
  | cons c r =>
    unfold splitA
    split
    · exact ⟨_, _, rfl⟩
    · split <;> exact ⟨_, _, rfl⟩

theorem index_cons_ne (c : UInt8) (r : List UInt8) (h : ¬ c = 47) : Lib.index (c :: r) [47] = if Lib.index r [47] == -1 then -1 else Lib.index r [47] + 1 := by
  rw [Lib.index]
  have : ([47] : List UInt8).isPrefixOf (c :: r) = false := by
    simp [List.isPrefixOf]
    intro e; exact h e.symm
  rw [this]
  rfl
theorem index_cons_eq (r : List UInt8) : Lib.index (47 :: r) [47] = 0 := by
  rw [Lib.index]
  simp [List.isPrefixOf]
theorem splitK_is (l : List UInt8) : Lib.splitK [47] 0 (l.count 47) l = splitA l := by
  induction l with
  | nil => rfl
  | cons c r ih =>
    by_cases h : c = 47
    · subst h
      rw [List.count_cons_self, Lib.splitK, index_cons_eq]
      simp [splitA, ih]
    · rw [List.count_cons_of_ne (by simpa using h)]
      unfold splitA
      rw [if_neg h, ← ih]
      cases hk : r.count 47 with
      | zero => simp [Lib.splitK]
      | succ k =>
        rw [Lib.splitK, Lib.splitK, index_cons_ne c r h]
        have hge := Lib.index_ge r [47]
        by_cases hi : Lib.index r [47] = -1
        · simp [hi]
        · have h1 : (Lib.index r [47] == -1) = false := by simpa using hi
          have h2 : ((Lib.index r [47] + 1) == -1) = false := by
            rw [beq_eq_false_iff_ne]; omega
          simp only [h1, h2, Bool.false_eq_true, if_false]
          have e1 : (Lib.index r [47] + 1).toNat = (Lib.index r [47]).toNat + 1 := by omega
          rw [e1]
          simp only [Nat.add_zero, List.take_succ_cons, List.length_singleton, List.drop_succ_cons]
theorem validFrom_is (l : List UInt8) : ∀ (n : Nat) (cur h : List UInt8) (t : List (List UInt8)), splitA l = h :: t → validFrom n cur l = (compB (cur ++ h) && t.all compB && decide (1 ≤ n + t.length)) := by
  induction l with
  | nil =>
    intro n cur h t e
    simp only [splitA, List.cons.injEq] at e
    obtain ⟨rfl, rfl⟩ := e
    simp [validFrom]
  | cons c r ih =>
    intro n cur h t e
    obtain ⟨h', t', e'⟩ := splitA_cons r
    unfold splitA at e
    unfold validFrom
    by_cases hc : c = 47
    · rw [if_pos hc] at e
      rw [if_pos hc]
      simp only [List.cons.injEq] at e
      obtain ⟨rfl, rfl⟩ := e
      rw [ih (n + 1) [] h' t' e', e']
      simp [Bool.and_assoc]
      rw [show n + 1 + t'.length = n + (t'.length + 1) from by omega]
    · rw [if_neg hc, e'] at e
      rw [if_neg hc]
      simp only [List.cons.injEq] at e
      obtain ⟨rfl, rfl⟩ := e
      rw [ih n (cur ++ [c]) h' t' e']
      simp
/-- What 'Valid' answers, in the reference's words. -/
theorem validB_split (r : List UInt8) : validB (47 :: 47 :: r) = ((splitA r).all compB && decide (2 ≤ (splitA r).length)) := by
  obtain ⟨h, t, e⟩ := splitA_cons r
  show validFrom 0 [] r = _
  rw [validFrom_is r 0 [] h t e, e]
  simp

def lettersL : List UInt8 := [65, 66, 67, 68, 69, 70, 71, 72, 73, 74, 75, 76, 77, 78, 79, 80, 81, 82, 83, 84, 85, 86, 87, 88, 89, 90, 97, 98, 99, 100, 101, 102, 103, 104, 105, 106, 107, 108, 109, 110, 111, 112, 113, 114, 115, 116, 117, 118, 119, 120, 121, 122, 48, 49, 50, 51, 52, 53, 54, 55, 56, 57, 95, 46, 43, 45]
theorem letters_is (c : UInt8) : decide (Lib.indexByte lettersL c < 0) = !isByteI c.toNat := by
  have h : ∀ n : Fin 256, decide (Lib.indexByte lettersL (UInt8.ofNat n.val) < 0) = !isByteI (UInt8.ofNat n.val).toNat := by decide +kernel
  have := h ⟨c.toNat, c.toNat_lt⟩
  simpa using this

/-! The walks. -/
theorem indexByte_letters (s : ByteArray) (k : Nat) (h : k < s.size) (w : World) :
    Calls Tryz.prog 92 #[.string ⟨lettersL.toArray⟩, .int .u8 (s[k].toNat : Int)] w fun e w' => e = .returned (.int .i64 (Lib.indexByte lettersL s[k])) ∧ w = w' :=
  (Tryz.strings_IndexByte ⟨lettersL.toArray⟩ (s[k].toNat : Int) w).mono fun e w' ⟨he, hw⟩ => ⟨by rw [he]; simp, hw.symm⟩

set_option maxHeartbeats 400000 in
theorem rcomp_any (s : ByteArray) (w : World) (hs : s.size ≤ maxLen) :
    Calls Tryz.prog 82 #[.string s] w fun e w' => e = .returned (.bool (compB s.data.toList)) ∧ w = w' := by
  unfold maxLen at hs
  by_cases h0 : s.size = 0
  · have := eq_empty_of_size s h0
    subst this
    go_enter Tryz.func82, Tryz.ntmps82
    go_wp2_with fail
    go_ret
    exact ⟨rfl, rfl⟩
  · have hp : 0 < s.size := by omega
    have e1 := isEmpty_of_pos s hp
    have e2 := not_nil_of_pos s hp
    by_cases hd : s[0] = 46
    · have e3 : ((s[0].toNat : Int) == 46) = true := by rw [hd]; rfl
      clear h0
      go_enter Tryz.func82, Tryz.ntmps82
      go_wp2_with fail
      go_ret
      exact ⟨ret_bool (compB_dot s hp hd).symm, rfl⟩
    · have e3 : ((s[0].toNat : Int) == 46) = false := by
        rw [beq_eq_false_iff_ne]; intro e; apply hd; apply UInt8.toNat_inj.1; show _ = 46; omega
      clear h0
      go_enter Tryz.func82, Tryz.ntmps82
      go_wp2_with fail
      have HA := Lib.hid (compB_all s hp hd)
      clear hd e1 e2 e3
      go_loop [3] (fun i => ∃ k : Nat, k ≤ s.size ∧ i = .int .i64 k ∧ Hid ((s.data.toList.take k).all (fun c => isByteI c.toNat) = true)) (fun i => s.size - (intOf i).toNat)
      case atStart => exact ⟨0, Nat.zero_le _, rfl, rfl⟩
      case round =>
        obtain ⟨k, hk, rfl, hall⟩ := hrel
        by_cases hlt : k < s.size
        · have hsn := Lib.hid (takeB_snoc s k hlt)
          have hle := letters_is s[k]
          have hc := Lib.hid (indexByte_letters s k hlt)
          cases hb : isByteI (s[k].toNat : Int)
          · rw [hb] at hle
            have hl2 : Lib.indexByte lettersL s[k] < 0 := by simpa using hle
            clear hle
            go_wp2_with fail
            refine (hc.out _).mono ?_
            rintro e w' ⟨rfl, rfl⟩
            go_wp2_with fail
            go_ret
            exact ⟨ret_bool (by rw [HA.out, all_not s k hlt _ hb]), rfl⟩
          · rw [hb] at hle
            have hl2 : 0 ≤ Lib.indexByte lettersL s[k] := by simpa using hle
            clear hle
            go_wp2_with fail
            refine (hc.out _).mono ?_
            rintro e w' ⟨rfl, rfl⟩
            go_wp2_with fail
            go_round
            case rel => exact ⟨k + 1, by omega, by go_num, by show _ = true; rw [hsn.out, List.all_append, hall.out]; simp [hb]⟩
            case measure => simp [intOf]; omega
        · go_wp2_with fail
          go_ret
          exact ⟨ret_bool (by rw [HA.out, ← hall.out, List.take_of_length_le (by simp; omega)]), rfl⟩

/-- The components of a path as the reference splits it. -/
def partsB (p : ByteArray) : List ByteArray := Lib.splitB ⟨#[47]⟩ 0 (Lib.countB (p.extract 2 p.size) ⟨#[47]⟩) (p.extract 2 p.size)
theorem partsB_data (p : ByteArray) : (partsB p).map (·.data.toList) = splitA (p.data.toList.drop 2) := by
  unfold partsB
  rw [Lib.splitB_data, Lib.extract_to_end]
  have : Lib.countB (p.extract 2 p.size) ⟨#[47]⟩ = (p.data.toList.drop 2).count 47 := by
    show Lib.count (p.extract 2 p.size).data.toList [47] = _
    rw [Lib.extract_to_end, Lib.count_one]
  rw [this]
  exact splitK_is _
theorem partsB_len (p : ByteArray) : (partsB p).length = Lib.countB (p.extract 2 p.size) ⟨#[47]⟩ + 1 := Lib.splitB_all _ (by decide) 0 _ _ rfl
def partsOk (p : ByteArray) : Bool := ([47, 47] : List UInt8).isPrefixOf p.data.toList && (splitA (p.data.toList.drop 2)).all compB
theorem all_parts (p : ByteArray) : (splitA (p.data.toList.drop 2)).all compB = (partsB p).all (fun s => compB s.data.toList) := by
  rw [← partsB_data, List.all_map]
  rfl
theorem part_size (p s : ByteArray) (h : s ∈ partsB p) : s.size ≤ p.size := by
  have : ∀ (k : Nat) (q : ByteArray), ∀ s ∈ Lib.splitB ⟨#[47]⟩ 0 k q, s.size ≤ q.size := by
    intro k
    induction k with
    | zero => intro q s hs; simp [Lib.splitB] at hs; subst hs; exact Nat.le_refl _
    | succ k ih =>
      intro q s hs
      unfold Lib.splitB at hs
      split at hs
      · simp at hs; subst hs; exact Nat.le_refl _
      · rcases List.mem_cons.1 hs with rfl | hs
        · simp [ByteArray.size_extract]; omega
        · have := ih _ s hs
          simp [ByteArray.size_extract] at this
          omega
  have h2 := this _ _ s h
  simp [ByteArray.size_extract] at h2
  omega

/-- Strings that lie in a row from the head of a block on. -/
def StrsAt (b : Nat) (l : List ByteArray) (w : World) : Prop := ∀ (i : Nat) (s : ByteArray), l[i]? = some s → w.cell? ⟨b, i, none⟩ = some (.string s)
theorem strs_new (w : World) (l : List ByteArray) (T : TypeId) : StrsAt w.heap.size l (w.alloc (.cells (l.map Value.string).toArray T)) := by
  intro i s h
  have hb : (w.alloc (.cells (l.map Value.string).toArray T)).heap[w.heap.size]? = some (.cells (l.map Value.string).toArray T (0, 0)) := (MapKept.heap_alloc w _).1
  unfold World.cell?
  dsimp only
  rw [hb]
  simp [h]
theorem StrsAt.below {b B : Nat} {l : List ByteArray} {w w' : World} (h : StrsAt b l w) (hb : Below B w w') (hB : b < B) : StrsAt b l w' := fun i s hs => (hb.cell (p := ⟨b, i, none⟩) hB).trans (h i s hs)

/-- The variable that the library's search reads. -/
def G0 (w : World) : Prop := ∃ m, w.cell? ⟨0, 0, none⟩ = some (.int .i64 m)
theorem G0.below {w w' : World} (h : G0 w) (hb : Below w.heap.size w w') : G0 w' := by
  obtain ⟨m, hm⟩ := h
  exact ⟨m, (hb.cell (p := ⟨0, 0, none⟩) (by
    unfold World.cell? at hm
    split at hm
    · rename_i hh; exact (Array.getElem?_eq_some_iff.1 hh).1
    · cases hm)).trans hm⟩

/-- What 'Parts' and 'Path' leave. -/
structure PartsYes (p : ByteArray) (w : World) (e : Ending) (w' : World) : Prop where
  ret : e = .returned (.tuple #[.slice (some ⟨w.heap.size, 0, none⟩) (partsB p).length (partsB p).length, .bool true])
  strs : StrsAt w.heap.size (partsB p) w'
  lt : w.heap.size < w'.heap.size
  old : Below w.heap.size w w'

set_option maxHeartbeats 800000 in
theorem parts_pre (p : ByteArray) (w : World) (hs : p.size < 4294967281) (h : ([47, 47] : List UInt8).isPrefixOf p.data.toList = false) :
    Calls Tryz.prog 65 #[.string p] w fun e w' => e = .returned (.tuple #[.slice none 0 0, .bool false]) ∧ Below w.heap.size w w' := by
  go_enter Tryz.func65, Tryz.ntmps65
  go_wp2_with (go_at_call 78; refine (hasPrefix_any _ _ _ (by unfold maxLen; omega) (by decide)).mono ?_; rintro e w' ⟨rfl, rfl⟩)
  go_ret2
  exact ⟨rfl, Below.refl _ _⟩

theorem split_call (p : ByteArray) (w : World) (hs : p.size < 4294967281) (hg : G0 w) :
    Calls Tryz.prog 81 #[.string (p.extract 2 p.size), .string ⟨#[47]⟩] w fun e w' => e = .returned (.slice (some ⟨w.heap.size, 0, none⟩) (partsB p).length (partsB p).length) ∧ StrsAt w.heap.size (partsB p) w' ∧ w.heap.size < w'.heap.size ∧ Below w.heap.size w w' := by
  obtain ⟨mx, hmx⟩ := hg
  refine (Tryz.strings_Split (p.extract 2 p.size) ⟨#[47]⟩ mx w (by simp [ByteArray.size_extract]; omega) hmx (by decide)).mono ?_
  rintro e w' ⟨rfl, rfl⟩
  rw [partsB_len]
  exact ⟨rfl, strs_new w (partsB p) _, by simp, (Below.refl _ _).alloc (Nat.le_refl _) _⟩

set_option maxHeartbeats 800000 in
theorem parts_no (p : ByteArray) (w : World) (hs : p.size < 4294967281) (hg : G0 w) (h : ([47, 47] : List UInt8).isPrefixOf p.data.toList = true) (ha : (partsB p).all (fun s => compB s.data.toList) = false) :
    Calls Tryz.prog 65 #[.string p] w fun e w' => e = .returned (.tuple #[.slice none 0 0, .bool false]) ∧ Below w.heap.size w w' := by
  have h2 : 2 ≤ p.size := by
    have := (validB_yes _ h).2
    simpa using this
  have HA := Lib.hid ha
  clear ha
  have hlen : (partsB p).length ≤ 4294967282 := by
    rw [partsB_len]
    have := Lib.countB_le ⟨#[47]⟩ (by decide) (p.extract 2 p.size).size (p.extract 2 p.size) (Nat.le_refl _)
    simp [ByteArray.size_extract] at this
    omega
  go_enter Tryz.func65, Tryz.ntmps65
  go_wp2_with (go_at_call 78; refine (hasPrefix_any _ _ _ (by unfold maxLen; omega) (by decide)).mono ?_; rintro e w' ⟨rfl, rfl⟩)
  refine (split_call p w hs hg).mono ?_
  rintro e w1 ⟨rfl, hst, hlt1, HB⟩
  go_wp2_with fail
  clear h hg
  go_loop [15] (fun i => ∃ k : Nat, k ≤ (partsB p).length ∧ i = .int .i64 k ∧ Hid (((partsB p).take k).all (fun s => compB s.data.toList) = true)) (fun i => (partsB p).length - (intOf i).toNat)
  case atStart => exact ⟨0, Nat.zero_le _, rfl, rfl⟩
  case round =>
    obtain ⟨k, hk, rfl, hall⟩ := hrel
    by_cases hlt : k < (partsB p).length
    · have hc := hst k (partsB p)[k] (List.getElem?_eq_getElem hlt)
      have hz := part_size p (partsB p)[k] (List.getElem_mem hlt)
      have hsn := Lib.hid (List.take_succ_eq_append_getElem hlt)
      cases hb : compB (partsB p)[k].data.toList
      · have HBb := Lib.hid hb
        clear hb
        go_wp2_with fail
        refine (rcomp_any _ _ (by unfold maxLen; omega)).mono ?_
        rintro e w' ⟨rfl, rfl⟩
        rw [HBb.out]
        go_wp2_with fail
        go_ret2
        exact ⟨rfl, HB⟩
      · have HBb := Lib.hid hb
        clear hb
        go_wp2_with fail
        refine (rcomp_any _ _ (by unfold maxLen; omega)).mono ?_
        rintro e w' ⟨rfl, rfl⟩
        rw [HBb.out]
        go_wp2_with fail
        go_round
        case rel => exact ⟨k + 1, by omega, by go_num, by show _ = true; rw [hsn.out, List.all_append, hall.out]; simp [HBb.out]⟩
        case measure => simp [intOf]; omega
    · exfalso
      have := hall.out
      rw [List.take_of_length_le (by omega), HA.out] at this
      cases this

set_option maxHeartbeats 800000 in
theorem parts_yes (p : ByteArray) (w : World) (hs : p.size < 4294967281) (hg : G0 w) (h : ([47, 47] : List UInt8).isPrefixOf p.data.toList = true) (ha : (partsB p).all (fun s => compB s.data.toList) = true) :
    Calls Tryz.prog 65 #[.string p] w (PartsYes p w) := by
  have h2 : 2 ≤ p.size := by
    have := (validB_yes _ h).2
    simpa using this
  have HA := Lib.hid ha
  clear ha
  have hlen : (partsB p).length ≤ 4294967282 := by
    rw [partsB_len]
    have := Lib.countB_le ⟨#[47]⟩ (by decide) (p.extract 2 p.size).size (p.extract 2 p.size) (Nat.le_refl _)
    simp [ByteArray.size_extract] at this
    omega
  go_enter Tryz.func65, Tryz.ntmps65
  go_wp2_with (go_at_call 78; refine (hasPrefix_any _ _ _ (by unfold maxLen; omega) (by decide)).mono ?_; rintro e w' ⟨rfl, rfl⟩)
  refine (split_call p w hs hg).mono ?_
  rintro e w1 ⟨rfl, hst, hlt1, HB⟩
  go_wp2_with fail
  clear h hg
  go_loop [15] (fun i => ∃ k : Nat, k ≤ (partsB p).length ∧ i = .int .i64 k) (fun i => (partsB p).length - (intOf i).toNat)
  case atStart => exact ⟨0, Nat.zero_le _, rfl⟩
  case round =>
    obtain ⟨k, hk, rfl⟩ := hrel
    by_cases hlt : k < (partsB p).length
    · have hc := hst k (partsB p)[k] (List.getElem?_eq_getElem hlt)
      have hz := part_size p (partsB p)[k] (List.getElem_mem hlt)
      have HBb : Hid (compB (partsB p)[k].data.toList = true) := List.all_eq_true.1 HA.out _ (List.getElem_mem hlt)
      go_wp2_with fail
      refine (rcomp_any _ _ (by unfold maxLen; omega)).mono ?_
      rintro e w' ⟨rfl, rfl⟩
      rw [HBb.out]
      go_wp2_with fail
      go_round
      case rel => exact ⟨k + 1, by omega, by go_num⟩
      case measure => simp [intOf]; omega
    · go_wp2_with fail
      go_ret2
      exact ⟨rfl, hst, hlt1, HB⟩

end Go.Proofs.YthonhikkoabhlaaGreatDoor
