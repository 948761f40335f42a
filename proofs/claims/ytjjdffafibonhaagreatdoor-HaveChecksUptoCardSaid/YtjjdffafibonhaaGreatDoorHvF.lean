/-
  A list of 1024 entries: what the changes of HaveFull answer, in plain words.
-/
import Derived.Test.YtjjdffafibonhaaGreatDoorHvK
namespace Go.Proofs.YtjjdffafibonhaaGreatDoor
open Go.RowKit

theorem chkH_good : ∀ {l dn : List Hv}, Srt (dn ++ l) → (∀ h ∈ l, okH h = true) → ((dn ++ l).map (·.loc)).Nodup → chkH dn l = 0
  | [], _, _, _, _ => rfl
  | a :: t, dn, h1, h2, h3 => by
    have ho := h2 a (List.mem_cons_self ..)
    have hlast : ∀ q, dn.getLast? = some q → ordH q.path a.path < 0 := fun q hq =>
      (List.pairwise_append.1 h1).2.2 q (List.mem_of_getLast? hq) a (List.mem_cons_self ..)
    have hany : (dn.any fun q => q.loc == a.loc) = false := by
      rw [← Bool.not_eq_true, List.any_eq_true]
      rintro ⟨q, hq, e⟩
      rw [List.map_append, List.nodup_append] at h3
      exact h3.2.2 _ (List.mem_map_of_mem hq) _ (by simp) ((ba_beq _ _).1 e)
    have ih := chkH_good (l := t) (dn := dn ++ [a]) (by rwa [List.append_assoc, List.singleton_append]) (fun h hh => h2 h (List.mem_cons_of_mem _ hh)) (by rwa [List.append_assoc, List.singleton_append])
    unfold chkH
    rw [hany, ho, ih]
    cases hg : dn.getLast? with
    | none => rfl
    | some q =>
      have := hlast q hg
      have hd : decide (0 ≤ ordH q.path a.path) = false := by simp; omega
      simp [hd]
theorem HvOk.check {l : List Hv} (h : HvOk l) : checkH l = 0 := by
  unfold checkH
  rw [if_neg (by have := h.len; omega)]
  exact chkH_good (dn := []) h.srt h.ok h.locs

def fP (c : UInt8) (i : Nat) : ByteArray := ⟨#[47, 47, c, 47, .ofNat (97 + i / 256), .ofNat (97 + i / 16 % 16), .ofNat (97 + i % 16)]⟩
def fH (i : Nat) : Hv := ⟨fP 100 i, 1, fP 99 i⟩
def fL : List Hv := (List.range 1024).map fH
def fZ : Hv := ⟨⟨#[47, 47, 100, 47, 122]⟩, 1, ⟨#[47, 47, 99, 47, 122]⟩⟩
theorem fH_ok : (List.range 1024).all (fun i => okH (fH i)) = true := by decide +kernel
theorem fP_step : (List.range 1023).all (fun i => decide (ordH (fP 100 i) (fP 100 (i + 1)) < 0) && decide (ordH (fP 99 i) (fP 99 (i + 1)) < 0)) = true := by decide +kernel
theorem fP_lt (i : Nat) : ∀ (n : Nat), i + n + 1 < 1024 → ordH (fP 100 i) (fP 100 (i + n + 1)) < 0 ∧ ordH (fP 99 i) (fP 99 (i + n + 1)) < 0
  | 0, h => by
    have := List.all_eq_true.1 fP_step i (List.mem_range.2 (by omega))
    simp only [Bool.and_eq_true, decide_eq_true_eq] at this
    exact this
  | n + 1, h => by
    obtain ⟨h1, h2⟩ := fP_lt i n (by omega)
    have := List.all_eq_true.1 fP_step (i + n + 1) (List.mem_range.2 (by omega))
    simp only [Bool.and_eq_true, decide_eq_true_eq] at this
    exact ⟨ordH_trans h1 this.1, ordH_trans h2 this.2⟩
theorem fL_pair : (List.range 1024).Pairwise fun i j => ordH (fP 100 i) (fP 100 j) < 0 ∧ ordH (fP 99 i) (fP 99 j) < 0 := by
  refine (List.pairwise_lt_range (n := 1024)).imp_of_mem fun {a b} ha hb hab => ?_
  have h2 := List.mem_range.1 hb
  have := fP_lt a (b - a - 1) (by omega)
  rwa [show a + (b - a - 1) + 1 = b by omega] at this
theorem fL_okk : HvOk fL := by
  refine ⟨?_, fun h hh => ?_, ?_, by simp [fL]⟩
  · unfold Srt fL
    rw [List.pairwise_map]
    exact fL_pair.imp fun h => h.1
  · obtain ⟨i, hi, rfl⟩ := List.mem_map.1 hh
    exact List.all_eq_true.1 fH_ok i hi
  · unfold fL List.Nodup
    rw [List.map_map, List.pairwise_map]
    exact fL_pair.imp fun {i j} h e => by
      have h2 : ordH (fP 99 i) (fP 99 j) < 0 := h.2
      have e2 : fP 99 i = fP 99 j := e
      rw [e2, ordH_self] at h2
      exact absurd h2 (by decide)
theorem fL_z : fL.all (fun h => !(h.path == fZ.path) && !(h.loc == fZ.loc)) = true := by decide +kernel
theorem fZ_ok : okH fZ = true := by decide +kernel

theorem put_one {E : List Hv} {z : Hv} (h : HvOk E) (hp : ∀ q ∈ E, q.path ≠ z.path) : (z :: E).Perm (putAll E [z]) := by
  have h1 := set_perm (l := [z]) h.srt (List.pairwise_singleton ..) (List.Perm.refl E)
  have h2 : restOf [z] E = E := by
    unfold restOf
    refine List.filter_eq_self.2 fun q hq => ?_
    rw [Bool.not_eq_true', anyP_false]
    intro a ha e
    rw [List.mem_singleton] at ha
    subst ha
    exact hp q hq e.symm
  rw [h2] at h1
  exact h1
/-- Set of one entry whose path and client path are new. -/
theorem setI_new {E : List Hv} {z : Hv} (h : HvOk E) (hz : okH z = true) (hp : ∀ q ∈ E, q.path ≠ z.path) (hl : ∀ q ∈ E, q.loc ≠ z.loc) : setI E [z] = if 1024 < E.length + 1 then 342 else 0 := by
  have hpm := put_one h hp
  have hf : formB [z] = true := by
    show formF [] [z] = true
    rw [formF_step, hz]
    rfl
  have hn : ((putAll E [z]).map (·.loc)).Nodup := by
    rw [← (hpm.map (·.loc)).nodup_iff, List.map_cons, List.nodup_cons]
    exact ⟨fun hm => by obtain ⟨q, hq, e⟩ := List.mem_map.1 hm; exact hl q hq e, h.locs⟩
  unfold setI
  rw [if_neg (by rw [hf]; decide), if_neg (fun k => k hn), ← hpm.length_eq, List.length_cons]
theorem drop_len : ∀ {l : List Hv} {h : Hv}, Once l → h ∈ l → (dropE l [h.path]).length + 1 = l.length
  | a :: t, h, ho, hm => by
    have ho2 := List.pairwise_cons.1 ho
    unfold dropE
    by_cases e : h.path = a.path
    · rw [List.filter_cons_of_neg (by simp [e, ba_beq]), List.filter_eq_self.2, List.length_cons]
      intro q hq
      have : q.path ≠ a.path := fun e2 => ho2.1 q hq e2.symm
      simp only [List.any_cons, List.any_nil, Bool.or_false, Bool.not_eq_true']
      rw [← Bool.not_eq_true, ba_beq, e]
      exact fun e2 => this e2.symm
    · have hm2 : h ∈ t := by
        rcases List.mem_cons.1 hm with rfl | hm
        · exact absurd rfl e
        · exact hm
      have ih := drop_len ho2.2 hm2
      unfold dropE at ih
      rw [List.filter_cons_of_pos, List.length_cons, ih, List.length_cons]
      simp only [List.any_cons, List.any_nil, Bool.or_false, Bool.not_eq_true']
      rw [← Bool.not_eq_true, ba_beq]
      exact e
theorem drop_mem {l : List Hv} {h q : Hv} (hq : q ∈ dropE l [h.path]) : q ∈ l ∧ q.path ≠ h.path := by
  obtain ⟨h1, h2⟩ := List.mem_filter.1 hq
  refine ⟨h1, fun e => ?_⟩
  simp only [List.any_cons, List.any_nil, Bool.or_false, Bool.not_eq_true'] at h2
  rw [← Bool.not_eq_true, ba_beq] at h2
  exact h2 e.symm
theorem HvOk.loc_inj {l : List Hv} (h : HvOk l) {a b : Hv} (ha : a ∈ l) (hb : b ∈ l) (e : a.loc = b.loc) : a = b := by
  have hn := h.locs
  clear h
  induction l with
  | nil => cases ha
  | cons x t ih =>
    rw [List.map_cons, List.nodup_cons] at hn
    rcases List.mem_cons.1 ha with ea | ha2
    · rcases List.mem_cons.1 hb with eb | hb2
      · rw [ea, eb]
      · exact absurd (by rw [← ea, e]; exact List.mem_map_of_mem (f := (·.loc)) hb2) hn.1
    · rcases List.mem_cons.1 hb with eb | hb2
      · exact absurd (by rw [← eb, ← e]; exact List.mem_map_of_mem (f := (·.loc)) ha2) hn.1
      · exact ih ha2 hb2 hn.2

/-- The steps of HaveFull. -/
theorem full_steps (n : Nat) (hn : n < 1024) : checkH fL = 0 ∧ setI fL [fZ] = 342 ∧ dropI fL [(fH n).path] = 0 ∧ setI (dropE fL [(fH n).path]) [fZ] = 0 ∧ setI (putAll (dropE fL [(fH n).path]) [fZ]) [fH n] = 342 ∧ (putAll (dropE fL [(fH n).path]) [fZ]).length = 1024 := by
  have hL := fL_okk
  have hz : ∀ q ∈ fL, q.path ≠ fZ.path ∧ q.loc ≠ fZ.loc := fun q hq => by
    have := List.all_eq_true.1 fL_z q hq
    simp only [Bool.and_eq_true, Bool.not_eq_true'] at this
    exact ⟨fun e => by rw [← Bool.not_eq_true, ba_beq] at this; exact this.1 e, fun e => by
      have h2 := this.2
      rw [← Bool.not_eq_true, ba_beq] at h2
      exact h2 e⟩
  have hlen : fL.length = 1024 := by simp [fL]
  have hm : fH n ∈ fL := List.mem_map_of_mem (List.mem_range.2 hn)
  have hD := hL.drop [(fH n).path]
  have hDl := drop_len hL.srt.once hm
  have hok : okH (fH n) = true := hL.ok _ hm
  have s3 : setI (dropE fL [(fH n).path]) [fZ] = 0 := by
    rw [setI_new hD fZ_ok (fun q hq => (hz q (drop_mem hq).1).1) (fun q hq => (hz q (drop_mem hq).1).2), if_neg (by omega)]
  have hE2 := hD.set s3
  have hpm := put_one (z := fZ) hD (fun q hq => (hz q (drop_mem hq).1).1)
  have hE2l : (putAll (dropE fL [(fH n).path]) [fZ]).length = 1024 := by
    rw [← hpm.length_eq, List.length_cons]; omega
  refine ⟨hL.check, ?_, ?_, s3, ?_, hE2l⟩
  · rw [setI_new hL fZ_ok (fun q hq => (hz q hq).1) (fun q hq => (hz q hq).2), hlen]
    rfl
  · unfold dropI
    rw [if_pos]
    simp only [List.all_cons, List.all_nil, Bool.and_true]
    exact anyP_iff.2 ⟨_, hm, rfl⟩
  · have hin : ∀ q ∈ putAll (dropE fL [(fH n).path]) [fZ], q = fZ ∨ q ∈ dropE fL [(fH n).path] := fun q hq => List.mem_cons.1 (hpm.mem_iff.2 hq)
    rw [setI_new hE2 hok, hE2l]
    · rfl
    · intro q hq e
      rcases hin q hq with rfl | hq
      · exact (hz _ hm).1 e.symm
      · exact (drop_mem hq).2 e
    · intro q hq e
      rcases hin q hq with rfl | hq
      · exact (hz _ hm).2 e.symm
      · have := hL.loc_inj (drop_mem hq).1 hm e
        exact (drop_mem hq).2 (by rw [this])

end Go.Proofs.YtjjdffafibonhaaGreatDoor
