/-
  A journal through failures of power, in plain words: Commit and Cut while a fuse burns, and what a loss leaves of them.
-/
import Derived.Test.YthjbaafbkalomaaLoss
namespace Go.Proofs.Ythjbaafbkalomaa
open Go.RowKit

theorem cntF_le' (f : Fl) (k : ByteArray) : cntF f k ≤ 1 := by unfold cntF; split <;> omega
/-- A file reads as a journal with this start and these records. -/
def Left (file : ByteArray) (f : Fl) (st : Int) (rs : List (List UInt8)) : Prop := (∃ t, Torn t ∧ f.m file = some (fileB st.toNat rs ++ t)) ∨ (f.m file = none ∧ rs = [] ∧ st = 0)

/-- A journal that was opened on a device, whatever failures went ahead; c other files; at most m records were ever appended. -/
structure Sound (J : Jrn) (D : Dev) (c m : Nat) : Prop where
  dn : D.down = false
  pl : D.pend = []
  kp : D.kept = D.now
  nm : nmB false 40 J.name = true
  dead : J.dead = false
  st0 : 0 ≤ J.start
  st1 : J.start + J.recs.length + J.pend.length ≤ m
  rl : ∀ r ∈ J.recs ++ J.pend, r.length ≤ 65536
  cnt : J.recs.length + J.pend.length ≤ 4096
  by' : J.bytes = lens J.recs + lens J.pend
  bx : lens J.recs + lens J.pend ≤ 1048576
  wh : J.whole = true → D.now.m J.file = some (fileB J.start.toNat J.recs)
  nw : J.whole = false → Left J.file D.now J.start J.recs
  nn : D.now.n = c + cntF D.now J.file + cntF D.now J.fresh
theorem Sound.left {J : Jrn} {D : Dev} {c m : Nat} (h : Sound J D c m) : Left J.file D.now J.start J.recs := by
  cases hw : J.whole
  · exact h.nw hw
  · exact .inl ⟨[], Torn.nil, by rw [h.wh hw]; simp⟩

/-- Device steps while a fuse burns: what each one leaves. -/
def fuseLeft (D : Dev) : Prop := D.down = false ∧ 0 ≤ D.fuse
theorem act_cases (D : Dev) (hd : D.down = false) (hf : 0 ≤ D.fuse) (o : POp) :
    (actI D = 303 ∧ actD D o = { D with down := true, fuse := 0 }) ∨ (actI D = 0 ∧ ∃ F, 0 ≤ F ∧ actD D o = { D with now := D.now.run o, pend := D.pend ++ [o], fuse := F }) := by
  by_cases h1 : D.fuse = 1
  · left
    constructor
    · simp [actI, hd, doI, burnB, h1]
    · simp [actD, hd, doD, burnB, burnD, h1]
  · right
    refine ⟨by simp [actI, hd, doI, burnB, h1], if D.fuse = 0 then 0 else D.fuse - 1, by split <;> omega, ?_⟩
    by_cases h0 : D.fuse = 0
    · simp [actD, hd, doD, burnB, burnD, h0]
    · simp [actD, hd, doD, burnB, burnD, h1, h0]
theorem sync_cases (D : Dev) (hd : D.down = false) (hf : 0 ≤ D.fuse) (hp : D.pend ≠ []) :
    (syncI D = 303 ∧ syncD D = { D with down := true, fuse := 0 }) ∨ (syncI D = 0 ∧ ∃ F, 0 ≤ F ∧ syncD D = { D with kept := D.now, pend := [], fuse := F }) := by
  by_cases h1 : D.fuse = 1
  · left
    constructor
    · simp [syncI, hd, burnB, h1]
    · simp [syncD, hd, burnB, burnD, h1]
  · right
    refine ⟨by simp [syncI, hd, burnB, h1], if D.fuse = 0 then 0 else D.fuse - 1, by split <;> omega, ?_⟩
    by_cases h0 : D.fuse = 0
    · simp [syncD, hd, burnB, burnD, h0, hp]
    · simp [syncD, hd, burnB, burnD, h1, h0, hp]

/-- Two operations and a Sync while a fuse burns. -/
theorem carry_three {s1 s2 s3 : CStep} {o1 o2 : POp} (h1 : s1.i = actI) (h1' : s1.act = fun D => actD D o1) (h2 : s2.i = actI) (h2' : s2.act = fun D => actD D o2) (h3 : s3.i = syncI) (h3' : s3.act = syncD) (D : Dev) (hd : D.down = false) (hf : 0 ≤ D.fuse) (hp : D.pend = []) :
    (carryI [s1, s2, s3] D = 303 ∧ carryD [s1, s2, s3] D = { D with down := true, fuse := 0 }) ∨
    (carryI [s1, s2, s3] D = 303 ∧ carryD [s1, s2, s3] D = { D with now := D.now.run o1, pend := [o1], down := true, fuse := 0 }) ∨
    (carryI [s1, s2, s3] D = 303 ∧ carryD [s1, s2, s3] D = { D with now := (D.now.run o1).run o2, pend := [o1, o2], down := true, fuse := 0 }) ∨
    (carryI [s1, s2, s3] D = 0 ∧ ∃ F, 0 ≤ F ∧ carryD [s1, s2, s3] D = { D with kept := (D.now.run o1).run o2, now := (D.now.run o1).run o2, pend := [], fuse := F }) := by
  simp only [carryI, carryD, h1, h1', h2, h2', h3, h3']
  rcases act_cases D hd hf o1 with ⟨a1, a2⟩ | ⟨a1, F1, f1, a2⟩
  · left
    rw [a1, a2]; simp
  rw [a1, a2, hp]
  simp only [if_true, List.nil_append]
  rcases act_cases { D with now := D.now.run o1, pend := [o1], fuse := F1 } hd f1 o2 with ⟨b1, b2⟩ | ⟨b1, F2, f2, b2⟩
  · right; left
    rw [b1, b2]; simp
  rw [b1, b2]
  simp only [if_true, List.cons_append, List.nil_append]
  rcases sync_cases { D with now := (D.now.run o1).run o2, pend := [o1, o2], fuse := F2 } hd f2 (by simp) with ⟨c1, c2⟩ | ⟨c1, F3, f3, c2⟩
  · right; right; left
    rw [c1, c2]; simp
  · right; right; right
    rw [c1, c2]
    exact ⟨by simp, F3, f3, by simp⟩
theorem carry_two {s1 s3 : CStep} {o1 : POp} (h1 : s1.i = actI) (h1' : s1.act = fun D => actD D o1) (h3 : s3.i = syncI) (h3' : s3.act = syncD) (D : Dev) (hd : D.down = false) (hf : 0 ≤ D.fuse) (hp : D.pend = []) :
    (carryI [s1, s3] D = 303 ∧ carryD [s1, s3] D = { D with down := true, fuse := 0 }) ∨
    (carryI [s1, s3] D = 303 ∧ carryD [s1, s3] D = { D with now := D.now.run o1, pend := [o1], down := true, fuse := 0 }) ∨
    (carryI [s1, s3] D = 0 ∧ ∃ F, 0 ≤ F ∧ carryD [s1, s3] D = { D with kept := D.now.run o1, now := D.now.run o1, pend := [], fuse := F }) := by
  simp only [carryI, carryD, h1, h1', h3, h3']
  rcases act_cases D hd hf o1 with ⟨a1, a2⟩ | ⟨a1, F1, f1, a2⟩
  · left
    rw [a1, a2]; simp
  rw [a1, a2, hp]
  simp only [if_true, List.nil_append]
  rcases sync_cases { D with now := D.now.run o1, pend := [o1], fuse := F1 } hd f1 (by simp) with ⟨c1, c2⟩ | ⟨c1, F3, f3, c2⟩
  · right; left
    rw [c1, c2]; simp
  · right; right
    rw [c1, c2]
    exact ⟨by simp, F3, f3, by simp⟩

/-- What a loss leaves of a new file that was to take a file's place: the file is as it was, or the new one. -/
theorem loss_swap {f : Fl} {a b : ByteArray} (hne : a ≠ b) (l : List UInt8) (kp tn : Int) : ((lossF f [⟨0, a, ⟨#[]⟩, l, true⟩, ⟨2, a, b, [], false⟩] kp tn).m b = f.m b) ∨ ((lossF f [⟨0, a, ⟨#[]⟩, l, true⟩, ⟨2, a, b, [], false⟩] kp tn).m b = some l) := by
  have hb : b ≠ a := fun e => hne e.symm
  have h1 : ∀ l', (f.run ⟨0, a, ⟨#[]⟩, l', true⟩).m b = f.m b := fun l' => by simp [Fl.run, Fl.put, hb]
  have h2 : ((f.run ⟨0, a, ⟨#[]⟩, l, true⟩).run ⟨2, a, b, [], false⟩).m b = some l := by
    simp [Fl.run, Fl.move, hne, Fl.get, Fl.put, Fl.del, hb]
  unfold lossF
  split
  · exact .inl rfl
  · rcases (show kp.toNat = 0 ∨ kp.toNat = 1 ∨ 2 ≤ kp.toNat by omega) with h | h | h
    · rw [h]
      simp only [List.getElem?_cons_zero, List.take_zero, runs, List.foldl_nil]
      split
      · exact .inl (h1 _)
      · exact .inl rfl
    · rw [h]
      simp only [List.getElem?_cons_succ, List.getElem?_cons_zero]
      rw [if_neg (by simp)]
      exact .inl (h1 l)
    · rw [List.getElem?_eq_none (by simpa using h)]
      exact .inr h2
theorem loss_one {f : Fl} {a b : ByteArray} (hne : a ≠ b) (l : List UInt8) (kp tn : Int) : (lossF f [⟨0, a, ⟨#[]⟩, l, true⟩] kp tn).m b = f.m b := by
  have hb : b ≠ a := fun e => hne e.symm
  have h1 : ∀ l', (f.run ⟨0, a, ⟨#[]⟩, l', true⟩).m b = f.m b := fun l' => by simp [Fl.run, Fl.put, hb]
  unfold lossF
  split
  · rfl
  · rcases (show kp.toNat = 0 ∨ 1 ≤ kp.toNat by omega) with h | h
    · rw [h]
      simp only [List.getElem?_cons_zero, List.take_zero, runs, List.foldl_nil]
      split
      · exact h1 _
      · rfl
    · rw [List.getElem?_eq_none (by simpa using h)]
      exact h1 l

/-- The count of files, two of them told apart. -/
def CntOk (f : Fl) (c : Nat) (a b : ByteArray) : Prop := f.n = c + cntF f b + cntF f a
theorem CntOk.put_a {f : Fl} {c : Nat} {a b : ByteArray} (h : CntOk f c a b) (hne : a ≠ b) (l : List UInt8) : CntOk (f.put a l) c a b := by
  have hb : b ≠ a := fun e => hne e.symm
  unfold CntOk cntF at *
  cases hfa : f.m a <;> simp [Fl.put, hfa, hb] at * <;> omega
theorem CntOk.put_b {f : Fl} {c : Nat} {a b : ByteArray} (h : CntOk f c a b) (hne : a ≠ b) (l : List UInt8) : CntOk (f.put b l) c a b := by
  unfold CntOk cntF at *
  cases hfb : f.m b <;> simp [Fl.put, hfb, hne] at * <;> omega
theorem CntOk.del_a {f : Fl} {c : Nat} {a b : ByteArray} (h : CntOk f c a b) (hne : a ≠ b) : CntOk (f.del a) c a b := by
  have hb : b ≠ a := fun e => hne e.symm
  unfold CntOk cntF at *
  cases hfa : f.m a <;> simp [Fl.del, hfa, hb] at * <;> omega
def OpOk (o : POp) (a b : ByteArray) : Prop := (o.kind = 0 ∧ o.name = a) ∨ (o.kind = 1 ∧ o.name = b) ∨ (o.kind = 2 ∧ o.name = a ∧ o.to = b)
theorem CntOk.run {f : Fl} {c : Nat} {a b : ByteArray} (h : CntOk f c a b) (hne : a ≠ b) {o : POp} (ho : OpOk o a b) : CntOk (f.run o) c a b := by
  unfold Fl.run
  rcases ho with ⟨h1, h2⟩ | ⟨h1, h2⟩ | ⟨h1, h2, h3⟩
  · rw [if_pos h1, h2]; exact h.put_a hne _
  · rw [if_neg (by omega), if_pos h1, h2]; exact h.put_b hne _
  · rw [if_neg (by omega), if_neg (by omega), h2, h3]
    unfold Fl.move
    rw [if_neg hne]
    exact (h.put_b hne _).del_a hne
theorem CntOk.runs {c : Nat} {a b : ByteArray} (hne : a ≠ b) : ∀ (l : List POp) (f : Fl), CntOk f c a b → (∀ o ∈ l, OpOk o a b) → CntOk (Go.Proofs.Ythjbaafbkalomaa.runs f l) c a b
  | [], _, h, _ => h
  | o :: l, f, h, hl => CntOk.runs hne l (f.run o) (h.run hne (hl o (List.mem_cons_self ..))) (fun q hq => hl q (List.mem_cons_of_mem _ hq))
theorem CntOk.loss {c : Nat} {a b : ByteArray} (hne : a ≠ b) (l : List POp) (f : Fl) (h : CntOk f c a b) (hl : ∀ o ∈ l, OpOk o a b) (kp tn : Int) : CntOk (lossF f l kp tn) c a b := by
  unfold lossF
  split
  · exact h
  · cases hk : l[kp.toNat]? with
    | none => exact CntOk.runs hne l f h hl
    | some o =>
      have hmem : o ∈ l := List.mem_of_getElem? hk
      have ht : CntOk (Go.Proofs.Ythjbaafbkalomaa.runs f (l.take kp.toNat)) c a b := CntOk.runs hne _ f h (fun q hq => hl q (List.mem_of_mem_take hq))
      simp only
      split
      · refine ht.run hne ?_
        rcases hl o hmem with h1 | h1 | h1
        · exact .inl h1
        · exact .inr (.inl h1)
        · exact .inr (.inr h1)
      · exact ht



/-- Two files' names apart, all is as it was. -/
def Same2 (f0 : Fl) (a b : ByteArray) (f : Fl) : Prop := ∀ q, q ≠ b → q ≠ a → f.m q = f0.m q
theorem Same2.run {f0 f : Fl} {a b : ByteArray} (h : Same2 f0 a b f) (hne : a ≠ b) {o : POp} (ho : OpOk o a b) : Same2 f0 a b (f.run o) := by
  intro q h1 h2
  have := h q h1 h2
  unfold Fl.run
  rcases ho with ⟨k1, k2⟩ | ⟨k1, k2⟩ | ⟨k1, k2, k3⟩
  · rw [if_pos k1, k2]; simp [Fl.put, h2, this]
  · rw [if_neg (by omega), if_pos k1, k2]; simp [Fl.put, h1, this]
  · rw [if_neg (by omega), if_neg (by omega), k2, k3]
    unfold Fl.move
    rw [if_neg hne]
    simp [Fl.put, Fl.del, h1, h2, this]
theorem Same2.runs {f0 : Fl} {a b : ByteArray} (hne : a ≠ b) : ∀ (l : List POp) (f : Fl), Same2 f0 a b f → (∀ o ∈ l, OpOk o a b) → Same2 f0 a b (Go.Proofs.Ythjbaafbkalomaa.runs f l)
  | [], _, h, _ => h
  | o :: l, f, h, hl => Same2.runs hne l (f.run o) (h.run hne (hl o (List.mem_cons_self ..))) (fun q hq => hl q (List.mem_cons_of_mem _ hq))
theorem Same2.loss {f0 : Fl} {a b : ByteArray} (hne : a ≠ b) (l : List POp) (f : Fl) (h : Same2 f0 a b f) (hl : ∀ o ∈ l, OpOk o a b) (kp tn : Int) : Same2 f0 a b (lossF f l kp tn) := by
  unfold lossF
  split
  · exact h
  · cases hk : l[kp.toNat]? with
    | none => exact Same2.runs hne l f h hl
    | some o =>
      have hmem : o ∈ l := List.mem_of_getElem? hk
      have ht : Same2 f0 a b (Go.Proofs.Ythjbaafbkalomaa.runs f (l.take kp.toNat)) := Same2.runs hne _ f h (fun q hq => hl q (List.mem_of_mem_take hq))
      simp only
      split
      · refine ht.run hne ?_
        rcases hl o hmem with h1 | h1 | h1
        · exact .inl h1
        · exact .inr (.inl h1)
        · exact .inr (.inr h1)
      · exact ht

/-- A device without power that has kept a journal with this start and these records. -/
structure Gone (J : Jrn) (b : Fl) (E : Dev) (c : Nat) (st : Int) (rs : List (List UInt8)) : Prop where
  left : Left J.file E.now st rs
  ot : Same2 b J.fresh J.file E.now
  cnt : CntOk E.now c J.fresh J.file
  pl : E.pend = []
  kp : E.kept = E.now
  dn : E.down = true
  fu : E.fuse = 0

noncomputable def rewO (J : Jrn) (st : Nat) (rs : List (List UInt8)) : POp := ⟨0, J.fresh, ⟨#[]⟩, fileB st rs, true⟩
def repO (J : Jrn) : POp := ⟨2, J.fresh, J.file, [], false⟩
theorem act_pre {D : Dev} (hd : D.down = false) (hf : 0 ≤ D.fuse) (hp : D.pend = []) (o : POp) (h0 : actI D = 0) : (actD D o).now = D.now.run o ∧ (actD D o).pend = [o] ∧ (actD D o).down = false ∧ 0 ≤ (actD D o).fuse := by
  rcases act_cases D hd hf o with ⟨a1, _⟩ | ⟨_, F, f1, a2⟩
  · rw [a1] at h0; cases h0
  · rw [a2, hp]; exact ⟨rfl, rfl, hd, f1⟩
theorem act_pre2 {D : Dev} (hd : D.down = false) (hf : 0 ≤ D.fuse) (o : POp) (h0 : actI D = 0) : (actD D o).pend = D.pend ++ [o] := by
  rcases act_cases D hd hf o with ⟨a1, _⟩ | ⟨_, F, f1, a2⟩
  · rw [a1] at h0; cases h0
  · rw [a2]
section
variable {J : Jrn} {D : Dev} {c m : Nat}
theorem Sound.cok (h : Sound J D c m) : CntOk D.now c J.fresh J.file := h.nn
theorem Sound.small (h : Sound J D c m) (hc : c ≤ 200) : D.now.n < 256 := by
  have := h.nn
  have := cntF_le' D.now J.file
  have := cntF_le' D.now J.fresh
  omega
theorem Sound.calm (h : Sound J D c m) (kp tn : Int) : Gone J D.now (lossD (downD { D with down := true, fuse := 0 }) kp tn) c J.start J.recs := by
  have e : lossD (downD { D with down := true, fuse := 0 }) kp tn = { D with down := true, fuse := 0 } := by unfold lossD; rw [if_pos (by simp [downD, h.pl])]; rfl
  rw [e]
  exact ⟨h.left, fun _ _ _ => rfl, h.cok, h.pl, h.kp, rfl, rfl⟩
/-- A new file is made and put in the place of the journal's. -/
theorem Sound.swap (h : Sound J D c m) (hf : 0 ≤ D.fuse) (hc : c ≤ 200) (hlen : ∀ q l, D.now.m q = some l → l.length ≤ 8388608) (st : Nat) (rs : List (List UInt8)) (hl : (fileB st rs).length ≤ 4194304) {s1 s2 s3 : CStep} (h1 : s1.i = actI) (h1' : s1.act = fun D => actD D (rewO J st rs)) (h2 : s2.i = actI) (h2' : s2.act = fun D => actD D (repO J)) (h3 : s3.i = syncI) (h3' : s3.act = syncD) (kp tn : Int) :
    Fit (carryD [s1, s2, s3] D) ∧ ((carryI [s1, s2, s3] D = 0 ∧ ∃ F f, 0 ≤ F ∧ carryD [s1, s2, s3] D = { D with kept := f, now := f, pend := [], fuse := F } ∧ f.m J.file = some (fileB st rs) ∧ Same2 D.now J.fresh J.file f ∧ CntOk f c J.fresh J.file) ∨
      (carryI [s1, s2, s3] D = 303 ∧ (Gone J D.now (lossD (downD (carryD [s1, s2, s3] D)) kp tn) c J.start J.recs ∨ Gone J D.now (lossD (downD (carryD [s1, s2, s3] D)) kp tn) c st rs))) := by
  have hne := J.fresh_ne
  have hb := J.file_ne
  have ok1 : OpOk (rewO J st rs) J.fresh J.file := .inl ⟨rfl, rfl⟩
  have ok2 : OpOk (repO J) J.fresh J.file := .inr (.inr ⟨rfl, rfl, rfl⟩)
  have hsm := h.small hc
  have hfit1 : Fits D.now (rewO J st rs) := ⟨fun _ => by show (fileB st rs).length ≤ _; omega, fun h => by simp [rewO] at h⟩
  have hN : ((D.now.run (rewO J st rs)).run (repO J)).m J.file = some (fileB st rs) := by simp [Fl.run, rewO, repO, Fl.move, hne, Fl.get, Fl.put, Fl.del, hb]
  have hcN : CntOk ((D.now.run (rewO J st rs)).run (repO J)) c J.fresh J.file := (h.cok.run hne ok1).run hne ok2
  rcases carry_three h1 h1' h2 h2' h3 h3' D h.dn hf h.pl with ⟨i, e⟩ | ⟨i, e⟩ | ⟨i, e⟩ | ⟨i, F, f0, e⟩
  · rw [i, e]
    exact ⟨⟨by simp [h.pl], fun k hk => by simp [h.pl] at hk, by rw [h.kp]; exact hlen, by rw [h.kp]; omega⟩, .inr ⟨rfl, .inl (h.calm kp tn)⟩⟩
  · rw [i, e]
    refine ⟨⟨by simp, fun k hk => ?_, by rw [h.kp]; exact hlen, by rw [h.kp]; omega⟩, .inr ⟨rfl, .inl ?_⟩⟩
    · obtain rfl : k = 0 := by simp at hk; omega
      show Fits (runs D.kept []) (rewO J st rs)
      simp only [runs, List.foldl_nil, h.kp]; exact hfit1
    · have e2 : lossD (downD { D with now := D.now.run (rewO J st rs), pend := [rewO J st rs], down := true, fuse := 0 }) kp tn = { D with kept := lossF D.kept [rewO J st rs] kp tn, now := lossF D.kept [rewO J st rs] kp tn, pend := [], down := true, fuse := 0 } := by unfold lossD; rw [if_neg (by simp [downD])]; rfl
      rw [e2, h.kp]
      refine ⟨?_, Same2.loss hne _ D.now (fun _ _ _ => rfl) (by simp; exact ok1) kp tn, CntOk.loss hne _ _ h.cok (by simp; exact ok1) kp tn, rfl, rfl, rfl, rfl⟩
      have := loss_one (f := D.now) hne (fileB st rs) kp tn
      unfold Left
      show (∃ t, Torn t ∧ (lossF D.now [rewO J st rs] kp tn).m J.file = _) ∨ ((lossF D.now [rewO J st rs] kp tn).m J.file = none ∧ _)
      rw [show (lossF D.now [rewO J st rs] kp tn).m J.file = D.now.m J.file from this]
      exact h.left
  · rw [i, e]
    refine ⟨⟨by simp, fun k hk => ?_, by rw [h.kp]; exact hlen, by rw [h.kp]; omega⟩, .inr ⟨rfl, ?_⟩⟩
    · rcases (show k = 0 ∨ k = 1 by simp at hk; omega) with rfl | rfl
      · show Fits (runs D.kept []) (rewO J st rs)
        simp only [runs, List.foldl_nil, h.kp]; exact hfit1
      · exact ⟨fun h => by simp [repO] at h, fun h => by simp [repO] at h⟩
    · have e2 : lossD (downD { D with now := (D.now.run (rewO J st rs)).run (repO J), pend := [rewO J st rs, repO J], down := true, fuse := 0 }) kp tn = { D with kept := lossF D.kept [rewO J st rs, repO J] kp tn, now := lossF D.kept [rewO J st rs, repO J] kp tn, pend := [], down := true, fuse := 0 } := by unfold lossD; rw [if_neg (by simp [downD])]; rfl
      rw [e2, h.kp]
      have hc2 : CntOk (lossF D.now [rewO J st rs, repO J] kp tn) c J.fresh J.file := CntOk.loss hne _ _ h.cok (by simp; exact ⟨ok1, ok2⟩) kp tn
      have ho2 : Same2 D.now J.fresh J.file (lossF D.now [rewO J st rs, repO J] kp tn) := Same2.loss hne _ D.now (fun _ _ _ => rfl) (by simp; exact ⟨ok1, ok2⟩) kp tn
      rcases loss_swap (f := D.now) hne (fileB st rs) kp tn with q | q
      · refine .inl ⟨?_, ho2, hc2, rfl, rfl, rfl, rfl⟩
        show (∃ t, Torn t ∧ (lossF D.now [rewO J st rs, repO J] kp tn).m J.file = _) ∨ ((lossF D.now [rewO J st rs, repO J] kp tn).m J.file = none ∧ _)
        rw [show (lossF D.now [rewO J st rs, repO J] kp tn).m J.file = D.now.m J.file from q]
        exact h.left
      · refine .inr ⟨.inl ⟨[], Torn.nil, ?_⟩, ho2, hc2, rfl, rfl, rfl, rfl⟩
        rw [List.append_nil]
        exact q
  · rw [i, e]
    have hlenN : ∀ q l, ((D.now.run (rewO J st rs)).run (repO J)).m q = some l → l.length ≤ 8388608 := by
      intro q l hq
      by_cases e1 : q = J.file
      · subst e1
        rw [hN] at hq
        injection hq with hq
        rw [← hq]; omega
      · by_cases e2 : q = J.fresh
        · subst e2
          simp [Fl.run, rewO, repO, Fl.move, hne, Fl.del] at hq
        · have : ((D.now.run (rewO J st rs)).run (repO J)).m q = D.now.m q := by simp [Fl.run, rewO, repO, Fl.move, hne, Fl.put, Fl.del, e1, e2]
          rw [this] at hq
          exact hlen q l hq
    refine ⟨⟨by simp, fun k hk => by simp at hk, hlenN, ?_⟩, .inl ⟨rfl, F, _, f0, rfl, hN, Same2.run (Same2.run (fun _ _ _ => rfl) hne ok1) hne ok2, hcN⟩⟩
    have := hcN
    unfold CntOk at this
    have := cntF_le' ((D.now.run (rewO J st rs)).run (repO J)) J.file
    have := cntF_le' ((D.now.run (rewO J st rs)).run (repO J)) J.fresh
    show ((D.now.run (rewO J st rs)).run (repO J)).n ≤ _
    omega

theorem Sound.jok (h : Sound J D c m) (hm : m ≤ 4611686018427387904) : JOk J := by
  obtain ⟨n0, n1, n2, n3⟩ := JOk.names h.nm (J := J) rfl
  have := h.st1
  have := h.cnt
  exact ⟨n0, n1, n2, n3, h.st0, by omega, h.rl, by rw [List.length_append]; omega⟩

/-- What a loss leaves of an operation that adds the pending records: a beginning of them. -/
theorem loss_add {f : Fl} {b : ByteArray} {st : Nat} {rs ps : List (List UInt8)} (hf : f.m b = some (fileB st rs)) (hrl : ∀ r ∈ ps, r.length ≤ 65536) (kp tn : Int) : ∃ k t, k ≤ ps.length ∧ Torn t ∧ (lossF f [⟨1, b, ⟨#[]⟩, framesB ps, true⟩] kp tn).m b = some (fileB st (rs ++ ps.take k) ++ t) := by
  have hg : f.get b = fileB st rs := by simp [Fl.get, hf]
  have happ : ∀ k, fileB st (rs ++ ps.take k) = fileB st rs ++ framesB (ps.take k) := fun k => by unfold fileB; rw [framesB_append, ← List.append_assoc]
  unfold lossF
  split
  · exact ⟨0, [], Nat.zero_le _, Torn.nil, by rw [hf]; simp⟩
  · rcases (show kp.toNat = 0 ∨ 1 ≤ kp.toNat by omega) with hk | hk
    · rw [hk]
      simp only [List.getElem?_cons_zero, List.take_zero, runs, List.foldl_nil]
      split
      · obtain ⟨k, t, q1, q2, q3⟩ := frames_prefix ps ((framesB ps).take tn.toNat) (List.take_prefix ..) hrl
        refine ⟨k, t, q1, q3, ?_⟩
        have : (f.run (tornOp ⟨1, b, ⟨#[]⟩, framesB ps, true⟩ tn)) = f.put b (fileB st rs ++ (framesB ps).take tn.toNat) := by simp [Fl.run, tornOp, hg]
        rw [this, happ, q2]
        simp [Fl.put]
      · exact ⟨0, [], Nat.zero_le _, Torn.nil, by rw [hf]; simp⟩
    · have : ([⟨1, b, ⟨#[]⟩, framesB ps, true⟩] : List POp)[kp.toNat]? = none := List.getElem?_eq_none (by simpa using hk)
      rw [this]
      refine ⟨ps.length, [], Nat.le_refl _, Torn.nil, ?_⟩
      rw [happ, List.take_length]
      simp [runs, Fl.run, Fl.put, hg]

/-- The pending records are added at the file's end. -/
theorem Sound.add (h : Sound J D c m) (hw : J.whole = true) (hf : 0 ≤ D.fuse) (hc : c ≤ 200) (hm : m ≤ 4611686018427387904) (hlen : ∀ q l, D.now.m q = some l → l.length ≤ 8388608) {s1 s3 : CStep} (h1 : s1.i = actI) (h1' : s1.act = fun D => actD D (comOp J)) (h3 : s3.i = syncI) (h3' : s3.act = syncD) (kp tn : Int) :
    Fit (carryD [s1, s3] D) ∧ ((carryI [s1, s3] D = 0 ∧ ∃ F f, 0 ≤ F ∧ carryD [s1, s3] D = { D with kept := f, now := f, pend := [], fuse := F } ∧ f.m J.file = some (fileB J.start.toNat (J.recs ++ J.pend)) ∧ Same2 D.now J.fresh J.file f ∧ CntOk f c J.fresh J.file) ∨
      (carryI [s1, s3] D = 303 ∧ ∃ k, k ≤ J.pend.length ∧ Gone J D.now (lossD (downD (carryD [s1, s3] D)) kp tn) c J.start (J.recs ++ J.pend.take k))) := by
  have hne := J.fresh_ne
  have ok1 : OpOk (comOp J) J.fresh J.file := .inr (.inl ⟨rfl, rfl⟩)
  have hsm := h.small hc
  have hst := h.st1
  have hcn := h.cnt
  have hbx := h.bx
  have hst0 := h.st0
  have e1 := h.wh hw
  have hrl : ∀ r ∈ J.pend, r.length ≤ 65536 := fun r hr => h.rl r (List.mem_append_right _ hr)
  have hl1 := fileB_len J.start.toNat (by omega) J.recs (fun r hr => h.rl r (List.mem_append_left _ hr))
  have hl2 := framesB_len J.pend hrl
  have hg : D.now.get J.file = fileB J.start.toNat J.recs := by simp [Fl.get, e1]
  have hN : D.now.run (comOp J) = D.now.put J.file (fileB J.start.toNat J.recs ++ framesB J.pend) := by simp [Fl.run, comOp, hg]
  have hcN : CntOk (D.now.run (comOp J)) c J.fresh J.file := h.cok.run hne ok1
  have hfile : (D.now.run (comOp J)).m J.file = some (fileB J.start.toNat (J.recs ++ J.pend)) := by
    rw [hN]
    unfold fileB
    rw [framesB_append, ← List.append_assoc]
    simp [Fl.put]
  rcases carry_two h1 h1' h3 h3' D h.dn hf h.pl with ⟨i, e⟩ | ⟨i, e⟩ | ⟨i, F, f0, e⟩
  · rw [i, e]
    refine ⟨⟨by simp [h.pl], fun k hk => by simp [h.pl] at hk, by rw [h.kp]; exact hlen, by rw [h.kp]; omega⟩, .inr ⟨rfl, 0, Nat.zero_le _, ?_⟩⟩
    have := h.calm kp tn
    simpa using this
  · rw [i, e]
    refine ⟨⟨by simp, fun k hk => ?_, by rw [h.kp]; exact hlen, by rw [h.kp]; omega⟩, .inr ⟨rfl, ?_⟩⟩
    · obtain rfl : k = 0 := by simp at hk; omega
      refine ⟨fun h => by simp [comOp] at h, fun _ => ?_⟩
      show ((runs D.kept []).get J.file ++ framesB J.pend).length ≤ _
      simp only [runs, List.foldl_nil, h.kp, hg, List.length_append]
      omega
    · have e2 : lossD (downD { D with now := D.now.run (comOp J), pend := [comOp J], down := true, fuse := 0 }) kp tn = { D with kept := lossF D.kept [comOp J] kp tn, now := lossF D.kept [comOp J] kp tn, pend := [], down := true, fuse := 0 } := by unfold lossD; rw [if_neg (by simp [downD])]; rfl
      rw [e2, h.kp]
      obtain ⟨k, t, q1, q2, q3⟩ := loss_add e1 hrl kp tn
      exact ⟨k, q1, .inl ⟨t, q2, q3⟩, Same2.loss hne _ D.now (fun _ _ _ => rfl) (by simp; exact ok1) kp tn, CntOk.loss hne _ _ h.cok (by simp; exact ok1) kp tn, rfl, rfl, rfl, rfl⟩
  · rw [i, e]
    have hlenN : ∀ q l, (D.now.run (comOp J)).m q = some l → l.length ≤ 8388608 := by
      intro q l hq
      rw [hN] at hq
      simp only [Fl.put] at hq
      split at hq
      · injection hq with hq
        rw [← hq, List.length_append]; omega
      · exact hlen q l hq
    refine ⟨⟨by simp, fun k hk => by simp at hk, hlenN, ?_⟩, .inl ⟨rfl, F, _, f0, rfl, hfile, Same2.run (fun _ _ _ => rfl) hne ok1, hcN⟩⟩
    have := hcN
    unfold CntOk at this
    have := cntF_le' (D.now.run (comOp J)) J.file
    have := cntF_le' (D.now.run (comOp J)) J.fresh
    show (D.now.run (comOp J)).n ≤ _
    omega

/-- The power of a device at rest fails. -/
theorem Sound.gone (h : Sound J D c m) (kp tn : Int) : Gone J D.now (lossD (downD D) kp tn) c J.start J.recs := h.calm kp tn
theorem Sound.fit (h : Sound J D c m) (hc : c ≤ 200) (hlen : ∀ q l, D.now.m q = some l → l.length ≤ 8388608) : Fit D := by
  have := h.small hc
  exact ⟨by simp [h.pl], fun k hk => by simp [h.pl] at hk, by rw [h.kp]; exact hlen, by rw [h.kp]; omega⟩
theorem Sound.fuse (h : Sound J D c m) (F : Int) : Sound J { D with fuse := F } c m := ⟨h.dn, h.pl, h.kp, h.nm, h.dead, h.st0, h.st1, h.rl, h.cnt, h.by', h.bx, h.wh, h.nw, h.nn⟩

def comN (J : Jrn) : Jrn := { J with recs := J.recs ++ J.pend, pend := [], whole := J.whole || !J.pend.isEmpty }
theorem Sound.commit (h : Sound J D c m) (hf : 0 ≤ D.fuse) (hc : c ≤ 200) (hm : m ≤ 4611686018427387904) (hlen : ∀ q l, D.now.m q = some l → l.length ≤ 8388608) (j d : Nat) (kp tn : Int) :
    carryPre (comS J j d) D ∧ Fit (comD J j d D) ∧
    ((comI J j d D = 0 ∧ comJ J j d D = comN J ∧ Sound (comN J) (comD J j d D) c m ∧ Same2 D.now J.fresh J.file (comD J j d D).now) ∨
     (comI J j d D = 303 ∧ comJ J j d D = { J with dead := true } ∧ ∃ k, k ≤ J.pend.length ∧ Gone J D.now (lossD (downD (comD J j d D)) kp tn) c J.start (J.recs ++ J.pend.take k))) := by
  have hok := h.jok hm
  have hst := h.st1
  have hcn := h.cnt
  have hbx := h.bx
  have hst0 := h.st0
  have hsm := h.small hc
  have hl1 := fileB_len J.start.toNat (by omega) J.recs (fun r hr => h.rl r (List.mem_append_left _ hr))
  have hl2 := framesB_len J.pend (fun r hr => h.rl r (List.mem_append_right _ hr))
  have hl3 := fileB_len J.start.toNat (by omega) (J.recs ++ J.pend) h.rl
  rw [lens_append, List.length_append] at hl3
  have hdd := h.dead
  have key : carryPre (comS J j d) D ∧ Fit (carryD (comS J j d) D) ∧ ((carryI (comS J j d) D = 0 ∧ ∃ F f, 0 ≤ F ∧ carryD (comS J j d) D = { D with kept := f, now := f, pend := [], fuse := F } ∧ f.m J.file = some (fileB J.start.toNat (J.recs ++ J.pend)) ∧ Same2 D.now J.fresh J.file f ∧ CntOk f c J.fresh J.file) ∨
      (carryI (comS J j d) D = 303 ∧ ∃ k, k ≤ J.pend.length ∧ Gone J D.now (lossD (downD (carryD (comS J j d) D)) kp tn) c J.start (J.recs ++ J.pend.take k))) := by
    unfold comS
    cases hw : J.whole
    · rw [if_neg (by decide)]
      obtain ⟨k1, k2⟩ := h.swap hf hc hlen J.start.toNat (J.recs ++ J.pend) (by omega) (s1 := sRew J j) (s2 := sRep J j) (s3 := sSync d) rfl rfl rfl rfl rfl rfl kp tn
      refine ⟨⟨⟨by omega, by omega, by simp [h.pl]⟩, fun h0 => ?_⟩, k1, ?_⟩
      · obtain ⟨a1, a2, a3, a4⟩ := act_pre h.dn hf h.pl (rewO J J.start.toNat (J.recs ++ J.pend)) h0
        refine ⟨⟨?_, ?_⟩, fun h1 => ⟨?_, fun _ => trivial⟩⟩
        · show ((actD D (rewO J J.start.toNat (J.recs ++ J.pend))).now.m J.fresh).isSome = true
          rw [a1]; simp [Fl.run, rewO, Fl.put]
        · show (actD D (rewO J J.start.toNat (J.recs ++ J.pend))).pend.length ≤ _
          rw [a2]; simp
        · show (actD (actD D (rewO J J.start.toNat (J.recs ++ J.pend))) (repO J)).pend.length ≤ _
          rw [act_pre2 a3 a4 (repO J) h1, a2]; simp
      · rcases k2 with k2 | ⟨k2, k3⟩
        · exact .inl k2
        · refine .inr ⟨k2, ?_⟩
          rcases k3 with k3 | k3
          · exact ⟨0, Nat.zero_le _, by simpa using k3⟩
          · refine ⟨J.pend.length, Nat.le_refl _, ?_⟩
            have e : ((J.start.toNat : Nat) : Int) = J.start := by omega
            rw [e] at k3
            rw [List.take_length]
            exact k3
    · rw [if_pos rfl]
      have e1 := h.wh hw
      obtain ⟨k1, k2⟩ := h.add hw hf hc hm hlen (s1 := sExt J j) (s3 := sSync d) rfl rfl rfl rfl kp tn
      refine ⟨⟨⟨_, e1, by omega, by simp [h.pl]⟩, fun h0 => ⟨?_, fun _ => trivial⟩⟩, k1, k2⟩
      show (actD D (comOp J)).pend.length ≤ _
      rw [(act_pre h.dn hf h.pl (comOp J) h0).2.1]; simp
  obtain ⟨k1, k2, k3⟩ := key
  refine ⟨k1, ?_⟩
  by_cases hp : J.pend = []
  · have hJe : comN J = J := by
      rcases J with ⟨a, b, cc, dd, e, f, g⟩
      simp only at hp
      subst hp
      simp [comN]
    have hD : comD J j d D = D := by simp [comD, hdd, hp]
    rw [hD, hJe]
    refine ⟨h.fit hc hlen, .inl ⟨by simp [comI, hdd, hp], by simp [comJ, hdd, hp], h, fun _ _ _ => rfl⟩⟩
  · have hp' : ¬ J.pend.length = 0 := fun e => hp (List.eq_nil_of_length_eq_zero e)
    have hemp : J.pend.isEmpty = false := by simp [hp]
    have hD : comD J j d D = carryD (comS J j d) D := by simp only [comD, hdd, if_neg hp']; simp
    have hI : comI J j d D = carryI (comS J j d) D := by simp only [comI, hdd, if_neg hp']; simp
    rw [hD, hI]
    refine ⟨k2, ?_⟩
    rcases k3 with ⟨i, F, f, f0, e, e2, e3, e4⟩ | ⟨i, k, e, e2⟩
    · refine .inl ⟨i, ?_, ?_, ?_⟩
      · simp only [comJ, comN, hdd, if_neg hp', i, hemp]; simp
      · rw [e]
        have hb := h.by'
        refine ⟨h.dn, rfl, rfl, h.nm, h.dead, h.st0, ?_, ?_, ?_, ?_, ?_, ?_, ?_, ?_⟩
        · simp only [comN, List.length_append, List.length_nil]; omega
        · simp only [comN, List.append_nil]; exact h.rl
        · simp only [comN, List.length_append, List.length_nil]; omega
        · simp only [comN, lens_append, lens]; omega
        · simp only [comN, lens_append, lens]; omega
        · intro _; exact e2
        · intro hw
          simp [comN, hemp] at hw
        · exact e4
      · rw [e]; exact e3
    · refine .inr ⟨i, ?_, k, e, e2⟩
      simp only [comJ, hdd, if_neg hp', i, carryJ]; simp

theorem Sound.cut (h : Sound J D c m) (hf : 0 ≤ D.fuse) (hc : c ≤ 200) (hm : m ≤ 4611686018427387904) (hlen : ∀ q l, D.now.m q = some l → l.length ≤ 8388608) (j d p k : Nat) (hp : J.start < p) (hk : (p : Int) - J.start = k) (hk2 : k ≤ J.recs.length) (kp tn : Int) :
    (∀ x y z, carryPre [sCut J x y z p (J.recs.drop k), sRep J j, sSync d] D) ∧ Fit (carryD (cutS J j d p k) D) ∧
    ((carryI (cutS J j d p k) D = 0 ∧ Sound (cutJ J p k 0) (carryD (cutS J j d p k) D) c m ∧ Same2 D.now J.fresh J.file (carryD (cutS J j d p k) D).now) ∨
     (carryI (cutS J j d p k) D = 303 ∧ cutJ J p k 303 = { J with dead := true } ∧ (Gone J D.now (lossD (downD (carryD (cutS J j d p k) D)) kp tn) c J.start J.recs ∨ Gone J D.now (lossD (downD (carryD (cutS J j d p k) D)) kp tn) c p (J.recs.drop k)))) := by
  have hst := h.st1
  have hcn := h.cnt
  have hbx := h.bx
  have hst0 := h.st0
  have hsm := h.small hc
  have htd := lens_append (J.recs.take k) (J.recs.drop k)
  rw [List.take_append_drop] at htd
  have hrl : ∀ r ∈ J.recs.drop k, r.length ≤ 65536 := fun r hr => h.rl r (List.mem_append_left _ (List.mem_of_mem_drop hr))
  have hl3 := fileB_len p (by omega) (J.recs.drop k) hrl
  rw [List.length_drop] at hl3
  obtain ⟨k1, k2⟩ := h.swap hf hc hlen p (J.recs.drop k) (by omega) (s1 := sCut J 0 0 0 p (J.recs.drop k)) (s2 := sRep J j) (s3 := sSync d) rfl rfl rfl rfl rfl rfl kp tn
  refine ⟨fun x y z => ⟨⟨by omega, by omega, by simp [h.pl]⟩, fun h0 => ?_⟩, k1, ?_⟩
  · obtain ⟨a1, a2, a3, a4⟩ := act_pre h.dn hf h.pl (rewO J p (J.recs.drop k)) h0
    refine ⟨⟨?_, ?_⟩, fun h1 => ⟨?_, fun _ => trivial⟩⟩
    · show ((actD D (rewO J p (J.recs.drop k))).now.m J.fresh).isSome = true
      rw [a1]; simp [Fl.run, rewO, Fl.put]
    · show (actD D (rewO J p (J.recs.drop k))).pend.length ≤ _
      rw [a2]; simp
    · show (actD (actD D (rewO J p (J.recs.drop k))) (repO J)).pend.length ≤ _
      rw [act_pre2 a3 a4 (repO J) h1, a2]; simp
  · rcases k2 with ⟨i, F, f, f0, e, e2, e3, e4⟩ | ⟨i, k3⟩
    · refine .inl ⟨i, ?_, ?_⟩
      · have e' : carryD (cutS J j d p k) D = { D with kept := f, now := f, pend := [], fuse := F } := e
        rw [e']
        have hb := h.by'
        unfold cutJ
        rw [if_pos rfl]
        refine ⟨h.dn, rfl, rfl, h.nm, h.dead, Int.natCast_nonneg _, ?_, ?_, ?_, ?_, ?_, ?_, ?_, e4⟩
        · simp only [List.length_drop]; omega
        · intro r hr
          simp only [List.mem_append] at hr
          rcases hr with hr | hr
          · exact hrl r hr
          · exact h.rl r (List.mem_append_right _ hr)
        · simp only [List.length_drop]; omega
        · show J.bytes - lens (J.recs.take k) = lens (J.recs.drop k) + lens J.pend
          omega
        · show lens (J.recs.drop k) + lens J.pend ≤ 1048576
          omega
        · intro _
          show f.m J.file = some (fileB (p : Int).toNat (J.recs.drop k))
          exact e2
        · intro hw; cases hw
      · have e' : carryD (cutS J j d p k) D = { D with kept := f, now := f, pend := [], fuse := F } := e
        rw [e']; exact e3
    · refine .inr ⟨i, ?_, k3⟩
      unfold cutJ carryJ
      simp

/-- A journal that is opened when the power is back. -/
theorem Gone.sound {J : Jrn} {b : Fl} {E : Dev} {st : Int} {rs : List (List UInt8)} (h : Gone J b E c st rs) (hs : Sound J D c m) (h0 : 0 ≤ st) (h1 : st + rs.length ≤ m) (hrl : ∀ r ∈ rs, r.length ≤ 65536) (hcn : rs.length ≤ 4096) (hbx : lens rs ≤ 1048576) (wh : Bool) (hwh : (∃ t, Torn t ∧ E.now.m J.file = some (fileB st.toNat rs ++ t) ∧ wh = t.isEmpty) ∨ (E.now.m J.file = none ∧ rs = [] ∧ st = 0 ∧ wh = false)) :
    Sound ⟨J.name, st, rs, [], lens rs, wh, false⟩ { E with down := false } c m := by
  refine ⟨rfl, h.pl, h.kp, hs.nm, rfl, h0, by simpa using h1, by simpa using hrl, by simpa using hcn, by simp [lens], by simpa [lens] using hbx, ?_, ?_, h.cnt⟩
  · intro hw
    rcases hwh with ⟨t, k1, k2, k3⟩ | ⟨_, _, _, k4⟩
    · have : t = [] := by simpa using k3.symm.trans hw
      rw [this, List.append_nil] at k2
      exact k2
    · rw [k4] at hw; cases hw
  · intro _
    rcases hwh with ⟨t, k1, k2, k3⟩ | ⟨k1, k2, k3, _⟩
    · exact .inl ⟨t, k1, k2⟩
    · exact .inr ⟨k1, k2, k3⟩
end

end Go.Proofs.Ythjbaafbkalomaa
