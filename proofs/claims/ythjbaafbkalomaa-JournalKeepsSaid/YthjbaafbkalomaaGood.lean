/-
  Open, where no file has the journal's name, and where it is refused.
  Journal and device without a failure of power, in plain words: what Append, Commit, Cut, Discard and Open make of them.
-/
import Derived.Test.YthjbaafbkalomaaCut
import Derived.Test.YthjbaafbkalomaaCut2
namespace Go.Proofs.Ythjbaafbkalomaa
section
open Go.RowKit

def jrn0 (name : ByteArray) : Jrn := ⟨name, 0, [], [], 0, false, false⟩
theorem namesOk_of (name : ByteArray) (sfx : List UInt8) (h : nmB false 40 name = true) (hs : sfx.length ≤ 10) (ho : sfx.all (okc true) = true) : nmB true 64 (name ++ ⟨sfx.toArray⟩) = true := by
  unfold nmB at h ⊢
  simp only [Bool.and_eq_true, decide_eq_true_eq] at h ⊢
  obtain ⟨⟨h1, h2⟩, h3⟩ := h
  have hz : (name ++ (⟨sfx.toArray⟩ : ByteArray)).size = name.size + sfx.length := by
    rw [ByteArray.size_append]; rfl
  refine ⟨⟨by omega, by omega⟩, ?_⟩
  have hd : (name ++ (⟨sfx.toArray⟩ : ByteArray)).data.toList = name.data.toList ++ sfx := by
    rw [ByteArray.data_append]; simp
  rw [hd, List.all_append, ho, Bool.and_true, List.all_eq_true]
  intro c hc
  have := (List.all_eq_true.1 h3) c hc
  unfold okc at this ⊢
  simp only [Bool.false_and, Bool.or_false, Bool.true_and] at this ⊢
  rw [this]; rfl
theorem JOk.names {name : ByteArray} (h : nmB false 40 name = true) {J : Jrn} (hn : J.name = name) : J.name.size ≤ 40 ∧ namesOk [J.file] = true ∧ namesOk [J.fresh] = true ∧ namesOk [J.fresh, J.file] = true := by
  subst hn
  have h1 := namesOk_of J.name [46, 108, 111, 103] h (by decide) (by decide)
  have h2 := namesOk_of J.name [46, 110, 101, 119] h (by decide) (by decide)
  refine ⟨?_, ?_, ?_, ?_⟩
  · unfold nmB at h
    simp only [Bool.and_eq_true, decide_eq_true_eq] at h
    exact h.1.2
  · simp only [namesOk, Jrn.file, List.all_cons, List.all_nil, Bool.and_true]; exact h1
  · simp only [namesOk, Jrn.fresh, List.all_cons, List.all_nil, Bool.and_true]; exact h2
  · simp only [namesOk, Jrn.file, Jrn.fresh, List.all_cons, List.all_nil, Bool.and_true, Bool.and_eq_true]; exact ⟨h2, h1⟩
/-- A journal that has just been made. -/
theorem JAt.new (g : Gh) (w : World) (d : Nat) (name : ByteArray) : JAt (g.box w.heap.size) (w.alloc (.cells #[.pointer (some ⟨d, 0, none⟩), .string name, .int .i64 0, .slice none 0 0, .slice none 0 0, .int .i64 0, .bool false, .bool false] 66)) w.heap.size d (jrn0 name) :=
  ⟨none, 0, [], none, 0, [], Blk.new w 66 (jCs d none 0 none 0 (jrn0 name)), App.nil _ _ _ _ _, trivial, App.nil _ _ _ _ _, trivial, fun h => absurd h (Nat.lt_irrefl _), g.box_O _, g.box_F _⟩

set_option maxRecDepth 100000 in
theorem open_bad (d : Nat) (w : World) (name : ByteArray) (hs : name.size ≤ 9223372036854775807) (h : nmB false 40 name = false) :
    Calls Try.prog 5 #[.pointer (some ⟨d, 0, none⟩), .string name] w fun e w' => e = .returned (.tuple #[.pointer none, .int .i64 314]) ∧ w = w' := by
  go_enter Try.func5, Try.ntmps5
  go_wp2_with fail
  refine (jname_any name w hs).mono ?_
  rw [h]
  rintro e w' ⟨rfl, rfl⟩
  go_wp2_with fail
  go_ret2
  exact ⟨rfl, rfl⟩

/-- What Open leaves: a new journal. -/
def OpenP (d : Nat) (g : Gh) (w : World) (J : Jrn) (e : Ending) (w' : World) : Prop := ∃ j g', e = .returned (.tuple #[.pointer (some ⟨j, 0, none⟩), .int .i64 0]) ∧ w.heap.size ≤ j ∧ Ext (fun _ => False) g w g' w' ∧ JAt g' w' j d J

set_option maxRecDepth 100000 in
theorem open_none (d : Nat) (g : Gh) (w : World) (D : Dev) (hD : DevAt g w d D) (name : ByteArray) (h : nmB false 40 name = true) (hdn : D.down = false) (hm : D.now.m (jrn0 name).file = none) :
    Calls Try.prog 5 #[.pointer (some ⟨d, 0, none⟩), .string name] w (OpenP d g w (jrn0 name)) := by
  obtain ⟨n0, n1, n2, n3⟩ := JOk.names h (J := jrn0 name) rfl
  have hx := Ext.box (fun _ => False) g w (.cells #[.pointer (some ⟨d, 0, none⟩), .string name, .int .i64 0, .slice none 0 0, .slice none 0 0, .int .i64 0, .bool false, .bool false] 66)
  have hJ := JAt.new g w d name
  have HX := Lib.hid hx
  have HJ := Lib.hid hJ
  have HD := Lib.hid (hD.ext hx (fun h => h))
  clear hx hJ hD
  go_enter Try.func5, Try.ntmps5
  go_wp2_with fail
  refine (jname_any name w (by have : name.size ≤ 40 := n0; omega)).mono ?_
  rw [h]
  rintro e w' ⟨rfl, rfl⟩
  go_wp2_with fail
  refine (jfile_any w.heap.size d _ _ (jrn0 name) HJ.out n0).mono ?_
  rintro e w' ⟨rfl, rfl⟩
  go_wp2_with fail
  refine (dread_any d 0 _ _ D HD.out (jrn0 name).file n1).mono ?_
  rintro e w2 ⟨A, cap, g2, hx2, rfl, _⟩
  have HX2 := Lib.hid hx2
  clear hx2
  rw [hdn, hm]
  go_wp2_with fail
  go_ret2
  exact ⟨w.heap.size, g2, rfl, Nat.le_refl _, HX.out.trans HX2.out, HJ.out.ext HX2.out (fun h => h)⟩
end

section
open Go.RowKit

theorem framesB_len : ∀ (rs : List (List UInt8)), (∀ r ∈ rs, r.length ≤ 65536) → (framesB rs).length ≤ lens rs + 20 * rs.length
  | [], _ => by simp [framesB, lens]
  | r :: rs, h => by
    have h1 := frameB_len r (h r (List.mem_cons_self ..))
    have h2 := framesB_len rs (fun q hq => h q (List.mem_cons_of_mem _ hq))
    simp only [framesB, lens, List.length_append, List.length_cons]
    omega
theorem fileB_len (st : Nat) (hst : st < 9223372036854775808) (rs : List (List UInt8)) (h : ∀ r ∈ rs, r.length ≤ 65536) : (fileB st rs).length ≤ 14 + lens rs + 20 * rs.length := by
  have h1 := framesB_len rs h
  have h2 := encU_len st 10 (Nat.lt_of_lt_of_le hst (by decide)) (by decide)
  unfold fileB
  simp only [List.length_append, List.length_cons, List.length_nil]
  omega

structure Up (D : Dev) : Prop where
  dn : D.down = false
  fu : D.fuse = 0
theorem Up.burnB {D : Dev} (h : Up D) : burnB D = false := by simp [Go.Proofs.Ythjbaafbkalomaa.burnB, h.fu]
theorem Up.burnD {D : Dev} (h : Up D) : burnD D = D := by simp [Go.Proofs.Ythjbaafbkalomaa.burnD, h.fu]
theorem Up.actI {D : Dev} (h : Up D) : actI D = 0 := by simp [Go.Proofs.Ythjbaafbkalomaa.actI, h.dn, doI, h.burnB]
theorem Up.actD {D : Dev} (h : Up D) (o : POp) : actD D o = { D with now := D.now.run o, pend := D.pend ++ [o] } := by
  simp only [Go.Proofs.Ythjbaafbkalomaa.actD, h.dn, doD, h.burnB, h.burnD]
  simp
theorem Up.acted {D : Dev} (h : Up D) (f : Fl) (l : List POp) : Up { D with now := f, pend := l } := ⟨h.dn, h.fu⟩
theorem Up.syncI {D : Dev} (h : Up D) : syncI D = 0 := by simp [Go.Proofs.Ythjbaafbkalomaa.syncI, h.dn, h.burnB]
theorem Up.syncD {D : Dev} (h : Up D) (hp : D.pend ≠ []) : syncD D = { D with kept := D.now, pend := [] } := by
  simp only [Go.Proofs.Ythjbaafbkalomaa.syncD, h.dn, h.burnB, h.burnD]
  simp [hp]

theorem ba_append_inj {a b c : ByteArray} (h : a ++ b = a ++ c) : b.data.toList = c.data.toList := by
  have := congrArg (fun x : ByteArray => x.data.toList) h
  simpa [ByteArray.data_append] using this
theorem Jrn.fresh_ne (J : Jrn) : J.fresh ≠ J.file := fun h => by
  have := ba_append_inj h
  simp at this
theorem Jrn.file_ne (J : Jrn) : J.file ≠ J.fresh := fun h => J.fresh_ne h.symm

def cntF (f : Fl) (k : ByteArray) : Nat := if (f.m k).isSome then 1 else 0

/-- Files once a new file has been written and put in the place of the journal's. -/
theorem Fl.swap (f : Fl) {a b : ByteArray} (hne : a ≠ b) (l : List UInt8) (ha : f.m a = none) (hn : cntF f b ≤ f.n) :
    ((f.put a l).move a b).m = (fun q => if q = a then none else if q = b then some l else f.m q) ∧ ((f.put a l).move a b).n = f.n - cntF f b + 1 := by
  have hg : (f.put a l).get a = l := by simp [Fl.get, Fl.put]
  unfold Fl.move
  rw [if_neg hne, hg]
  constructor
  · funext q
    by_cases h1 : q = a <;> by_cases h2 : q = b <;> simp [Fl.del, Fl.put, h1, h2]
  · have hb : b ≠ a := fun e => hne e.symm
    unfold cntF at *
    cases hfb : f.m b <;> simp [Fl.del, Fl.put, ha, hne, hb, hfb] at *
    omega
theorem Fl.added (f : Fl) {b : ByteArray} (l l0 : List UInt8) (hb : f.m b = some l0) : (f.put b (f.get b ++ l)).m = (fun q => if q = b then some (l0 ++ l) else f.m q) ∧ (f.put b (f.get b ++ l)).n = f.n := by
  have hg : f.get b = l0 := by simp [Fl.get, hb]
  rw [hg]
  simp [Fl.put, hb]

/-- A journal and its device, no failure of power; c other files; at most m records were ever appended. -/
structure Good (J : Jrn) (D : Dev) (c m : Nat) : Prop where
  up : Up D
  pl : D.pend = []
  kp : D.kept = D.now
  nm : nmB false 40 J.name = true
  dead : J.dead = false
  st0 : 0 ≤ J.start
  st1 : J.start + J.recs.length + J.pend.length ≤ m
  rl : ∀ r ∈ J.recs ++ J.pend, r.length ≤ 65536
  cnt : J.recs.length + J.pend.length ≤ 4096
  by' : J.bytes = lens J.recs + lens J.pend
  bx : lens J.recs + lens J.pend ≤ 1048576
  wh : J.whole = true → D.now.m J.file = some (fileB J.start.toNat J.recs)
  nw : J.whole = false → D.now.m J.file = none ∧ J.recs = [] ∧ J.start = 0
  fr : D.now.m J.fresh = none
  nn : D.now.n = c + cntF D.now J.file

section
variable {J : Jrn} {D : Dev} {c m : Nat}
theorem Good.jok (h : Good J D c m) (hm : m ≤ 4611686018427387904) : JOk J := by
  obtain ⟨n0, n1, n2, n3⟩ := JOk.names h.nm (J := J) rfl
  have := h.st1
  have := h.cnt
  exact ⟨n0, n1, n2, n3, h.st0, by omega, h.rl, by rw [List.length_append]; omega⟩

theorem Good.new {D : Dev} (up : Up D) (pl : D.pend = []) (kp : D.kept = D.now) {name : ByteArray} (hn : nmB false 40 name = true) (h1 : D.now.m (jrn0 name).file = none) (h2 : D.now.m (jrn0 name).fresh = none) (m : Nat) : Good (jrn0 name) D D.now.n m :=
  ⟨up, pl, kp, hn, rfl, Int.le_refl _, by simp [jrn0], by simp [jrn0], by simp [jrn0], by simp [jrn0, lens], by simp [jrn0, lens], (fun h => by cases h), fun _ => ⟨h1, rfl, rfl⟩, h2, by simp [cntF, h1]⟩
theorem Good.dev0 {name : ByteArray} (hn : nmB false 40 name = true) (m : Nat) : Good (jrn0 name) dev0 0 m :=
  Good.new ⟨rfl, rfl⟩ rfl rfl hn rfl rfl m

theorem Good.appI (h : Good J D c m) (r : List UInt8) : jappI J r = if 65536 < r.length then 310 else if 4096 ≤ J.recs.length + J.pend.length then 311 else if 1048576 < lens J.recs + lens J.pend + r.length then 311 else 0 := by
  unfold jappI
  rw [h.dead, h.by']
  have h1 : ((4096 : Int) ≤ J.recs.length + J.pend.length) ↔ 4096 ≤ J.recs.length + J.pend.length := by omega
  have h2 : (1048576 < (lens J.recs : Int) + lens J.pend + r.length) ↔ 1048576 < lens J.recs + lens J.pend + r.length := by omega
  simp [h2]
theorem Good.appJ (h : Good J D c m) (r : List UInt8) : Good (jappJ J r) D c (m + 1) := by
  have hst := h.st1
  unfold jappJ
  split
  · rename_i hi
    rw [h.appI] at hi
    split at hi
    · omega
    split at hi
    · omega
    split at hi
    · omega
    rename_i k1 k2 k3
    have hb := h.by'
    refine ⟨h.up, h.pl, h.kp, h.nm, h.dead, h.st0, ?_, ?_, ?_, ?_, ?_, h.wh, h.nw, h.fr, h.nn⟩
    · simp only [List.length_append, List.length_cons, List.length_nil]; omega
    · intro q hq
      simp only [List.mem_append, List.mem_cons, List.not_mem_nil, or_false] at hq
      rcases hq with hq | hq | hq
      · exact h.rl q (List.mem_append_left _ hq)
      · exact h.rl q (List.mem_append_right _ hq)
      · subst hq; omega
    · simp only [List.length_append, List.length_cons, List.length_nil]; omega
    · simp only [lens_append, lens]; omega
    · simp only [lens_append, lens]; omega
  · exact ⟨h.up, h.pl, h.kp, h.nm, h.dead, h.st0, by omega, h.rl, h.cnt, h.by', h.bx, h.wh, h.nw, h.fr, h.nn⟩
theorem Good.more (h : Good J D c m) {m' : Nat} (hm : m ≤ m') : Good J D c m' := by
  have hst := h.st1
  exact ⟨h.up, h.pl, h.kp, h.nm, h.dead, h.st0, by omega, h.rl, h.cnt, h.by', h.bx, h.wh, h.nw, h.fr, h.nn⟩
theorem Good.discard (h : Good J D c m) : disJ J = { J with pend := [], bytes := lens J.recs } ∧ Good { J with pend := [], bytes := lens J.recs } D c m := by
  have hst := h.st1
  have hb := h.by'
  have := h.cnt
  have := h.bx
  constructor
  · unfold disJ
    rw [h.dead, hb]
    simp
  · refine ⟨h.up, h.pl, h.kp, h.nm, h.dead, h.st0, ?_, ?_, ?_, ?_, ?_, h.wh, h.nw, h.fr, h.nn⟩
    · simp only [List.length_nil]; omega
    · intro q hq
      rw [List.append_nil] at hq
      exact h.rl q (List.mem_append_left _ hq)
    · simp only [List.length_nil]; omega
    · simp [lens]
    · simp only [lens]; omega

/-- The device once a file has been changed and synced. -/
def synced (D : Dev) (f : Fl) : Dev := { D with kept := f, now := f, pend := [] }
theorem two_steps {D : Dev} (h : Up D) (_hp : D.pend = []) (o : POp) : syncD (actD D o) = synced D (D.now.run o) := by
  rw [h.actD, (h.acted _ _).syncD (by simp)]
  rfl
theorem three_steps {D : Dev} (h : Up D) (_hp : D.pend = []) (o o' : POp) : syncD (actD (actD D o) o') = synced D ((D.now.run o).run o') := by
  rw [h.actD, (h.acted _ _).actD, (h.acted _ _).syncD (by simp)]
  rfl

theorem carry2 {s1 s2 : CStep} {D : Dev} (h1 : s1.i D = 0) (h2 : s2.i (s1.act D) = 0) : carryI [s1, s2] D = 0 ∧ carryD [s1, s2] D = s2.act (s1.act D) := by
  simp [carryI, carryD, h1, h2]
theorem carry3 {s1 s2 s3 : CStep} {D : Dev} (h1 : s1.i D = 0) (h2 : s2.i (s1.act D) = 0) (h3 : s3.i (s2.act (s1.act D)) = 0) : carryI [s1, s2, s3] D = 0 ∧ carryD [s1, s2, s3] D = s3.act (s2.act (s1.act D)) := by
  simp [carryI, carryD, h1, h2, h3]
theorem Up.act {D : Dev} (h : Up D) (o : POp) : Up (Go.Proofs.Ythjbaafbkalomaa.actD D o) := by rw [h.actD]; exact h.acted _ _

theorem Good.commit (h : Good J D c m) (hm : m ≤ 4611686018427387904) (hc : c ≤ 200) (j d : Nat) : carryPre (comS J j d) D ∧ comI J j d D = 0 ∧
    comJ J j d D = { J with recs := J.recs ++ J.pend, pend := [], whole := J.whole || !J.pend.isEmpty } ∧ Good { J with recs := J.recs ++ J.pend, pend := [], whole := J.whole || !J.pend.isEmpty } (comD J j d D) c m ∧ ∀ q, q ≠ J.file → q ≠ J.fresh → (comD J j d D).now.m q = D.now.m q := by
  have hok := h.jok hm
  have hst := h.st1
  have hcn := h.cnt
  have hbx := h.bx
  have hst0 := h.st0
  have hl1 := fileB_len J.start.toNat (by omega) J.recs (fun r hr => h.rl r (List.mem_append_left _ hr))
  have hl2 := framesB_len J.pend (fun r hr => h.rl r (List.mem_append_right _ hr))
  have hl3 := fileB_len J.start.toNat (by omega) (J.recs ++ J.pend) h.rl
  rw [lens_append, List.length_append] at hl3
  have hpl : D.pend.length ≤ 1000000 := by rw [h.pl]; simp
  have hcf : cntF D.now J.file ≤ 1 := by unfold cntF; split <;> omega
  have hnn := h.nn
  have key : carryPre (comS J j d) D ∧ carryI (comS J j d) D = 0 ∧ ∃ f : Fl, carryD (comS J j d) D = synced D f ∧ f.m = (fun q => if q = J.fresh then none else if q = J.file then some (fileB J.start.toNat (J.recs ++ J.pend)) else D.now.m q) ∧ f.n = c + 1 := by
    unfold comS
    cases hw : J.whole
    · obtain ⟨e1, e2, e3⟩ := h.nw hw
      obtain ⟨g1, g2⟩ := Fl.swap D.now J.fresh_ne (fileB J.start.toNat (J.recs ++ J.pend)) h.fr (by omega)
      obtain ⟨q1, q2⟩ := carry3 (s1 := sRew J j) (s2 := sRep J j) (s3 := sSync d) (D := D) h.up.actI (h.up.act _).actI ((h.up.act _).act _).syncI
      rw [if_neg (by decide)]
      refine ⟨⟨⟨by omega, by omega, hpl⟩, fun _ => ⟨⟨?_, ?_⟩, fun _ => ⟨?_, fun _ => trivial⟩⟩⟩, q1, _, q2.trans (three_steps h.up h.pl _ _), ?_, ?_⟩
      · show ((actD D _).now.m J.fresh).isSome = true
        rw [h.up.actD]; simp [Fl.run, Fl.put]
      · show (actD D _).pend.length ≤ _
        rw [h.up.actD, h.pl]; simp
      · show (actD (actD D _) _).pend.length ≤ _
        rw [h.up.actD, (h.up.acted _ _).actD, h.pl]; simp
      · exact g1
      · show ((D.now.put J.fresh _).move J.fresh J.file).n = _
        rw [g2, hnn]; omega
    · have e1 := h.wh hw
      obtain ⟨g1, g2⟩ := Fl.added D.now (framesB J.pend) _ e1
      obtain ⟨q1, q2⟩ := carry2 (s1 := sExt J j) (s2 := sSync d) (D := D) h.up.actI (h.up.act _).syncI
      rw [if_pos rfl]
      refine ⟨⟨⟨_, e1, by omega, hpl⟩, fun _ => ⟨?_, fun _ => trivial⟩⟩, q1, _, q2.trans (two_steps h.up h.pl _), ?_, ?_⟩
      · show (actD D _).pend.length ≤ _
        rw [h.up.actD, h.pl]; simp
      · show (D.now.put J.file (D.now.get J.file ++ framesB J.pend)).m = _
        rw [g1]
        funext q
        by_cases h1 : q = J.fresh
        · subst h1
          rw [if_neg J.fresh_ne, if_pos rfl, h.fr]
        · rw [if_neg h1]
          unfold fileB
          rw [framesB_append, ← List.append_assoc]
      · show (D.now.put J.file (D.now.get J.file ++ framesB J.pend)).n = _
        rw [g2, hnn]
        simp [cntF, e1]
  obtain ⟨k1, k2, f, k3, k4, k5⟩ := key
  have hdd := h.dead
  by_cases hp : J.pend = []
  · have hJe : { J with recs := J.recs ++ J.pend, pend := [], whole := J.whole || !J.pend.isEmpty } = J := by
      rcases J with ⟨a, b, cc, dd, e, f, g⟩
      simp only at hp
      subst hp
      simp
    refine ⟨k1, ?_, ?_, ?_, ?_⟩
    · simp [comI, hdd, hp]
    · rw [hJe]; simp [comJ, hdd, hp]
    · rw [hJe]
      have : comD J j d D = D := by simp [comD, hdd, hp]
      rw [this]; exact h
    · have : comD J j d D = D := by simp [comD, hdd, hp]
      rw [this]; exact fun _ _ _ => rfl
  · have hp' : ¬ J.pend.length = 0 := fun e => hp (List.eq_nil_of_length_eq_zero e)
    have hemp : J.pend.isEmpty = false := by simp [hp]
    have hD : comD J j d D = synced D f := by simp only [comD, hdd, if_neg hp', k3]; simp
    refine ⟨k1, ?_, ?_, ?_, ?_⟩
    · simp only [comI, hdd, if_neg hp', k2]; simp
    · simp only [comJ, hdd, if_neg hp', k2, hemp]; simp
    · rw [hD]
      have hb := h.by'
      refine ⟨⟨h.up.dn, h.up.fu⟩, rfl, rfl, h.nm, h.dead, h.st0, ?_, ?_, ?_, ?_, ?_, ?_, ?_, ?_, ?_⟩
      · simp only [List.length_append, List.length_nil]; omega
      · simp only [List.append_nil]; exact h.rl
      · simp only [List.length_append, List.length_nil]; omega
      · simp only [lens_append, lens]; omega
      · simp only [lens_append, lens]; omega
      · intro _
        show f.m J.file = _
        rw [k4]; simp [J.file_ne]
      · intro hw
        simp [hemp] at hw
      · show f.m J.fresh = none
        rw [k4]; simp
      · show f.n = c + cntF f J.file
        rw [k5]; simp [cntF, k4, J.file_ne]
    · intro q h1 h2
      rw [hD]
      show f.m q = _
      rw [k4]; simp [h1, h2]

theorem Good.cut (h : Good J D c m) (hm : m ≤ 4611686018427387904) (hc : c ≤ 200) (j d p k : Nat) (hp : J.start < p) (hk : (p : Int) - J.start = k) (hk2 : k ≤ J.recs.length) : (∀ x y z, carryPre [sCut J x y z p (J.recs.drop k), sRep J j, sSync d] D) ∧ carryI (cutS J j d p k) D = 0 ∧
    Good (cutJ J p k 0) (carryD (cutS J j d p k) D) c m ∧ ∀ q, q ≠ J.file → q ≠ J.fresh → (carryD (cutS J j d p k) D).now.m q = D.now.m q := by
  have hst := h.st1
  have hcn := h.cnt
  have hbx := h.bx
  have hst0 := h.st0
  have hw : J.whole = true := by
    cases hw : J.whole
    · obtain ⟨_, e2, e3⟩ := h.nw hw
      rw [e2] at hk2
      simp at hk2
      omega
    · rfl
  have e1 := h.wh hw
  have htd := lens_append (J.recs.take k) (J.recs.drop k)
  rw [List.take_append_drop] at htd
  have hrl : ∀ r ∈ J.recs.drop k, r.length ≤ 65536 := fun r hr => h.rl r (List.mem_append_left _ (List.mem_of_mem_drop hr))
  have hl3 := fileB_len p (by omega) (J.recs.drop k) hrl
  rw [List.length_drop] at hl3
  have hpl : D.pend.length ≤ 1000000 := by rw [h.pl]; simp
  have hcf : cntF D.now J.file = 1 := by simp [cntF, e1]
  have hnn := h.nn
  obtain ⟨g1, g2⟩ := Fl.swap D.now J.fresh_ne (fileB p (J.recs.drop k)) h.fr (by omega)
  obtain ⟨q1, q2⟩ := carry3 (s1 := sCut J 0 0 0 p (J.recs.drop k)) (s2 := sRep J j) (s3 := sSync d) (D := D) h.up.actI (h.up.act _).actI ((h.up.act _).act _).syncI
  have hD : carryD (cutS J j d p k) D = synced D ((D.now.put J.fresh (fileB p (J.recs.drop k))).move J.fresh J.file) := q2.trans (three_steps h.up h.pl _ _)
  refine ⟨fun x y z => ⟨⟨by omega, by omega, hpl⟩, fun _ => ⟨⟨?_, ?_⟩, fun _ => ⟨?_, fun _ => trivial⟩⟩⟩, q1, ?_, ?_⟩
  · show ((actD D _).now.m J.fresh).isSome = true
    rw [h.up.actD]; simp [Fl.run, Fl.put]
  · show (actD D _).pend.length ≤ _
    rw [h.up.actD, h.pl]; simp
  · show (actD (actD D _) _).pend.length ≤ _
    rw [h.up.actD, (h.up.acted _ _).actD, h.pl]; simp
  · rw [hD]
    have hb := h.by'
    have hJe : cutJ J p k 0 = { J with start := p, recs := J.recs.drop k, bytes := J.bytes - lens (J.recs.take k), whole := true } := by simp [cutJ]
    rw [hJe]
    refine ⟨⟨h.up.dn, h.up.fu⟩, rfl, rfl, h.nm, h.dead, by simp, ?_, ?_, ?_, ?_, ?_, ?_, ?_, ?_, ?_⟩
    · simp only [List.length_drop]; omega
    · intro r hr
      rcases List.mem_append.1 hr with hr | hr
      · exact hrl r hr
      · exact h.rl r (List.mem_append_right _ hr)
    · simp only [List.length_drop]; omega
    · simp only; omega
    · simp only; omega
    · intro _
      show ((D.now.put J.fresh (fileB p (J.recs.drop k))).move J.fresh J.file).m J.file = _
      rw [g1]; simp [J.file_ne]
    · intro hw; cases hw
    · show ((D.now.put J.fresh (fileB p (J.recs.drop k))).move J.fresh J.file).m J.fresh = none
      rw [g1]; simp
    · show ((D.now.put J.fresh (fileB p (J.recs.drop k))).move J.fresh J.file).n = _
      rw [g2]
      have : cntF ((D.now.put J.fresh (fileB p (J.recs.drop k))).move J.fresh J.file) J.file = 1 := by simp [cntF, g1, J.file_ne]
      show _ = c + cntF ((D.now.put J.fresh (fileB p (J.recs.drop k))).move J.fresh J.file) J.file
      omega
  · intro q h1 h2
    rw [hD]
    show ((D.now.put J.fresh (fileB p (J.recs.drop k))).move J.fresh J.file).m q = _
    rw [g1]; simp [h1, h2]
end
end

end Go.Proofs.Ythjbaafbkalomaa
