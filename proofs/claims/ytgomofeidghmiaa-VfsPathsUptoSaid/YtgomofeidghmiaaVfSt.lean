/-
  Layer 08, plain: the file system's state, its changes of names, what each call answers and leaves.
-/
import Derived.Test.YtgomofeidghmiaaVfM
import Derived.Test.YtgomofeidghmiaaSpE
namespace Go.Proofs.Ytgomofeidghmiaa
open Go.RowKit

section
variable {κ α β : Type} [DecidableEq κ]
theorem aget_without (t : List (κ × α)) (k k' : κ) : aget (without t k) k' = if k = k' then none else aget t k' := by
  induction t with
  | nil => unfold without aget; split <;> rfl
  | cons p r ih =>
    rw [without_cons, aget_cons]
    by_cases h : p.1 = k
    · rw [if_pos h, ih]
      by_cases h2 : k = k'
      · rw [if_pos h2, if_pos h2]
      · rw [if_neg h2, if_neg h2, if_neg (fun e => h2 (h ▸ e))]
    · rw [if_neg h, aget_cons, ih]
      by_cases h2 : p.1 = k'
      · rw [if_pos h2, if_neg (fun e => h (h2.trans e.symm)), if_pos h2]
      · rw [if_neg h2, if_neg h2]
theorem aget_adel {t : List (κ × α)} (hn : (t.map Prod.fst).Nodup) (k k' : κ) : aget (adel t k) k' = if k = k' then none else aget t k' := by
  rw [adel_without hn, aget_without]
theorem aget_isSome {t : List (κ × α)} {k : κ} : (aget t k).isSome = true ↔ k ∈ t.map Prod.fst := by
  cases h : aget t k with
  | none => rw [aget_none] at h; simp [h]
  | some v => exact ⟨fun _ => List.mem_map.2 ⟨_, aget_mem h, rfl⟩, fun _ => rfl⟩
theorem aget_mem' {t : List (κ × α)} {p : κ × α} (hn : (t.map Prod.fst).Nodup) (h : p ∈ t) : aget t p.1 = some p.2 := aget_of_mem hn h
end

section
variable {α : Type}
theorem aget_withS {t : List (ByteArray × α)} {k : ByteArray} (hk : k ∉ t.map Prod.fst) (v : α) (k' : ByteArray) : aget (withS k v t) k' = if k = k' then some v else aget t k' := by
  induction t with
  | nil =>
    simp only [withS]
    rw [aget_cons]
  | cons p r ih =>
    have h1 : k ≠ p.1 := fun e => hk (by simp [e])
    have h2 : k ∉ r.map Prod.fst := fun e => hk (List.mem_cons_of_mem _ e)
    rw [withS]
    split
    · rw [aget_cons]
    · rw [aget_cons, ih h2, aget_cons]
      by_cases h3 : p.1 = k'
      · rw [if_pos h3, if_neg (fun e => h1 (e.trans h3.symm)), if_pos h3]
      · rw [if_neg h3, if_neg h3]
theorem without_not {t : List (ByteArray × α)} (k : ByteArray) : k ∉ (without t k).map Prod.fst := by
  intro h
  obtain ⟨p, hp, rfl⟩ := List.mem_map.1 h
  unfold without at hp
  simp at hp
theorem mem_without {t : List (ByteArray × α)} {k : ByteArray} {p : ByteArray × α} : p ∈ without t k ↔ p ∈ t ∧ p.1 ≠ k := by
  unfold without; simp
theorem mem_withS {t : List (ByteArray × α)} {k : ByteArray} {v : α} {p : ByteArray × α} : p ∈ withS k v t ↔ p = (k, v) ∨ p ∈ t := by
  rw [(withS_perm k v t).mem_iff, List.mem_cons]
end

abbrev Fol := List (ByteArray × Nat)
abbrev Tr := List (ByteArray × Fol)
/-- a change of names -/
inductive Chn where
  | mkdir (d : ByteArray)
  | create (d n : ByteArray) (i : Nat)
  | rename (a b : ByteArray)
  | remove (d n : ByteArray)
  | rmdir (d : ByteArray)

/-- a directory's files -/
def folOf (T : Tr) (d : ByteArray) : Fol := (aget T d).getD []
/-- the tree behind a change -/
def Chn.on (T : Tr) : Chn → Tr
  | .mkdir d => withS d [] T
  | .create d n i => withS d (withS n i (folOf T d)) (without T d)
  | .rename a b => withS b (folOf T a) (without (without T a) b)
  | .remove d n => withS d (without (folOf T d) n) (without T d)
  | .rmdir d => without T d
/-- it can be made there; m: how many files there are -/
def Chn.ok (m : Nat) (T : Tr) : Chn → Prop
  | .mkdir d => goodP d = true ∧ aget T d = none
  | .create d n i => i < m ∧ goodP n = true ∧ ∃ F, aget T d = some F ∧ aget F n = none
  | .rename a b => goodP b = true ∧ ∃ F, aget T a = some F
  | .remove d _ => ∃ F, aget T d = some F
  | .rmdir d => ∃ F, aget T d = some F

/-- in order, all files known -/
structure Val (m : Nat) (T : Tr) : Prop where
  srt : Srt T
  sub : ∀ p ∈ T, Srt p.2
  ids : ∀ p ∈ T, ∀ q ∈ p.2, q.2 < m
  nm : ∀ p ∈ T, goodP p.1 = true
  nms : ∀ p ∈ T, ∀ q ∈ p.2, goodP q.1 = true

theorem Val.fol {m : Nat} {T : Tr} (h : Val m T) (d : ByteArray) : Srt (folOf T d) ∧ (∀ q ∈ folOf T d, q.2 < m) ∧ ∀ q ∈ folOf T d, goodP q.1 = true := by
  unfold folOf
  cases hd : aget T d with
  | none => exact ⟨List.Pairwise.nil, fun q hq => by simp at hq, fun q hq => by simp at hq⟩
  | some F => exact ⟨h.sub _ (aget_mem hd), h.ids _ (aget_mem hd), h.nms _ (aget_mem hd)⟩
theorem Val.mono {m m' : Nat} {T : Tr} (h : Val m T) (hm : m ≤ m') : Val m' T := ⟨h.srt, h.sub, fun p hp q hq => Nat.lt_of_lt_of_le (h.ids p hp q hq) hm, h.nm, h.nms⟩
theorem Val.without {m : Nat} {T : Tr} (h : Val m T) (d : ByteArray) : Val m (without T d) :=
  ⟨h.srt.without d, fun p hp => h.sub p (mem_without.1 hp).1, fun p hp => h.ids p (mem_without.1 hp).1, fun p hp => h.nm p (mem_without.1 hp).1, fun p hp => h.nms p (mem_without.1 hp).1⟩
theorem Val.with_ {m : Nat} {T : Tr} (h : Val m T) {d : ByteArray} {F : Fol} (hd : d ∉ T.map Prod.fst) (hg : goodP d = true) (h1 : Srt F) (h2 : ∀ q ∈ F, q.2 < m) (h3 : ∀ q ∈ F, goodP q.1 = true) : Val m (withS d F T) :=
  ⟨h.srt.with_ F hd, fun p hp => by rcases mem_withS.1 hp with rfl | hp; exact h1; exact h.sub p hp, fun p hp => by rcases mem_withS.1 hp with rfl | hp; exact h2; exact h.ids p hp,
    fun p hp => by rcases mem_withS.1 hp with rfl | hp; exact hg; exact h.nm p hp, fun p hp => by rcases mem_withS.1 hp with rfl | hp; exact h3; exact h.nms p hp⟩
theorem Val.on {m : Nat} {T : Tr} (h : Val m T) {c : Chn} (hc : c.ok m T) : Val m (c.on T) := by
  cases c with
  | mkdir d => exact h.with_ (aget_none.1 hc.2) hc.1 List.Pairwise.nil (by simp) (by simp)
  | create d n i =>
    obtain ⟨hi, hg, F, hF, hn⟩ := hc
    have hf : folOf T d = F := by unfold folOf; rw [hF]; rfl
    refine (h.without d).with_ (without_not d) (h.nm _ (aget_mem hF)) ?_ ?_ ?_
    · rw [hf]; exact (h.sub _ (aget_mem hF)).with_ i (aget_none.1 hn)
    · rw [hf]
      intro q hq
      rcases mem_withS.1 hq with rfl | hq
      · exact hi
      · exact h.ids _ (aget_mem hF) q hq
    · rw [hf]
      intro q hq
      rcases mem_withS.1 hq with rfl | hq
      · exact hg
      · exact h.nms _ (aget_mem hF) q hq
  | rename a b =>
    exact ((h.without a).without b).with_ (without_not b) hc.1 (h.fol a).1 (h.fol a).2.1 (h.fol a).2.2
  | remove d n =>
    obtain ⟨F, hF⟩ := hc
    exact (h.without d).with_ (without_not d) (h.nm _ (aget_mem hF)) ((h.fol d).1.without n) (fun q hq => (h.fol d).2.1 q (mem_without.1 hq).1) (fun q hq => (h.fol d).2.2 q (mem_without.1 hq).1)
  | rmdir d => exact h.without d
theorem good_size {x : ByteArray} (h : goodP x = true) : x.size ≤ 30 := by
  unfold goodP at h
  simp only [Bool.and_eq_true, decide_eq_true_eq] at h
  omega

/-- how many names -/
def wd (T : Tr) : Nat := (T.map fun p => p.2.length + 1).sum
theorem wd_withS (d : ByteArray) (F : Fol) (T : Tr) : wd (withS d F T) = F.length + 1 + wd T := by
  unfold wd
  rw [((withS_perm d F T).map _).sum_nat, List.map_cons, List.sum_cons]
theorem wd_without (T : Tr) (d : ByteArray) : wd (without T d) ≤ wd T := by
  unfold wd without
  induction T with
  | nil => simp
  | cons p r ih =>
    rw [List.filter_cons]
    split
    · simp only [List.map_cons, List.sum_cons]; omega
    · simp only [List.map_cons, List.sum_cons]; omega
theorem wd_fol (T : Tr) (d : ByteArray) : (folOf T d).length + (if aget T d = none then 0 else 1) + wd (without T d) ≤ wd T := by
  induction T with
  | nil => simp [folOf, aget, wd, without]
  | cons p r ih =>
    unfold folOf at ih ⊢
    rw [aget_cons, without_cons]
    by_cases h : p.1 = d
    · rw [if_pos h, if_pos h]
      have := wd_without r d
      simp only [Option.getD_some, wd, List.map_cons, List.sum_cons] at this ⊢
      simp
      omega
    · rw [if_neg h, if_neg h]
      simp only [wd, List.map_cons, List.sum_cons] at ih ⊢
      omega
theorem wd_len (T : Tr) : T.length ≤ wd T := by
  unfold wd
  induction T with
  | nil => simp
  | cons p r ih => simp only [List.length_cons, List.map_cons, List.sum_cons]; omega
theorem wd_sub {T : Tr} {p : ByteArray × Fol} (h : p ∈ T) : p.2.length ≤ wd T := by
  unfold wd
  induction T with
  | nil => simp at h
  | cons q r ih =>
    simp only [List.map_cons, List.sum_cons]
    rcases List.mem_cons.1 h with rfl | h
    · omega
    · have := ih h; omega
theorem len_withS {α : Type} (k : ByteArray) (v : α) (t : List (ByteArray × α)) : (withS k v t).length = t.length + 1 := by
  rw [(withS_perm k v t).length_eq, List.length_cons]
theorem len_without {α : Type} (t : List (ByteArray × α)) (k : ByteArray) : (without t k).length ≤ t.length := List.length_filter_le _ _
theorem wd_on {m : Nat} {T : Tr} {c : Chn} (hc : c.ok m T) : wd (c.on T) ≤ wd T + 1 := by
  cases c with
  | mkdir d => simp only [Chn.on, wd_withS, List.length_nil]; omega
  | create d n i =>
    obtain ⟨hi, hg, F, hF, hn⟩ := hc
    have := wd_fol T d
    rw [hF, if_neg (by simp)] at this
    simp only [Chn.on, wd_withS, len_withS]
    omega
  | rename a b =>
    obtain ⟨hg, F, hF⟩ := hc
    have := wd_fol T a
    rw [hF, if_neg (by simp)] at this
    have := wd_without (without T a) b
    simp only [Chn.on, wd_withS]
    omega
  | remove d n =>
    obtain ⟨F, hF⟩ := hc
    have := wd_fol T d
    rw [hF, if_neg (by simp)] at this
    have := len_without (folOf T d) n
    simp only [Chn.on, wd_withS]
    omega
  | rmdir d => simp only [Chn.on]; have := wd_without T d; omega

/-- a file: its safe bytes, its pending writes -/
abbrev Fil := List Int × List (List Int)
def Fil.all (f : Fil) : List Int := f.1 ++ f.2.flatten
/-- the file system's state -/
structure St where
  seen : Tr
  safe : Tr
  chs : List Chn
  files : List Fil
  wr : List Nat
  quota : Int
  stop : Int
  steps : Nat

/-- changes one behind the other -/
def runC (T : Tr) (cs : List Chn) : Tr := cs.foldl (fun t c => Chn.on t c) T
/-- each can be made where it stands -/
def okC (m : Nat) : Tr → List Chn → Prop
  | _, [] => True
  | T, c :: r => c.ok m T ∧ okC m (c.on T) r
theorem runC_snoc (T : Tr) (cs : List Chn) (c : Chn) : runC T (cs ++ [c]) = c.on (runC T cs) := by simp [runC]
theorem okC_snoc {m : Nat} {T : Tr} {cs : List Chn} {c : Chn} : okC m T (cs ++ [c]) ↔ okC m T cs ∧ c.ok m (runC T cs) := by
  induction cs generalizing T with
  | nil => simp [okC, runC]
  | cons x r ih => simp only [List.cons_append, okC, ih, runC, List.foldl_cons, and_assoc]
theorem okC_take {m : Nat} {T : Tr} {cs : List Chn} (h : okC m T cs) (k : Nat) : okC m T (cs.take k) := by
  induction cs generalizing T k with
  | nil => simpa using h
  | cons x r ih =>
    cases k with
    | zero => exact trivial
    | succ k => exact ⟨h.1, ih h.2 k⟩
theorem okC_at {m : Nat} {T : Tr} {cs : List Chn} (h : okC m T cs) {i : Nat} {c : Chn} (hi : cs[i]? = some c) : c.ok m (runC T (cs.take i)) := by
  induction cs generalizing T i with
  | nil => simp at hi
  | cons x r ih =>
    cases i with
    | zero => simp at hi; subst hi; exact h.1
    | succ i => simp at hi; simpa [runC] using ih h.2 hi
theorem Chn.ok_mono {m m' : Nat} {T : Tr} {c : Chn} (h : c.ok m T) (hm : m ≤ m') : c.ok m' T := by
  cases c <;> first | exact h | exact ⟨Nat.lt_of_lt_of_le h.1 hm, h.2⟩
theorem okC_mono {m m' : Nat} {T : Tr} {cs : List Chn} (h : okC m T cs) (hm : m ≤ m') : okC m' T cs := by
  induction cs generalizing T with
  | nil => trivial
  | cons x r ih => exact ⟨Chn.ok_mono h.1 hm, ih h.2⟩
theorem Val.run {m : Nat} {T : Tr} {cs : List Chn} (h : Val m T) (hc : okC m T cs) : Val m (runC T cs) := by
  induction cs generalizing T with
  | nil => exact h
  | cons x r ih => exact ih (h.on hc.1) hc.2
theorem wd_run {m : Nat} {T : Tr} {cs : List Chn} (hc : okC m T cs) : wd (runC T cs) ≤ wd T + cs.length := by
  induction cs generalizing T with
  | nil => simp [runC]
  | cons x r ih =>
    have h1 := wd_on hc.1
    have h2 := ih hc.2
    simp only [runC, List.foldl_cons, List.length_cons] at h2 ⊢
    omega

def filesBulk (fs : List Fil) : Nat := (fs.map fun f => f.all.length + f.2.length).sum
theorem fil_le {fs : List Fil} {f : Fil} (h : f ∈ fs) : f.all.length + f.2.length ≤ filesBulk fs := by
  unfold filesBulk
  induction fs with
  | nil => simp at h
  | cons q r ih =>
    simp only [List.map_cons, List.sum_cons]
    rcases List.mem_cons.1 h with rfl | h
    · omega
    · have := ih h; omega
/-- what holds of each state; B: a bound of everything -/
structure Inv (B : Nat) (S : St) : Prop where
  safe : Val S.files.length S.safe
  chs : okC S.files.length S.safe S.chs
  seen : runC S.safe S.chs = S.seen
  wr : ∀ x ∈ S.wr, x < S.files.length
  wds : wd S.safe + S.chs.length ≤ B
  nf : S.files.length ≤ B
  bulk : filesBulk S.files ≤ B
  nw : S.wr.length ≤ B
  st : S.steps ≤ B
  quota : 0 ≤ S.quota ∧ S.quota ≤ 9223372036854775807
theorem Inv.val {B : Nat} {S : St} (h : Inv B S) : Val S.files.length S.seen := by rw [← h.seen]; exact h.safe.run h.chs
theorem Inv.wd {B : Nat} {S : St} (h : Inv B S) : wd S.seen ≤ B := by rw [← h.seen]; have := wd_run h.chs; have := h.wds; omega
theorem Inv.mono {B B' : Nat} {S : St} (h : Inv B S) (hb : B ≤ B') : Inv B' S := by
  obtain ⟨h1, h2, h3, h4, h5, h6, h7, h8, h9, h10⟩ := h
  exact ⟨h1, h2, h3, h4, by omega, by omega, by omega, by omega, by omega, h10⟩

/-- is the power off? -/
def St.down (S : St) : Bool := downB S.stop S.steps
/-- the first error that holds: the power, the names, the directory -/
def St.ask (S : St) (there : Bool) (ns : List ByteArray) : Int :=
  if S.down = true then 80 else if ns.all goodP = false then 81 else if there = true ∧ (aget S.seen (ns.headD ByteArray.empty)).isNone = true then 82 else 0
/-- the file, the error's number -/
def St.fnd (S : St) (d n : ByteArray) : Option Nat × Int :=
  if S.ask true [d, n] ≠ 0 then (none, S.ask true [d, n]) else match aget (folOf S.seen d) n with
  | none => (none, 82)
  | some i => (some i, 0)
def St.bytes (S : St) (i : Nat) : List Int := Fil.all (S.files.getD i ([], []))
/-- all that is seen -/
def St.view (S : St) : List (ByteArray × List (ByteArray × List Int)) :=
  if S.down = true then [] else S.seen.map fun p => (p.1, p.2.map fun q => (q.1, S.bytes q.2))
/-- how many bytes a disk has -/
def bytesOf (D : List (ByteArray × List (ByteArray × List Int))) : Nat := (D.map fun p => (p.2.map fun q => q.2.length).sum).sum
def St.used (S : St) : Nat := bytesOf S.view
/-- which of a file's pending writes are kept -/
def St.keep (S : St) (ks : List Bool) (x : Nat) : List Bool := ((S.wr.zipIdx.filter fun p => p.1 == x).map fun p => (ks[p.2]?).getD false)
def St.after (S : St) (ks : List Bool) (i : Nat) : List Int := let f := S.files.getD i ([], []); aft f.1 f.1.length f.2 (S.keep ks i)
/-- what a loss of power leaves -/
def St.left (S : St) (ks : List Bool) (names : Int) : List (ByteArray × List (ByteArray × List Int)) :=
  (runC S.safe (S.chs.take names.toNat)).map fun p => (p.1, p.2.map fun q => (q.1, S.after ks q.2))

/-- a change of names is made -/
def St.make (S : St) (c : Chn) : St := { S with seen := c.on S.seen, chs := S.chs ++ [c], steps := S.steps + 1 }
def St.mkdir (S : St) (d : ByteArray) : St × Int :=
  if S.ask false [d] ≠ 0 then (S, S.ask false [d]) else if (aget S.seen d).isSome = true then (S, 83) else (S.make (.mkdir d), 0)
def St.create (S : St) (d n : ByteArray) : St × Int :=
  if S.ask true [d, n] ≠ 0 then (S, S.ask true [d, n]) else if (aget (folOf S.seen d) n).isSome = true then (S, 83) else
    (({ S with files := S.files ++ [([], [])] } : St).make (.create d n S.files.length), 0)
def St.write (S : St) (d n : ByteArray) (data : List Int) : St × Int :=
  match S.fnd d n with
  | (none, e) => (S, e)
  | (some x, _) => if data = [] then ({ S with steps := S.steps + 1 }, 0) else if S.quota < (S.used : Int) + data.length then (S, 85) else
    ({ S with files := S.files.modify x (fun f => (f.1, f.2 ++ [data])), wr := S.wr ++ [x], steps := S.steps + 1 }, 0)
def St.sync (S : St) (d n : ByteArray) : St × Int :=
  match S.fnd d n with
  | (none, e) => (S, e)
  | (some x, _) => ({ S with files := S.files.modify x (fun f => (Fil.all f, [])), wr := S.wr.filter (fun y => y != x), steps := S.steps + 1 }, 0)
def St.names (S : St) : St × Int :=
  if S.down = true then (S, 80) else ({ S with safe := S.seen, chs := [], steps := S.steps + 1 }, 0)
def St.rename (S : St) (a b : ByteArray) : St × Int :=
  if S.ask true [a, b] ≠ 0 then (S, S.ask true [a, b]) else (S.make (.rename a b), 0)
def St.remove (S : St) (d n : ByteArray) : St × Int :=
  match S.fnd d n with
  | (none, e) => (S, e)
  | (some _, _) => (S.make (.remove d n), 0)
def St.rmdir (S : St) (d : ByteArray) : St × Int :=
  if S.ask true [d] ≠ 0 then (S, S.ask true [d]) else if (folOf S.seen d).length > 0 then (S, 85 - 1) else (S.make (.rmdir d), 0)
def St.read (S : St) (d n : ByteArray) : List Int × Int :=
  match S.fnd d n with
  | (none, e) => ([], e)
  | (some x, _) => (S.bytes x, 0)
def St.list (S : St) (d : ByteArray) : List ByteArray × Int :=
  if S.ask true [d] ≠ 0 then ([], S.ask true [d]) else ((folOf S.seen d).map Prod.fst, 0)
def St.dirs (S : St) : List ByteArray × Int := if S.down = true then ([], 80) else (S.seen.map Prod.fst, 0)
end Go.Proofs.Ytgomofeidghmiaa
