/- No job is out twice: what holds between the calls. No walk here. -/
import Derived.Test.YtjampaggidelgaaActs
namespace Go.Proofs.Ytjampaggidelgaa
open Go.RowKit
set_option linter.unusedSimpArgs false
set_option linter.unusedVariables false

/-- The two maps say what the jobs say. -/
structure OnceR (n : Nat) (js : List Job) (out done : Nat → Bool) : Prop where
  len : js.length = n
  o : ∀ i (h : i < js.length), out i = (js[i].lease != 0)
  d : ∀ i (h : i < js.length), done i = js[i].done
  ex : ∀ i (h : i < js.length), js[i].done = true → js[i].lease = 0
theorem OnceR.new (n : Nat) : OnceR n (List.replicate n Job.zero) (fun _ => false) (fun _ => false) := by
  refine ⟨by simp, fun i h => ?_, fun i h => ?_, fun i h _ => ?_⟩ <;> simp [Job.zero]
section
variable {n : Nat} {js : List Job} {out done : Nat → Bool} {t : Times} {now : Nat}
theorem OnceR.free (h : OnceR n js out done) {i : Nat} (hf : firstFree js now = some i) : ∃ hi : i < js.length, out i = false ∧ done i = false := by
  obtain ⟨hi, hfr⟩ := first_lt hf
  simp [Job.free] at hfr
  exact ⟨hi, by rw [h.o i hi]; simp [hfr.1.2], by rw [h.d i hi]; exact hfr.1.1⟩
theorem OnceR.lease (h : OnceR n js out done) {i l dl tr : Nat} (hi : i < js.length) (hd : done i = false) (hl : l ≠ 0) :
    OnceR n (js.set i { js[i] with lease := l, deadline := dl, tries := tr }) (fun j => if j = i then true else out j) done := by
  refine ⟨by simp [h.len], fun j hj => ?_, fun j hj => ?_, fun j hj hdone => ?_⟩
  · rw [List.getElem_set]
    by_cases e : i = j
    · subst e; simp [hl]
    · rw [if_neg e, if_neg (Ne.symm e)]; exact h.o j (by simpa using hj)
  · rw [List.getElem_set]
    by_cases e : i = j
    · subst e; simp; exact h.d i hi
    · rw [if_neg e]; exact h.d j (by simpa using hj)
  · rw [List.getElem_set] at hdone ⊢
    by_cases e : i = j
    · subst e
      simp at hdone
      rw [← h.d i hi, hd] at hdone
      cases hdone
    · rw [if_neg e] at hdone ⊢; exact h.ex j (by simpa using hj) hdone
theorem mem_due {i k : Nat} : i ∈ dueTo js now k ↔ i < k ∧ ∃ h : i < js.length, js[i].due now = true := by
  unfold dueTo
  rw [List.mem_filter, List.mem_range]
  constructor
  · rintro ⟨h1, h2⟩
    rcases Nat.lt_or_ge i js.length with h3 | h3
    · rw [List.getElem?_eq_getElem h3] at h2
      exact ⟨h1, h3, h2⟩
    · rw [List.getElem?_eq_none h3] at h2
      cases h2
  · rintro ⟨h1, h3, h2⟩
    rw [List.getElem?_eq_getElem h3]
    exact ⟨h1, h2⟩
theorem due_nodup (k : Nat) : (dueTo js now k).Nodup := List.Pairwise.filter _ List.nodup_range
/-- Each one that was due was out, until it is struck. -/
theorem OnceR.due (h : OnceR n js out done) {m : Nat} (hm : m < (dueTo js now js.length).length) :
    (dueTo js now js.length)[m] < n ∧ (if (dueTo js now js.length)[m] ∈ (dueTo js now js.length).take m then false else out (dueTo js now js.length)[m]) = true := by
  have hmem := List.getElem_mem hm
  obtain ⟨_, hi, hd⟩ := mem_due.1 hmem
  refine ⟨by rw [← h.len]; exact hi, ?_⟩
  rw [if_neg]
  · rw [h.o _ hi]
    simp only [Job.due, Bool.and_eq_true] at hd
    exact hd.1
  · intro hin
    obtain ⟨j, hj, e⟩ := List.getElem_of_mem hin
    rw [List.getElem_take] at e
    rw [List.length_take] at hj
    exact List.pairwise_iff_getElem.1 (due_nodup (js := js) (now := now) js.length) j m (by omega) hm (by omega) e
theorem OnceR.aged (h : OnceR n js out done) : OnceR n (agedTo js t now js.length) (fun i => if i ∈ dueTo js now js.length then false else out i) done := by
  have e : agedTo js t now js.length = js.map (·.aged t now) := by simp [agedTo]
  rw [e]
  refine ⟨by simp [h.len], fun i hi => ?_, fun i hi => ?_, fun i hi hd => ?_⟩
  · have hi' : i < js.length := by simpa using hi
    rw [List.getElem_map]
    by_cases hd : js[i].due now = true
    · rw [if_pos (mem_due.2 ⟨hi', hi', hd⟩)]
      simp [Job.aged, hd, Job.over]
    · rw [if_neg (fun hm => hd (mem_due.1 hm).2.2)]
      simp only [Job.aged, hd]
      exact h.o i hi'
  · have hi' : i < js.length := by simpa using hi
    rw [List.getElem_map, h.d i hi']
    unfold Job.aged
    split <;> rfl
  · have hi' : i < js.length := by simpa using hi
    rw [List.getElem_map] at hd ⊢
    have e2 : (js[i].aged t now).done = js[i].done := by unfold Job.aged; split <;> rfl
    rw [e2] at hd
    unfold Job.aged
    split
    · rfl
    · exact h.ex i hi' hd
theorem OnceR.ended (h : OnceR n js out done) {i : Nat} (hi : i < js.length) : OnceR n (js.set i js[i].ended) (fun j => if j = i then false else out j) (fun j => if j = i then true else done j) := by
  refine ⟨by simp [h.len], fun j hj => ?_, fun j hj => ?_, fun j hj hdone => ?_⟩
  · rw [List.getElem_set]
    by_cases e : i = j
    · subst e; simp [Job.ended]
    · rw [if_neg e, if_neg (Ne.symm e)]; exact h.o j (by simpa using hj)
  · rw [List.getElem_set]
    by_cases e : i = j
    · subst e; simp [Job.ended]
    · rw [if_neg e, if_neg (Ne.symm e)]; exact h.d j (by simpa using hj)
  · rw [List.getElem_set] at hdone ⊢
    by_cases e : i = j
    · subst e; simp [Job.ended]
    · rw [if_neg e] at hdone ⊢; exact h.ex j (by simpa using hj) hdone
/-- A job that was done already: the maps stay. -/
theorem OnceR.again (h : OnceR n js out done) {i : Nat} (hi : i < js.length) (hd : js[i].done = true) : OnceR n js (fun j => if j = i then false else out j) (fun j => if j = i then true else done j) := by
  refine ⟨h.len, fun j hj => ?_, fun j hj => ?_, h.ex⟩
  · by_cases e : j = i
    · subst e; simp [h.ex j hj hd]
    · rw [if_neg e]; exact h.o j hj
  · by_cases e : j = i
    · subst e; simp [hd]
    · rw [if_neg e]; exact h.d j hj
end
end Go.Proofs.Ytjampaggidelgaa
