/- Sums over the entries of a queue: weights, how many, share, apart. No program in sight. The levels of a task: its entry in a queue and the queue, up to that of the root; what it gets, how far that may be off. No program in sight. The fraction that the program keeps, reduced at each level. No program in sight. -/
import Derived.Test.YtccjanpdgdonmaaGreatPf
namespace Go.Proofs.YtccjanpdgdonmaaGreat
/-- the sum of f over those below n that p holds of -/
def sumq (p : Nat → Bool) (f : Nat → Int) : Nat → Int
  | 0 => 0
  | k + 1 => sumq p f k + if p k then f k else 0
theorem sumq_bd {p : Nat → Bool} {f : Nat → Int} {B : Int} (hB : 0 ≤ B) : ∀ n : Nat, (∀ k, k < n → p k = true → 0 ≤ f k ∧ f k ≤ B) → 0 ≤ sumq p f n ∧ sumq p f n ≤ B * n
  | 0, _ => by simp [sumq]
  | n + 1, h => by
    have ih := sumq_bd hB n (fun k hk => h k (by omega))
    have e : B * ((n + 1 : Nat) : Int) = B * n + B := by rw [Int.natCast_add, Int.mul_add]; simp
    simp only [sumq]
    split
    · have := h n (by omega) (by assumption)
      omega
    · omega
theorem sumq_t {p : Nat → Bool} {f : Nat → Int} {k : Nat} (h : p k = true) : sumq p f (k + 1) = sumq p f k + f k := by simp [sumq, h]
theorem sumq_f {p : Nat → Bool} {f : Nat → Int} {k : Nat} (h : p k = false) : sumq p f (k + 1) = sumq p f k := by simp [sumq, h]
theorem wof_bd (n : Int) : 0 ≤ wof n ∧ wof n ≤ 20 := by
  unfold wof
  split
  · rename_i h
    rw [inR_iff] at h
    omega
  · omega
/-- the shelves' weights are weights -/
def WtOk (M : WorldM) : Prop := ∀ h c : Nat, h < 8 → (grp M h).used = true → c < M.cpus.length → 1 ≤ (she M h c).w ∧ (she M h c).w ≤ 20
/-- the weights of the tasks that stand in a queue, of the first n -/
def weiT (M : WorldM) (g : Int) (c : Nat) : Nat → Int := sumq (fun t => tq M t g c) (fun t => wof (tsk M t).nice)
def weiG (M : WorldM) (g : Int) (c : Nat) : Nat → Int := sumq (fun h => gq M h g c) (fun h => (she M h c).w)
def weiM (M : WorldM) (g : Int) (c : Nat) : Int := weiT M g c M.tasks.length + weiG M g c M.groups.length
def cntT (M : WorldM) (g : Int) (c : Nat) : Nat → Int := sumq (fun t => tq M t g c) (fun _ => 1)
def cntG (M : WorldM) (g : Int) (c : Nat) : Nat → Int := sumq (fun h => gq M h g c) (fun _ => 1)
def cntM (M : WorldM) (g : Int) (c : Nat) : Int := cntT M g c M.tasks.length + cntG M g c M.groups.length
theorem weiT_bd (M : WorldM) (g : Int) (c n : Nat) : 0 ≤ weiT M g c n ∧ weiT M g c n ≤ 20 * n := sumq_bd (by omega) n (fun _ _ _ => wof_bd _)
theorem cntT_bd (M : WorldM) (g : Int) (c n : Nat) : 0 ≤ cntT M g c n ∧ cntT M g c n ≤ 1 * n := sumq_bd (by omega) n (fun _ _ _ => by omega)
theorem cntG_bd (M : WorldM) (g : Int) (c n : Nat) : 0 ≤ cntG M g c n ∧ cntG M g c n ≤ 1 * n := sumq_bd (by omega) n (fun _ _ _ => by omega)
theorem weiG_bd {M : WorldM} (hW : WtOk M) (g : Int) {c : Nat} (hc : c < M.cpus.length) {n : Nat} (hn : n ≤ 8) : 0 ≤ weiG M g c n ∧ weiG M g c n ≤ 20 * n :=
  sumq_bd (by omega) n (fun k hk hp => by
    simp only [gq, Bool.and_eq_true] at hp
    have := hW k c (by omega) hp.2.1.1 hc
    omega)
theorem weiT_t {M : WorldM} {k : Nat} {g : Int} {c : Nat} (h : tq M k g c = true) : weiT M g c (k + 1) = weiT M g c k + wof (tsk M k).nice := sumq_t (p := fun t => tq M t g c) h
theorem weiT_f {M : WorldM} {k : Nat} {g : Int} {c : Nat} (h : tq M k g c = false) : weiT M g c (k + 1) = weiT M g c k := sumq_f (p := fun t => tq M t g c) h
theorem weiG_t {M : WorldM} {k : Nat} {g : Int} {c : Nat} (h : gq M k g c = true) : weiG M g c (k + 1) = weiG M g c k + (she M k c).w := sumq_t (p := fun t => gq M t g c) h
theorem weiG_f {M : WorldM} {k : Nat} {g : Int} {c : Nat} (h : gq M k g c = false) : weiG M g c (k + 1) = weiG M g c k := sumq_f (p := fun t => gq M t g c) h
theorem cntT_t {M : WorldM} {k : Nat} {g : Int} {c : Nat} (h : tq M k g c = true) : cntT M g c (k + 1) = cntT M g c k + 1 := sumq_t (p := fun t => tq M t g c) (f := fun _ => 1) h
theorem cntT_f {M : WorldM} {k : Nat} {g : Int} {c : Nat} (h : tq M k g c = false) : cntT M g c (k + 1) = cntT M g c k := sumq_f (p := fun t => tq M t g c) h
theorem cntG_t {M : WorldM} {k : Nat} {g : Int} {c : Nat} (h : gq M k g c = true) : cntG M g c (k + 1) = cntG M g c k + 1 := sumq_t (p := fun t => gq M t g c) (f := fun _ => 1) h
theorem cntG_f {M : WorldM} {k : Nat} {g : Int} {c : Nat} (h : gq M k g c = false) : cntG M g c (k + 1) = cntG M g c k := sumq_f (p := fun t => gq M t g c) h
/-- the greatest divisor, as both sides reckon it -/
def gcdM (a b : Int) : Int := (Nat.gcd a.toNat b.toNat : Nat)
theorem gcdM_step {a b : Int} (ha : 0 ≤ a) (hb : 0 < b) : gcdM a b = gcdM b (a % b) := by
  obtain ⟨x, rfl⟩ := Int.eq_ofNat_of_zero_le ha
  obtain ⟨y, rfl⟩ := Int.eq_ofNat_of_zero_le (show 0 ≤ b by omega)
  unfold gcdM
  have e : ((x : Int) % (y : Int)).toNat = x % y := by rw [← Int.natCast_emod]; rfl
  rw [e]
  simp only [Int.toNat_natCast]
  rw [Nat.gcd_comm x y, Nat.gcd_rec y x, Nat.gcd_comm y (x % y)]
theorem gcdM_zero {a : Int} (ha : 0 ≤ a) : gcdM a 0 = a := by
  unfold gcdM; simp; omega
/-- how far one may come from their share of a queue -/
def besM (w a n : Int) : Int := (149 * ((n - 2) * w + a) + a - 1) / a
theorem mul_small {w n : Int} (h1 : 0 ≤ w) (h2 : w ≤ 20) (h5 : 1 ≤ n) (h6 : n ≤ 20) : -20 ≤ (n - 2) * w ∧ (n - 2) * w ≤ 400 := by
  have a1 := Int.mul_nonneg (show (0 : Int) ≤ n - 1 by omega) h1
  have a2 := Int.mul_le_mul h6 h2 h1 (by omega)
  rw [Int.sub_mul] at a1 ⊢
  omega
theorem bes_bd {w a n : Int} (h1 : 0 ≤ w) (h2 : w ≤ 20) (h3 : w ≤ a) (h4 : a ≤ 400) (h5 : 1 ≤ n) (h6 : n ≤ 20) : 0 ≤ (n - 2) * w + a ∧ (n - 2) * w + a ≤ 800 := by
  have a1 := Int.mul_nonneg (show (0 : Int) ≤ n - 1 by omega) h1
  have := mul_small h1 h2 h5 h6
  rw [Int.sub_mul] at a1 this ⊢
  omega
theorem besM_bd {w a n : Int} (h1 : 0 ≤ w) (h2 : w ≤ 20) (h3 : w ≤ a) (h7 : 1 ≤ a) (h4 : a ≤ 400) (h5 : 1 ≤ n) (h6 : n ≤ 20) : 0 ≤ besM w a n ∧ besM w a n ≤ 200000 := by
  have b := bes_bd h1 h2 h3 h4 h5 h6
  have p : 0 ≤ 149 * ((n - 2) * w + a) + a - 1 := by omega
  refine ⟨Int.ediv_nonneg p (by omega), Int.le_trans (Int.ediv_le_self _ p) (by omega)⟩
end Go.Proofs.YtccjanpdgdonmaaGreat
namespace Go.Proofs.YtccjanpdgdonmaaGreat
/-- an entry of a queue: a task or a group, by its slot -/
structure Mem where
  grp : Bool
  slot : Nat
deriving DecidableEq
def memW (M : WorldM) (c : Nat) : Mem → Int
  | ⟨false, t⟩ => wof (tsk M t).nice
  | ⟨true, g⟩ => (she M g c).w
def memT (M : WorldM) (c : Nat) : Mem → Int
  | ⟨false, t⟩ => (tsk M t).v
  | ⟨true, g⟩ => (she M g c).v
def tasksM (M : WorldM) (g : Int) (c : Nat) (n : Nat) : List Mem := ((List.range n).filter (fun t => tq M t g c)).map (fun t => ⟨false, t⟩)
def groupsM (M : WorldM) (g : Int) (c : Nat) (n : Nat) : List Mem := ((List.range n).filter (fun h => gq M h g c)).map (fun h => ⟨true, h⟩)
/-- the entries of a queue, tasks ahead of groups -/
def memsM (M : WorldM) (g : Int) (c : Nat) : List Mem := tasksM M g c M.tasks.length ++ groupsM M g c M.groups.length
theorem tasksM_t {M : WorldM} {g : Int} {c k : Nat} (h : tq M k g c = true) : tasksM M g c (k + 1) = tasksM M g c k ++ [⟨false, k⟩] := by simp [tasksM, List.range_succ, List.filter_append, h]
theorem tasksM_f {M : WorldM} {g : Int} {c k : Nat} (h : tq M k g c = false) : tasksM M g c (k + 1) = tasksM M g c k := by simp [tasksM, List.range_succ, List.filter_append, h]
theorem groupsM_t {M : WorldM} {g : Int} {c k : Nat} (h : gq M k g c = true) : groupsM M g c (k + 1) = groupsM M g c k ++ [⟨true, k⟩] := by simp [groupsM, List.range_succ, List.filter_append, h]
theorem groupsM_f {M : WorldM} {g : Int} {c k : Nat} (h : gq M k g c = false) : groupsM M g c (k + 1) = groupsM M g c k := by simp [groupsM, List.range_succ, List.filter_append, h]
theorem tasksM_len (M : WorldM) (g : Int) (c n : Nat) : (tasksM M g c n).length ≤ n := by
  have := List.length_filter_le (fun t => tq M t g c) (List.range n)
  simp only [tasksM, List.length_map]; simpa using this
theorem groupsM_len (M : WorldM) (g : Int) (c n : Nat) : (groupsM M g c n).length ≤ n := by
  have := List.length_filter_le (fun t => gq M t g c) (List.range n)
  simp only [groupsM, List.length_map]; simpa using this
theorem task_mem {M : WorldM} {g : Int} {c t : Nat} : (⟨false, t⟩ : Mem) ∈ memsM M g c ↔ t < M.tasks.length ∧ tq M t g c = true := by
  simp [memsM, tasksM, groupsM]
theorem group_mem {M : WorldM} {g : Int} {c h : Nat} : (⟨true, h⟩ : Mem) ∈ memsM M g c ↔ h < M.groups.length ∧ gq M h g c = true := by
  simp [memsM, tasksM, groupsM]
theorem memsM_nodup (M : WorldM) (g : Int) (c : Nat) : (memsM M g c).Nodup := by
  rw [memsM, List.nodup_append]
  refine ⟨?_, ?_, ?_⟩
  · exact List.Pairwise.map _ (fun a b (hab : a ≠ b) h => hab (by injection h)) (List.nodup_range.filter _)
  · exact List.Pairwise.map _ (fun a b (hab : a ≠ b) h => hab (by injection h)) (List.nodup_range.filter _)
  · intro a ha b hb hab
    simp only [tasksM, groupsM, List.mem_map] at ha hb
    obtain ⟨x, _, rfl⟩ := ha
    obtain ⟨y, _, rfl⟩ := hb
    injection hab with h1
    cases h1
/-! ### sums and products -/
def sumI {α : Type} (f : α → Int) : List α → Int
  | [] => 0
  | x :: r => f x + sumI f r
def prodI {α : Type} (f : α → Int) : List α → Int
  | [] => 1
  | x :: r => f x * prodI f r
theorem sumI_append {α : Type} (f : α → Int) : ∀ a b : List α, sumI f (a ++ b) = sumI f a + sumI f b
  | [], b => by simp [sumI]
  | x :: a, b => by simp [sumI, sumI_append f a b, Int.add_assoc]
theorem prodI_append {α : Type} (f : α → Int) : ∀ a b : List α, prodI f (a ++ b) = prodI f a * prodI f b
  | [], b => by simp [prodI]
  | x :: a, b => by simp [prodI, prodI_append f a b, Int.mul_assoc]
theorem sumI_snoc {α : Type} (f : α → Int) (a : List α) (x : α) : sumI f (a ++ [x]) = sumI f a + f x := by simp [sumI_append, sumI]
theorem prodI_snoc {α : Type} (f : α → Int) (a : List α) (x : α) : prodI f (a ++ [x]) = prodI f a * f x := by simp [prodI_append, prodI]
theorem sumI_bd {α : Type} {f : α → Int} {A B : Int} : ∀ {l : List α}, (∀ x ∈ l, A ≤ f x ∧ f x ≤ B) → A * l.length ≤ sumI f l ∧ sumI f l ≤ B * l.length
  | [], _ => by simp [sumI]
  | x :: l, h => by
    have h1 := h x (by simp)
    have h2 := sumI_bd (l := l) (fun y hy => h y (by simp [hy]))
    simp only [sumI, List.length_cons, Int.natCast_add, Int.mul_add]
    omega
theorem prodI_bd {α : Type} {f : α → Int} {B : Int} (hB : 1 ≤ B) : ∀ {l : List α}, (∀ x ∈ l, 1 ≤ f x ∧ f x ≤ B) → 1 ≤ prodI f l ∧ prodI f l ≤ B ^ l.length
  | [], _ => by simp [prodI]
  | x :: l, h => by
    have h1 := h x (by simp)
    have h2 := prodI_bd hB (l := l) (fun y hy => h y (by simp [hy]))
    simp only [prodI, List.length_cons]
    refine ⟨?_, ?_⟩
    · have := Int.mul_le_mul h1.1 h2.1 (by omega) (by omega)
      omega
    · rw [Int.pow_succ, Int.mul_comm]
      exact Int.mul_le_mul h2.2 h1.2 (by omega) (by omega)
theorem sumI_without {f : Mem → Int} {x : Mem} : ∀ {l : List Mem}, l.Nodup → x ∈ l → f x + sumI f (l.filter (fun m => m ≠ x)) = sumI f l
  | [], _, h => by cases h
  | y :: l, hn, h => by
    rw [List.nodup_cons] at hn
    by_cases e : y = x
    · subst e
      have : l.filter (fun m => m ≠ y) = l := List.filter_eq_self.2 (fun m hm => by simpa using fun e : m = y => hn.1 (e ▸ hm))
      simp only [List.filter_cons, ne_eq, decide_not, sumI] at this ⊢
      simp [this]
    · have hx : x ∈ l := by simpa [Ne.symm e] using h
      have ih := sumI_without (f := f) hn.2 hx
      rw [List.filter_cons, if_pos (by simpa using e)]
      simp only [sumI]
      omega
theorem length_without {x : Mem} : ∀ {l : List Mem}, l.Nodup → x ∈ l → (l.filter (fun m => m ≠ x)).length + 1 = l.length
  | [], _, h => by cases h
  | y :: l, hn, h => by
    rw [List.nodup_cons] at hn
    by_cases e : y = x
    · subst e
      have : l.filter (fun m => m ≠ y) = l := List.filter_eq_self.2 (fun m hm => by simpa using fun e : m = y => hn.1 (e ▸ hm))
      simp only [List.filter_cons, ne_eq, decide_not] at this ⊢
      simp [this]
    · have hx : x ∈ l := by simpa [Ne.symm e] using h
      have ih := length_without hn.2 hx
      rw [List.filter_cons, if_pos (by simpa using e)]
      simp only [List.length_cons]
      omega
theorem weiT_sum (M : WorldM) (g : Int) (c : Nat) : ∀ n, weiT M g c n = sumI (memW M c) (tasksM M g c n)
  | 0 => rfl
  | n + 1 => by
    cases h : tq M n g c with
    | true => rw [weiT_t h, tasksM_t h, sumI_snoc, weiT_sum M g c n]; rfl
    | false => rw [weiT_f h, tasksM_f h, weiT_sum M g c n]
theorem weiG_sum (M : WorldM) (g : Int) (c : Nat) : ∀ n, weiG M g c n = sumI (memW M c) (groupsM M g c n)
  | 0 => rfl
  | n + 1 => by
    cases h : gq M n g c with
    | true => rw [weiG_t h, groupsM_t h, sumI_snoc, weiG_sum M g c n]; rfl
    | false => rw [weiG_f h, groupsM_f h, weiG_sum M g c n]
theorem cntT_len (M : WorldM) (g : Int) (c : Nat) : ∀ n, cntT M g c n = (tasksM M g c n).length
  | 0 => rfl
  | n + 1 => by
    cases h : tq M n g c with
    | true => rw [cntT_t h, tasksM_t h, cntT_len M g c n, List.length_append]; simp
    | false => rw [cntT_f h, tasksM_f h, cntT_len M g c n]
theorem cntG_len (M : WorldM) (g : Int) (c : Nat) : ∀ n, cntG M g c n = (groupsM M g c n).length
  | 0 => rfl
  | n + 1 => by
    cases h : gq M n g c with
    | true => rw [cntG_t h, groupsM_t h, cntG_len M g c n, List.length_append]; simp
    | false => rw [cntG_f h, groupsM_f h, cntG_len M g c n]
theorem weiM_sum (M : WorldM) (g : Int) (c : Nat) : weiM M g c = sumI (memW M c) (memsM M g c) := by rw [weiM, memsM, sumI_append, weiT_sum, weiG_sum]
theorem cntM_len (M : WorldM) (g : Int) (c : Nat) : cntM M g c = (memsM M g c).length := by rw [cntM, memsM, List.length_append, cntT_len, cntG_len]; simp
/-! ### levels -/
def levL : Mem → List Nat → List (Mem × Nat)
  | _, [] => []
  | m, g :: r => (m, g) :: levL ⟨true, g⟩ r
theorem levL_len : ∀ (l : List Nat) (m : Mem), (levL m l).length = l.length
  | [], _ => rfl
  | g :: r, m => by simp [levL, levL_len r]
/-- the levels of a task: its entry, and the queue -/
def levsM (M : WorldM) (t : Nat) : List (Mem × Nat) := levL ⟨false, t⟩ (ch M (tsk M t).gr.toNat)
/-- the others of a level -/
def othM (M : WorldM) (c : Nat) (lv : Mem × Nat) : List Mem := (memsM M lv.2 c).filter (fun m => m ≠ lv.1)
theorem chF_len (M : WorldM) : ∀ d g, (chF M d g).length = d + 1
  | 0, _ => rfl
  | d + 1, g => by simp [chF, chF_len M d]
theorem ch_len (M : WorldM) (g : Nat) : (ch M g).length = dp M g + 1 := chF_len M _ _
theorem levs_in {M : WorldM} (F : Facts M) {c : Nat} : ∀ (n g : Nat) (m : Mem), dp M g = n → g < 8 → (grp M g).used = true → onL M c (ch M g) = true → m ∈ memsM M g c →
    ∀ lv ∈ levL m (ch M g), lv.2 < 8 ∧ (grp M lv.2).used = true ∧ lv.1 ∈ memsM M lv.2 c
  | n, g, m, hn, hg, hu, hon, hm => by
    by_cases h0 : g = 0
    · subst h0
      intro lv hlv
      rw [ch_zero] at hlv
      simp only [levL, List.mem_singleton] at hlv
      subst hlv
      exact ⟨hg, hu, hm⟩
    · obtain ⟨p1, p2, p3, p4⟩ := F.tree.up g hg hu h0
      rw [F.tree.ch_step hg hu h0] at hon ⊢
      intro lv hlv
      simp only [levL, List.mem_cons] at hlv
      rcases hlv with rfl | hlv
      · exact ⟨hg, hu, hm⟩
      · simp only [onL, List.all_cons, Bool.and_eq_true] at hon
        have ho : (she M g c).on = true := by simpa [h0] using hon.1
        have hgl := F.tree.len
        exact levs_in F (n - 1) (par M g) ⟨true, g⟩ (by omega) p2 p3 (by simpa [onL] using hon.2) (group_mem.2 ⟨by omega, by simp [gq, h0, hu, p1, ho]⟩) lv hlv
  termination_by n => n
  decreasing_by omega
/-- what is known of a level -/
structure LevOk (M : WorldM) (c : Nat) (lv : Mem × Nat) : Prop where
  lt : lv.2 < 8
  us : (grp M lv.2).used = true
  mem : lv.1 ∈ memsM M lv.2 c
theorem wt_of {M : WorldM} (h : worldB M = true) : WtOk M := by
  have F := facts_of h
  simp only [worldB, worldL, shelvesB, Bool.and_eq_true] at h
  intro g c hg hu hc
  have h1 := List.all_eq_true.1 h.2.2.1 g (List.mem_range.2 hg)
  have h2 := List.all_eq_true.1 h1 c (List.mem_range.2 (by rw [F.gok.she g hg hu]; exact hc))
  simp only [shelfB, shelfB1, Bool.and_eq_true, inR_iff] at h2
  exact h2.1.2
theorem nice_of {M : WorldM} (h : worldB M = true) {t : Nat} (ht : t < M.tasks.length) (h0 : (tsk M t).st ≠ 0) : 1 ≤ wof (tsk M t).nice := by
  have h3 := h
  simp only [worldB, worldL, Bool.and_eq_true] at h3
  have := List.all_eq_true.1 h3.2.1.2 t (List.mem_range.2 ht)
  rw [taskB, if_neg h0] at this
  simp only [taskB1, Bool.and_eq_true, Bool.not_eq_true', beq_eq_false_iff_ne] at this
  have hw := wof_bd (tsk M t).nice
  have h5 := this.1.1.1.1.2
  omega
theorem memW_bd {M : WorldM} (h : worldB M = true) {g : Int} {c : Nat} (hc : c < M.cpus.length) : ∀ m ∈ memsM M g c, 1 ≤ memW M c m ∧ memW M c m ≤ 20
  | ⟨false, t⟩, hm => by
    obtain ⟨h1, h2⟩ := task_mem.1 hm
    have hst : (tsk M t).st ≠ 0 := by simp only [tq, Bool.and_eq_true, beq_iff_eq] at h2; omega
    exact ⟨nice_of h h1 hst, (wof_bd _).2⟩
  | ⟨true, k⟩, hm => by
    obtain ⟨h1, h2⟩ := group_mem.1 hm
    have F := facts_of h
    have := F.tree.len
    simp only [gq, Bool.and_eq_true] at h2
    exact wt_of h k c (by omega) h2.2.1.1 hc
theorem memsM_len {M : WorldM} (F : Facts M) (g : Int) (c : Nat) : (memsM M g c).length ≤ 20 := by
  have h1 := tasksM_len M g c M.tasks.length
  have h2 := groupsM_len M g c M.groups.length
  have := F.t12
  have := F.tree.len
  rw [memsM, List.length_append]
  omega
theorem weiM_bd {M : WorldM} (h : worldB M = true) {g : Int} {c : Nat} (hc : c < M.cpus.length) {m : Mem} (hm : m ∈ memsM M g c) : 1 ≤ weiM M g c ∧ weiM M g c ≤ 400 := by
  have hb := memW_bd h (g := g) hc
  have h1 := sumI_bd (A := 1) (B := 20) hb
  have h2 := memsM_len (facts_of h) g c
  have h3 : 1 ≤ (memsM M g c).length := by cases hl : memsM M g c with
    | nil => rw [hl] at hm; cases hm
    | cons a b => simp
  rw [weiM_sum]
  omega
theorem cntM_bd {M : WorldM} (h : worldB M = true) (g : Int) (c : Nat) : 0 ≤ cntM M g c ∧ cntM M g c ≤ 20 := by
  have h2 := memsM_len (facts_of h) g c
  rw [cntM_len]
  omega
/-! ### a task in line -/
def wF (M : WorldM) (c : Nat) (lv : Mem × Nat) : Int := memW M c lv.1
def aF (M : WorldM) (c : Nat) (lv : Mem × Nat) : Int := weiM M lv.2 c
def bF (M : WorldM) (c : Nat) (lv : Mem × Nat) : Int := besM (wF M c lv) (aF M c lv) (cntM M lv.2 c)
structure Lv (M : WorldM) (t c : Nat) : Prop where
  wb : worldB M = true
  hc : c < M.cpus.length
  ok : ∀ lv ∈ levsM M t, LevOk M c lv
  len : (levsM M t).length ≤ 4
theorem lv_of {M : WorldM} (h : worldB M = true) {t g c : Nat} (ht : t < M.tasks.length) (hl : lineM M t = true) (hgr : (tsk M t).gr = g) (hg : g < 8) (hu : (grp M g).used = true) (hcu : (tsk M t).cpu = c) (hc : c < M.cpus.length) : Lv M t c := by
  have F := facts_of h
  have hd := F.tree.dp3 g hg hu
  simp only [lineM, Bool.and_eq_true, beq_iff_eq, hgr, hcu, Int.toNat_natCast] at hl
  have e : levsM M t = levL ⟨false, t⟩ (ch M g) := by rw [levsM, hgr, Int.toNat_natCast]
  refine ⟨h, hc, ?_, by rw [e, levL_len, ch_len]; omega⟩
  rw [e]
  intro lv hlv
  obtain ⟨a1, a2, a3⟩ := levs_in F (dp M g) g ⟨false, t⟩ rfl hg hu hl.2 (task_mem.2 ⟨ht, by simp [tq, hl.1, hgr, hcu]⟩) lv hlv
  exact ⟨a1, a2, a3⟩
section
variable {M : WorldM} {t c : Nat}
theorem Lv.w (L : Lv M t c) {lv : Mem × Nat} (h : lv ∈ levsM M t) : 1 ≤ wF M c lv ∧ wF M c lv ≤ 20 := memW_bd L.wb L.hc _ (L.ok lv h).mem
theorem Lv.a (L : Lv M t c) {lv : Mem × Nat} (h : lv ∈ levsM M t) : 1 ≤ aF M c lv ∧ aF M c lv ≤ 400 := weiM_bd L.wb L.hc (L.ok lv h).mem
/-- the entry and the others make the queue -/
theorem Lv.sum (L : Lv M t c) {lv : Mem × Nat} (h : lv ∈ levsM M t) : wF M c lv + sumI (memW M c) (othM M c lv) = aF M c lv := by
  rw [aF, weiM_sum]
  exact sumI_without (memsM_nodup _ _ _) (L.ok lv h).mem
theorem Lv.cnt (L : Lv M t c) {lv : Mem × Nat} (h : lv ∈ levsM M t) : ((othM M c lv).length : Int) + 1 = cntM M lv.2 c := by
  rw [cntM_len]
  have := length_without (memsM_nodup M lv.2 c) (L.ok lv h).mem
  rw [othM]
  omega
theorem Lv.oth (L : Lv M t c) (lv : Mem × Nat) : ∀ m ∈ othM M c lv, 1 ≤ memW M c m ∧ memW M c m ≤ 20 := fun m hm => memW_bd L.wb L.hc m (List.mem_filter.1 hm).1
theorem Lv.wa (L : Lv M t c) {lv : Mem × Nat} (h : lv ∈ levsM M t) : wF M c lv ≤ aF M c lv := by
  have h1 := L.sum h
  have h2 := sumI_bd (A := 0) (B := 20) (l := othM M c lv) (f := memW M c) (fun m hm => by have := L.oth lv m hm; omega)
  omega
theorem Lv.n (L : Lv M t c) {lv : Mem × Nat} (h : lv ∈ levsM M t) : 1 ≤ cntM M lv.2 c ∧ cntM M lv.2 c ≤ 20 := by
  have h1 := L.cnt h
  have := cntM_bd L.wb lv.2 c
  omega
theorem Lv.b (L : Lv M t c) {lv : Mem × Nat} (h : lv ∈ levsM M t) : 0 ≤ bF M c lv ∧ bF M c lv ≤ 200000 := by
  have h1 := L.w h
  have h2 := L.a h
  have h3 := L.n h
  exact besM_bd (by omega) h1.2 (L.wa h) h2.1 h2.2 h3.1 h3.2
theorem pow_le4 {B : Int} {n : Nat} (hB : 1 ≤ B) (h : n ≤ 4) : B ^ n ≤ B ^ 4 := by
  have h1 : ∀ k : Nat, 1 ≤ B ^ k := fun k => by
    induction k with
    | zero => simp
    | succ k ih => rw [Int.pow_succ]; have := Int.mul_le_mul ih hB (by omega) (by omega); omega
  obtain ⟨d, hd⟩ : ∃ d, 4 = n + d := ⟨4 - n, by omega⟩
  rw [hd, Int.pow_add]
  have := Int.mul_le_mul (Int.le_refl (B ^ n)) (h1 d) (by omega) (by have := h1 n; omega)
  omega
theorem Lv.top (L : Lv M t c) {p r : List (Mem × Nat)} (e : levsM M t = p ++ r) : 1 ≤ prodI (wF M c) p ∧ prodI (wF M c) p ≤ 160000 := by
  have h := prodI_bd (f := wF M c) (B := 20) (by omega) (l := p) (fun x hx => L.w (by rw [e]; exact List.mem_append_left _ hx))
  have h2 := L.len
  rw [e, List.length_append] at h2
  have h3 := pow_le4 (B := 20) (n := p.length) (by omega) (by omega)
  have h4 : (20 : Int) ^ 4 = 160000 := by decide
  omega
theorem Lv.bot (L : Lv M t c) {p r : List (Mem × Nat)} (e : levsM M t = p ++ r) : 1 ≤ prodI (aF M c) p ∧ prodI (aF M c) p ≤ 25600000000 := by
  have h := prodI_bd (f := aF M c) (B := 400) (by omega) (l := p) (fun x hx => L.a (by rw [e]; exact List.mem_append_left _ hx))
  have h2 := L.len
  rw [e, List.length_append] at h2
  have h3 := pow_le4 (B := 400) (n := p.length) (by omega) (by omega)
  have h4 : (400 : Int) ^ 4 = 25600000000 := by decide
  omega
theorem Lv.far (L : Lv M t c) {p r : List (Mem × Nat)} (e : levsM M t = p ++ r) : 0 ≤ sumI (bF M c) p ∧ sumI (bF M c) p ≤ 800000 := by
  have h := sumI_bd (A := 0) (B := 200000) (l := p) (f := bF M c) (fun x hx => L.b (by rw [e]; exact List.mem_append_left _ hx))
  have h2 := L.len
  rw [e, List.length_append] at h2
  omega
end
/-- what a task gets, as a fraction -/
def shareF (M : WorldM) (t c : Nat) : Int × Int := (prodI (wF M c) (levsM M t) / gcdM (prodI (wF M c) (levsM M t)) (prodI (aF M c) (levsM M t)), prodI (aF M c) (levsM M t) / gcdM (prodI (wF M c) (levsM M t)) (prodI (aF M c) (levsM M t)))
theorem gcdM_pos {a b : Int} (ha : 1 ≤ a) : 1 ≤ gcdM a b ∧ gcdM a b ≤ a := by
  unfold gcdM
  have h1 : Nat.gcd a.toNat b.toNat ≤ a.toNat := Nat.gcd_le_left _ (by omega)
  have h2 : 0 < Nat.gcd a.toNat b.toNat := Nat.gcd_pos_of_pos_left _ (by omega)
  omega
end Go.Proofs.YtccjanpdgdonmaaGreat
namespace Go.Proofs.YtccjanpdgdonmaaGreat
/-- what the program keeps between two levels: the fraction, reduced -/
def nrmT (M : WorldM) (c : Nat) (q : List (Mem × Nat)) : Int := prodI (wF M c) q / gcdM (prodI (wF M c) q) (prodI (aF M c) q)
def nrmB (M : WorldM) (c : Nat) (q : List (Mem × Nat)) : Int := prodI (aF M c) q / gcdM (prodI (wF M c) q) (prodI (aF M c) q)
theorem gcdM_comm (a b : Int) : gcdM a b = gcdM b a := by unfold gcdM; rw [Nat.gcd_comm]
theorem nrm_nat {T B x y : Nat} (hT : 0 < T) : (T / Nat.gcd T B * x) / Nat.gcd (T / Nat.gcd T B * x) (B / Nat.gcd T B * y) = (T * x) / Nat.gcd (T * x) (B * y) ∧ (B / Nat.gcd T B * y) / Nat.gcd (T / Nat.gcd T B * x) (B / Nat.gcd T B * y) = (B * y) / Nat.gcd (T * x) (B * y) := by
  have hd : 0 < Nat.gcd T B := Nat.gcd_pos_of_pos_left _ hT
  obtain ⟨t, ht⟩ := Nat.gcd_dvd_left T B
  obtain ⟨b, hb⟩ := Nat.gcd_dvd_right T B
  generalize Nat.gcd T B = d at *
  subst ht
  subst hb
  rw [Nat.mul_div_cancel_left _ hd, Nat.mul_div_cancel_left _ hd, Nat.mul_assoc, Nat.mul_assoc, Nat.gcd_mul_left, Nat.mul_div_mul_left _ _ hd, Nat.mul_div_mul_left _ _ hd]
  exact ⟨rfl, rfl⟩
theorem nrm_int {T B x y : Int} (hT : 1 ≤ T) (hB : 1 ≤ B) (hx : 1 ≤ x) (hy : 1 ≤ y) : (T / gcdM T B * x) / gcdM (T / gcdM T B * x) (B / gcdM T B * y) = (T * x) / gcdM (T * x) (B * y) ∧ (B / gcdM T B * y) / gcdM (T / gcdM T B * x) (B / gcdM T B * y) = (B * y) / gcdM (T * x) (B * y) := by
  obtain ⟨T, rfl⟩ := Int.eq_ofNat_of_zero_le (show 0 ≤ T by omega)
  obtain ⟨B, rfl⟩ := Int.eq_ofNat_of_zero_le (show 0 ≤ B by omega)
  obtain ⟨x, rfl⟩ := Int.eq_ofNat_of_zero_le (show 0 ≤ x by omega)
  obtain ⟨y, rfl⟩ := Int.eq_ofNat_of_zero_le (show 0 ≤ y by omega)
  have h := nrm_nat (T := T) (B := B) (x := x) (y := y) (by omega)
  have e : ∀ a b : Nat, gcdM (a : Int) (b : Int) = (Nat.gcd a b : Nat) := fun a b => by unfold gcdM; simp
  simp only [e, ← Int.natCast_ediv, ← Int.natCast_mul]
  exact ⟨by rw [h.1], by rw [h.2]⟩
theorem Lv.nrm {M : WorldM} {t c : Nat} (L : Lv M t c) {p r : List (Mem × Nat)} (e : levsM M t = p ++ r) : 1 ≤ nrmT M c p ∧ nrmT M c p ≤ 160000 ∧ 1 ≤ nrmB M c p ∧ nrmB M c p ≤ 25600000000 := by
  have h1 := L.top e
  have h2 := L.bot e
  have g1 := gcdM_pos (b := prodI (aF M c) p) h1.1
  have g2 := gcdM_pos (b := prodI (wF M c) p) h2.1
  rw [gcdM_comm] at g2
  unfold nrmT nrmB
  have d1 := Int.ediv_le_self (gcdM (prodI (wF M c) p) (prodI (aF M c) p)) (show 0 ≤ prodI (wF M c) p by omega)
  have d2 := Int.ediv_le_self (gcdM (prodI (wF M c) p) (prodI (aF M c) p)) (show 0 ≤ prodI (aF M c) p by omega)
  have d3 : 1 ≤ prodI (wF M c) p / gcdM (prodI (wF M c) p) (prodI (aF M c) p) := (Int.le_ediv_iff_mul_le (by omega)).2 (by omega)
  have d4 : 1 ≤ prodI (aF M c) p / gcdM (prodI (wF M c) p) (prodI (aF M c) p) := (Int.le_ediv_iff_mul_le (by omega)).2 (by omega)
  omega
theorem nrm_mul_bd {a x A X : Int} (h1 : 1 ≤ a) (h2 : a ≤ A) (h3 : 1 ≤ x) (h4 : x ≤ X) (hA : 0 ≤ A) : 1 ≤ a * x ∧ a * x ≤ A * X := by
  have h5 := Int.mul_le_mul h1 h3 (by omega) (by omega)
  have h6 := Int.mul_le_mul h2 h4 (by omega) hA
  omega
/-- a level more -/
theorem Lv.step {M : WorldM} {t c : Nat} (L : Lv M t c) {p r : List (Mem × Nat)} {x : Mem × Nat} (e : levsM M t = p ++ x :: r) :
    (nrmT M c p * wF M c x) / gcdM (nrmT M c p * wF M c x) (nrmB M c p * aF M c x) = nrmT M c (p ++ [x]) ∧ (nrmB M c p * aF M c x) / gcdM (nrmT M c p * wF M c x) (nrmB M c p * aF M c x) = nrmB M c (p ++ [x]) := by
  have hx : x ∈ levsM M t := by rw [e]; simp
  have h := nrm_int (L.top e).1 (L.bot e).1 (L.w hx).1 (L.a hx).1
  unfold nrmT nrmB
  rw [prodI_snoc, prodI_snoc]
  exact h
theorem share_nrm (M : WorldM) (t c : Nat) : shareF M t c = (nrmT M c (levsM M t), nrmB M c (levsM M t)) := rfl
theorem nrm_nil (M : WorldM) (c : Nat) : nrmT M c [] = 1 ∧ nrmB M c [] = 1 := by
  simp [nrmT, nrmB, prodI, gcdM]
end Go.Proofs.YtccjanpdgdonmaaGreat
