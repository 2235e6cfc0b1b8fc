/- What conf's functions and those of its reference answer, in plain terms; conditions: as stated. -/
import Derived.Test.YtejlgalnkblndaaAlU
import Derived.Test.YtejlgalnkblndaaY0
set_option linter.unusedSimpArgs false
set_option linter.unusedVariables false
set_option maxRecDepth 100000
namespace Go.Proofs.Ytejlgalnkblndaa
open Go Go.Al
def btw : List Int → Bool
  | a :: b :: c :: r => if b < a ∨ b > c then false else btw r
  | _ => true
theorem btw_short : ∀ {xs : List Int}, xs.length ≤ 2 → btw xs = true
  | [], _ => rfl
  | [_], _ => rfl
  | [_, _], _ => rfl
  | _ :: _ :: _ :: _, h => by simp at h
theorem between_loop (xs : List Int) (h : xs.length < 2 ^ 40) : ∀ (n i : Nat), xs.length + 3 - i ≤ n → i ≤ xs.length + 2 → loop (s_conf_between_b1 xs) (i : Int) = some (btw (xs.drop i)) := by
  intro n
  induction n with
  | zero => intro i h1 h2; omega
  | succ n ih =>
    intro i h1 h2
    have w1 : IntKind.i64.wrap ((i : Int) + 1) = ((i + 1 : Nat) : Int) := by rw [wrap64 (by omega) (by omega)]; rfl
    have w2 : IntKind.i64.wrap ((i : Int) + 2) = ((i + 2 : Nat) : Int) := by rw [wrap64 (by omega) (by omega)]; rfl
    have w3 : IntKind.i64.wrap ((i : Int) + 3) = ((i + 3 : Nat) : Int) := by rw [wrap64 (by omega) (by omega)]; rfl
    by_cases hc : i + 2 < xs.length
    · have e : xs.drop i = xs.getD i 0 :: xs.getD (i + 1) 0 :: xs.getD (i + 2) 0 :: xs.drop (i + 3) := by
        rw [drop_getD (by omega), drop_getD (i := i + 1) (by omega), drop_getD (i := i + 2) hc]
      rw [e, btw]
      by_cases hx : xs.getD (i + 1) 0 < xs.getD i 0 ∨ xs.getD (i + 1) 0 > xs.getD (i + 2) 0
      · rw [if_pos hx]
        refine loop_done ?_
        rw [s_conf_between_b1, w1, w2, w3]
        simp only [Int.toNat_natCast]
        rw [ite_t (by simp; omega), gd_eq ⟨by omega, by omega⟩, gd_eq ⟨by omega, by omega⟩, gd_eq (fun _ => ⟨by omega, by omega⟩), gd_eq (fun _ => ⟨by omega, by omega⟩), ite_t]
        · rfl
        · simp only [Bool.or_eq_true, decide_eq_true_eq]; exact hx
      · rw [if_neg hx, ← ih (i + 3) (by omega) (by omega)]
        refine loop_cont ?_
        rw [s_conf_between_b1, w1, w2, w3]
        simp only [Int.toNat_natCast]
        rw [ite_t (by simp; omega), gd_eq ⟨by omega, by omega⟩, gd_eq ⟨by omega, by omega⟩, gd_eq (fun _ => ⟨by omega, by omega⟩), gd_eq (fun _ => ⟨by omega, by omega⟩), ite_f]
        simp only [Bool.or_eq_false_iff, decide_eq_false_iff_not]
        exact ⟨fun h => hx (.inl h), fun h => hx (.inr h)⟩
    · rw [btw_short (by simp; omega)]
      refine loop_done ?_
      rw [s_conf_between_b1, w2, ite_f (by simp; omega)]; rfl
theorem between_eq (xs : List Int) (h : xs.length < 2 ^ 40) : s_conf_between xs = some (btw xs) := by
  have := between_loop xs h _ 0 (Nat.le_refl _) (by omega)
  simpa [s_conf_between] using this
/-- Can the configuration be? -/
def cok (c : GapiConf) : Bool := decide (0 ≤ c.R ∧ c.R ≤ c.U ∧ c.U ≤ 2 ∧ 1 ≤ c.Peers ∧ c.Peers ≤ 8 ∧ 1 ≤ c.Window ∧ c.Window ≤ 8 ∧ 1 ≤ c.Every ∧ c.Every ≤ c.Window ∧ 1 ≤ c.Patience ∧ c.Patience ≤ 1000 ∧ c.Secret.length ≤ 64)
theorem check_eq (c : GapiConf) : s_conf_Check c = some (if cok c then 0 else 60) := by
  rw [s_conf_Check, bd_eq (between_eq _ (by simp))]
  have : btw [0, c.U, 2, 0, c.R, c.U, 1, c.Peers, 8, 1, c.Window, 8, 1, c.Every, c.Window, 1, c.Patience, 1000, 0, (c.Secret.length : Int), 64] = cok c := by
    simp only [btw, cok]
    rw [Bool.eq_iff_iff]
    simp only [decide_eq_true_eq]
    repeat' split
    all_goals simp
    all_goals omega
  rw [this]
  cases cok c <;> rfl
def cnt (c : GapiConf) (role : Int) : Int := if cok c then (if role = 1 ∨ role = 2 then 2 * c.U + c.R + 1 else if role = 3 then c.U + c.R + 1 else if role = 4 then c.Peers else 0) else 0
theorem cok_spec {c : GapiConf} (h : cok c = true) : 0 ≤ c.R ∧ c.R ≤ c.U ∧ c.U ≤ 2 ∧ 1 ≤ c.Peers ∧ c.Peers ≤ 8 ∧ 1 ≤ c.Window ∧ c.Window ≤ 8 ∧ 1 ≤ c.Every ∧ c.Every ≤ c.Window ∧ 1 ≤ c.Patience ∧ c.Patience ≤ 1000 ∧ c.Secret.length ≤ 64 := of_decide_eq_true h
theorem cnt_bounds (c : GapiConf) (role : Int) : 0 ≤ cnt c role ∧ cnt c role ≤ 8 := by
  unfold cnt
  split
  · rename_i h
    obtain ⟨h1, h2, h3, h4, h5, _⟩ := cok_spec h
    repeat' split
    all_goals omega
  · omega
theorem countj_eq {c : GapiConf} (h : cok c = true) (role : Int) (b : Bool) : s_conf_Count_j1 c role b = some (if b then 2 * c.U + c.R + 1 else if role = 3 then c.U + c.R + 1 else if role = 4 then c.Peers else 0) := by
  obtain ⟨h1, h2, h3, h4, h5, _⟩ := cok_spec h
  unfold s_conf_Count_j1
  rw [wrap64 (n := 2 * c.U) (by omega) (by omega), wrap64 (n := 2 * c.U + c.R) (by omega) (by omega), wrap64 (n := 2 * c.U + c.R + 1) (by omega) (by omega), wrap64 (n := c.U + c.R) (by omega) (by omega), wrap64 (n := c.U + c.R + 1) (by omega) (by omega)]
  simp only [beq_iff_eq]
  repeat' split
  all_goals first | rfl | contradiction
theorem count_eq (c : GapiConf) (role : Int) : s_conf_Count c role = some (cnt c role) := by
  rw [s_conf_Count, bd_eq (check_eq c)]
  unfold cnt
  cases h : cok c with
  | false => rfl
  | true =>
    rw [if_pos rfl, ite_f (by rfl), if_pos rfl, countj_eq h, countj_eq h]
    by_cases h1 : role = 1
    · subst h1; rfl
    · by_cases h2 : role = 2
      · subst h2; rfl
      · simp [h1, h2]
theorem quorum_eq (c : GapiConf) : s_conf_Quorum c = some (cnt c 3) := by
  rw [s_conf_Quorum, bd_eq (check_eq c)]
  unfold cnt
  cases h : cok c with
  | false => rfl
  | true =>
    obtain ⟨h1, h2, h3, h4, h5, _⟩ := cok_spec h
    rw [if_pos rfl, ite_f (by rfl), if_pos rfl, wrap64 (n := c.U + c.R) (by omega) (by omega), wrap64 (n := c.U + c.R + 1) (by omega) (by omega)]
    rfl
def prf (c : GapiConf) : Int := if cok c then c.R + 1 else 0
theorem proof_eq (c : GapiConf) : s_conf_Proof c = some (prf c) := by
  rw [s_conf_Proof, bd_eq (check_eq c)]
  unfold prf
  cases h : cok c with
  | false => rfl
  | true =>
    obtain ⟨h1, h2, h3, h4, h5, _⟩ := cok_spec h
    rw [if_pos rfl, ite_f (by rfl), if_pos rfl, wrap64 (n := c.R + 1) (by omega) (by omega)]
def prim (c : GapiConf) (view : Int) : Int := if cnt c 2 = 0 ∨ view < 0 then 0 else Int.tmod view (cnt c 2)
theorem primary_eq (c : GapiConf) (view : Int) : s_conf_Primary c view = some (prim c view) := by
  rw [s_conf_Primary, bd_eq (count_eq c 2)]
  unfold prim
  by_cases h : cnt c 2 = 0 ∨ view < 0
  · rw [if_pos h, ite_t (by simpa using h)]
  · rw [if_neg h, ite_f (by simp at h ⊢; omega), gd_eq (fun h0 => h (.inl h0))]
def thr (c : GapiConf) (id : GapiId) : Bool := decide (0 ≤ id.N) && decide (id.N < cnt c id.Role)
theorem there_eq (c : GapiConf) (id : GapiId) : s_conf_There c id = some (thr c id) := by
  unfold s_conf_There thr
  by_cases h : 0 ≤ id.N
  · rw [ite_t (by simpa using h), bd_eq (count_eq c _)]
  · rw [ite_f (by simpa using h)]
    simp [h]
/-! the reference -/
theorem rcheck_eq (c : GapiConf) : s_stanchionref06_Check c = some (if cok c then 0 else 60) := by
  unfold s_stanchionref06_Check
  cases h : cok c with
  | true =>
    obtain ⟨h1, h2, h3, h4, h5, h6, h7, h8, h9, h10, h11, h12⟩ := cok_spec h
    rw [ite_f]; · rfl
    simp only [Bool.or_eq_false_iff, decide_eq_false_iff_not]
    omega
  | false =>
    rw [ite_t]; · rfl
    have h := of_decide_eq_false h
    simp only [Bool.or_eq_true, decide_eq_true_eq]
    omega
theorem rcountj_eq {c : GapiConf} (h : cok c = true) (role : Int) (b : Bool) : s_stanchionref06_Count_j1 c role b = some (if b then 2 * c.U + c.R + 1 else if role = 3 then c.U + c.R + 1 else if role = 4 then c.Peers else 0) := countj_eq h role b
theorem rcount_eq (c : GapiConf) (role : Int) : s_stanchionref06_Count c role = some (cnt c role) := by
  rw [s_stanchionref06_Count, bd_eq (rcheck_eq c)]
  have := count_eq c role
  rw [s_conf_Count, bd_eq (check_eq c)] at this
  exact this
theorem rquorum_eq (c : GapiConf) : s_stanchionref06_Quorum c = some (cnt c 3) := by
  rw [s_stanchionref06_Quorum, bd_eq (rcount_eq c 3)]
theorem rproof_eq (c : GapiConf) : s_stanchionref06_Proof c = some (prf c) := by
  rw [s_stanchionref06_Proof, bd_eq (rcheck_eq c)]
  have := proof_eq c
  rw [s_conf_Proof, bd_eq (check_eq c)] at this
  exact this
theorem rprimary_eq (c : GapiConf) (view : Int) : s_stanchionref06_Primary c view = some (prim c view) := by
  rw [s_stanchionref06_Primary, bd_eq (rcount_eq c 2)]
  have := primary_eq c view
  rw [s_conf_Primary, bd_eq (count_eq c 2)] at this
  exact this
theorem rthere_eq (c : GapiConf) (id : GapiId) : s_stanchionref06_There c id = some (thr c id) := by
  unfold s_stanchionref06_There thr
  by_cases h : 0 ≤ id.N
  · rw [ite_t (by simpa using h), bd_eq (rcount_eq c _)]
  · rw [ite_f (by simpa using h)]
    simp [h]
/-! Ids -/
def idsOf (role : Int) (k : Nat) : List GapiId := (List.range k).map fun (n : Nat) => ⟨role, (n : Int)⟩
theorem idsOf_succ (role : Int) (k : Nat) : idsOf role (k + 1) = idsOf role k ++ [⟨role, (k : Int)⟩] := by simp [idsOf, List.range_succ]
theorem idsOf_len (role : Int) (k : Nat) : (idsOf role k).length = k := by simp [idsOf]
def ids (c : GapiConf) (roles : List Int) : List GapiId := roles.flatMap fun r => idsOf r (cnt c r).toNat
theorem ids_len (c : GapiConf) : ∀ rs : List Int, (ids c rs).length ≤ 8 * rs.length
  | [] => by simp [ids]
  | r :: rs => by
    have ih := ids_len c rs
    have := cnt_bounds c r
    simp only [ids, List.flatMap_cons, List.length_append, idsOf_len, List.length_cons] at ih ⊢
    omega
theorem ids_snoc (c : GapiConf) (rs : List Int) (r : Int) : ids c (rs ++ [r]) = ids c rs ++ idsOf r (cnt c r).toNat := by simp [ids]
theorem take_snoc {xs : List Int} {i : Nat} (h : i < xs.length) : xs.take (i + 1) = xs.take i ++ [xs.getD i 0] := by
  rw [List.take_succ_eq_append_getElem h]; simp [List.getD, h]
theorem ids_inner (roles : List Int) (i : Nat) (v : Int) (hv : 0 ≤ v ∧ v ≤ 8) (out : List GapiId) (ho : out.length < 2 ^ 40) (hi : i < 2 ^ 40) : ∀ (n k : Nat), v.toNat - k ≤ n → k ≤ v.toNat →
    loop (s_conf_Ids_b2 roles (i : Int) v) (out ++ idsOf (roles.getD i 0) k, (k : Int)) = some (.inl (out ++ idsOf (roles.getD i 0) v.toNat, ((i + 1 : Nat) : Int))) := by
  intro n
  induction n with
  | zero =>
    intro k h1 h2
    have : k = v.toNat := by omega
    subst this
    refine loop_done ?_
    rw [s_conf_Ids_b2, ite_f (by simp; omega), wrap64 (n := (i : Int) + 1) (by omega) (by omega)]
    rfl
  | succ n ih =>
    intro k h1 h2
    by_cases hk : k = v.toNat
    · subst hk; exact ih _ (by omega) (by omega)
    · rw [← ih (k + 1) (by omega) (by omega)]
      refine loop_cont ?_
      have hl : (out ++ idsOf (roles.getD i 0) k).length = out.length + k := by simp [idsOf_len]
      rw [s_conf_Ids_b2, ite_t (by simp; omega), gd_eq (by rw [hl]; omega), wrap64 (n := (k : Int) + 1) (by omega) (by omega), idsOf_succ]
      simp only [Int.toNat_natCast, List.append_assoc]
      rfl
theorem ids_outer (c : GapiConf) (roles : List Int) (hl : roles.length < 2 ^ 30) : ∀ (n i : Nat), roles.length - i ≤ n → i ≤ roles.length → loop (s_conf_Ids_b1 c roles) (ids c (roles.take i), (i : Int)) = some (ids c roles) := by
  intro n
  induction n with
  | zero =>
    intro i h1 h2
    have : i = roles.length := by omega
    subst this
    refine loop_done ?_
    rw [s_conf_Ids_b1, ite_f (by simp)]
    simp
  | succ n ih =>
    intro i h1 h2
    by_cases hi : i = roles.length
    · subst hi; exact ih _ (by omega) (by omega)
    · rw [← ih (i + 1) (by omega) (by omega)]
      refine loop_cont ?_
      have hb := cnt_bounds c (roles.getD i 0)
      have hle := ids_len c (roles.take i)
      have hlt := List.length_take_le i roles
      rw [s_conf_Ids_b1, ite_t (by simp; omega), gd_eq ⟨by omega, by omega⟩]
      simp only [Int.toNat_natCast]
      rw [bd_eq (count_eq c _)]
      have := ids_inner roles i (cnt c (roles.getD i 0)) hb (ids c (roles.take i)) (by omega) (by omega) _ 0 (Nat.le_refl _) (by omega)
      rw [take_snoc (by omega), ids_snoc, ← this]
      simp [idsOf]
theorem ids_eq (c : GapiConf) (roles : List Int) (hl : roles.length < 2 ^ 30) : s_conf_Ids c roles = some (ids c roles) := by
  have := ids_outer c roles hl _ 0 (Nat.le_refl _) (by omega)
  simpa [s_conf_Ids, ids] using this
theorem alive_eq : s_stanchionlaw06_alive = some true := by
  unfold s_stanchionlaw06_alive
  have hc : cok (GapiConf.mk 1 1 1 4 2 3 []) = true := by decide
  rw [bd_eq (check_eq _), count_eq, count_eq, quorum_eq, proof_eq, primary_eq, there_eq, ids_eq _ _ (by simp)]
  simp [cnt, hc, prf, prim, thr, ids, idsOf_len]
theorem copy_eq {b : List Int} (h : b.length ≤ 2 ^ 47) : s_stanchionref00_CopyBytes b = some b := by
  unfold s_stanchionref00_CopyBytes
  rw [gd_eq]
  constructor <;> omega
theorem ConfAnswers_true (c : GapiConf) (role view : Int) (id : GapiId) (hc : okGapiConf c) (hr : (Lit.int .i64 role).wf = true) (hv : (Lit.int .i64 view).wf = true) (hi : okGapiId id) : s_stanchionlaw06_ConfAnswers c role view id = some true := by
  have h : c.Secret.length ≤ 2 ^ 47 := by
    have := hc.2.2.2.2.2.2.1.2
    have e : reachBytes = 2 ^ 47 - 4096 := rfl
    omega
  unfold s_stanchionlaw06_ConfAnswers
  rw [bd_eq alive_eq, ite_f (by rfl)]
  have hcc : s_stanchionref00_CopyConf c = some c := by unfold s_stanchionref00_CopyConf; rw [bd_eq (copy_eq h)]
  rw [bd_eq hcc, bd_eq (check_eq c), bd_eq (rcheck_eq c), count_eq, rcount_eq, quorum_eq, rquorum_eq, proof_eq, rproof_eq, primary_eq, rprimary_eq, there_eq, rthere_eq]
  simp
/-! ConfIds -/
theorem ids_mem {c : GapiConf} {rs : List Int} {id : GapiId} (h : id ∈ ids c rs) : thr c id = true := by
  simp only [ids, List.mem_flatMap, idsOf, List.mem_map, List.mem_range] at h
  obtain ⟨r, _, n, hn, rfl⟩ := h
  simp only [thr, Bool.and_eq_true, decide_eq_true_eq]
  have := cnt_bounds c r
  omega
theorem sameInts_refl (a : List Int) (h : a.length < 2 ^ 40) : s_stanchionref00_SameInts a a = some true := by
  unfold s_stanchionref00_SameInts
  rw [ite_f (by simp)]
  refine loop_upto (fun i => (i : Int)) a.length ?_ ?_ 0 (Nat.zero_le _)
  · intro i hi
    rw [s_stanchionref00_SameInts_b1, ite_t (by simp; omega), gd_eq (by omega), gd_eq (by omega), ite_f (by simp), wrap64 (by omega) (by omega)]
    rfl
  · rw [s_stanchionref00_SameInts_b1, ite_f (by simp)]; rfl
theorem rids_inner (c : GapiConf) (roles : List Int) (i : Nat) (hi : i < roles.length) (hl : roles.length < 2 ^ 30) (out : List GapiId) (ho : out.length < 2 ^ 40) :
    loop (s_stanchionref06_Ids_b2 c roles (i : Int)) (out, 0) = some (.inl (out ++ idsOf (roles.getD i 0) (cnt c (roles.getD i 0)).toNat, ((i + 1 : Nat) : Int))) := by
  have hb := cnt_bounds c (roles.getD i 0)
  have := loop_upto (body := s_stanchionref06_Ids_b2 c roles (i : Int)) (fun k => (out ++ idsOf (roles.getD i 0) k, (k : Int))) (cnt c (roles.getD i 0)).toNat (a := (.inl (out ++ idsOf (roles.getD i 0) (cnt c (roles.getD i 0)).toNat, ((i + 1 : Nat) : Int)))) ?_ ?_ 0 (Nat.zero_le _)
  · simpa [idsOf] using this
  · intro k hk
    have hlen : (out ++ idsOf (roles.getD i 0) k).length = out.length + k := by simp [idsOf_len]
    simp only [s_stanchionref06_Ids_b2]
    rw [gd_eq (by omega)]
    simp only [Int.toNat_natCast]
    rw [bd_eq (rcount_eq c _), ite_t (by rw [decide_eq_true_eq]; omega), gd_eq (by omega), gd_eq (by rw [hlen]; omega), wrap64 (by omega) (by omega), idsOf_succ]
    simp only [List.append_assoc]
    rfl
  · simp only [s_stanchionref06_Ids_b2]
    rw [gd_eq (by omega)]
    simp only [Int.toNat_natCast]
    rw [bd_eq (rcount_eq c _), ite_f (by rw [decide_eq_false_iff_not]; omega), wrap64 (by omega) (by omega)]
    rfl
theorem rids_eq (c : GapiConf) (roles : List Int) (hl : roles.length < 2 ^ 30) : s_stanchionref06_Ids c roles = some (ids c roles) := by
  have := loop_upto (body := s_stanchionref06_Ids_b1 c roles) (fun i => (ids c (roles.take i), (i : Int))) roles.length (a := ids c roles) ?_ ?_ 0 (Nat.zero_le _)
  · simpa [s_stanchionref06_Ids, ids] using this
  · intro i hi
    have hle := ids_len c (roles.take i)
    have hlt := List.length_take_le i roles
    simp only [s_stanchionref06_Ids_b1]
    rw [ite_t (by simp; omega), rids_inner c roles i hi hl _ (by omega), take_snoc hi, ids_snoc]
  · simp only [s_stanchionref06_Ids_b1]
    rw [ite_f (by simp)]
    simp
theorem getD_mem' {α : Type} {d : α} {l : List α} {i : Nat} (h : i < l.length) : l.getD i d ∈ l := by simp [List.getD, h]
theorem ConfIds_true (c : GapiConf) (roles : List Int) (hc : okGapiConf c) (hr : (∀ z ∈ roles, (Lit.int .i64 z).wf = true) ∧ roles.length * 8 ≤ reachBytes) : s_stanchionlaw06_ConfIds c roles = some true := by
  unfold s_stanchionlaw06_ConfIds
  rw [bd_eq alive_eq, ite_f (by rfl)]
  by_cases h : 100 < (roles.length : Int)
  · rw [ite_t (by simpa using h)]
  · rw [ite_f (by simpa using h)]
    have e : reachBytes = 140737488351232 := rfl
    have hcp : s_stanchionref00_CopyInts roles = some roles := by unfold s_stanchionref00_CopyInts; rw [gd_eq (by omega)]
    rw [bd_eq hcp, bd_eq (ids_eq c roles (by omega)), bd_eq (rids_eq c roles (by omega)), ite_t (by simp), sameInts_refl _ (by omega)]
    rw [bd_of, ite_f (by simp)]
    have hlen := ids_len c roles
    refine loop_upto (fun i => (i : Int)) (ids c roles).length ?_ ?_ 0 (Nat.zero_le _)
    · intro i hi
      rw [s_stanchionlaw06_ConfIds_b1, ite_t (by simp; omega), gd_eq (by omega), gd_eq (by omega), gd_eq (fun _ => by omega)]
      simp only [Int.toNat_natCast, beq_self_eq_true, Bool.and_self, Bool.not_true, Bool.not_false]
      rw [if_pos trivial, bd_eq (there_eq c _), ids_mem (getD_mem' hi), ite_f (by rfl), wrap64 (by omega) (by omega)]
      rfl
    · rw [s_stanchionlaw06_ConfIds_b1, ite_f (by simp)]; rfl
/-! ConfSums -/
theorem ids_apart {c : GapiConf} : ∀ {rs : List Int}, rs.Nodup → (ids c rs).Nodup
  | [], _ => by simp [ids]
  | r :: rs, h => by
    have h' := List.nodup_cons.1 h
    have ih := ids_apart (c := c) h'.2
    simp only [ids, List.flatMap_cons] at ih ⊢
    refine List.nodup_append.2 ⟨?_, ih, ?_⟩
    · exact List.pairwise_map.2 (List.Pairwise.imp (fun hab e => hab (by have e1 := congrArg GapiId.N e; simp only at e1; omega)) List.nodup_range)
    · intro a ha b hb hab
      subst hab
      simp only [idsOf, List.mem_map, List.mem_range, List.mem_flatMap] at ha hb
      obtain ⟨n, _, rfl⟩ := ha
      obtain ⟨r', hr', n', _, e⟩ := hb
      simp only [GapiId.mk.injEq] at e
      exact h'.1 (e.1 ▸ hr')
theorem nodup_getD {α : Type} {d : α} {l : List α} (h : l.Nodup) {i j : Nat} (hi : i < l.length) (hj : j < l.length) (e : l.getD i d = l.getD j d) : i = j := by
  have e' : l[i] = l[j] := by simpa [List.getD, hi, hj] using e
  rcases Nat.lt_trichotomy i j with h1 | h1 | h1
  · exact absurd e' (List.pairwise_iff_getElem.1 h i j hi hj h1)
  · exact h1
  · exact absurd e'.symm (List.pairwise_iff_getElem.1 h j i hj hi h1)
theorem ConfSums_true (c : GapiConf) (hc : okGapiConf c) : s_stanchionlaw06_ConfSums c = some true := by
  unfold s_stanchionlaw06_ConfSums
  rw [bd_eq alive_eq, ite_f (by rfl), bd_eq (ids_eq c _ (by simp)), bd_eq (count_eq c _), bd_eq (count_eq c _), bd_eq (count_eq c _), bd_eq (count_eq c _)]
  have hlen := ids_len c [1, 2, 3, 4]
  have hnd : (ids c [1, 2, 3, 4]).Nodup := ids_apart (by decide)
  have hsum : ((ids c [1, 2, 3, 4]).length : Int) = cnt c 1 + cnt c 2 + cnt c 3 + cnt c 4 := by
    have h1 := cnt_bounds c 1
    have h2 := cnt_bounds c 2
    have h3 := cnt_bounds c 3
    have h4 := cnt_bounds c 4
    simp [ids, idsOf_len]
    omega
  have h1 := cnt_bounds c 1
  have h2 := cnt_bounds c 2
  have h3 := cnt_bounds c 3
  have h4 := cnt_bounds c 4
  simp only [List.length_cons, List.length_nil] at hlen
  refine loop_upto (fun i => (i : Int)) (ids c [1, 2, 3, 4]).length ?_ ?_ 0 (Nat.zero_le _)
  · intro a ha
    rw [s_stanchionlaw06_ConfSums_b1, ite_t (by simp; omega)]
    refine loop_upto (fun i => (i : Int)) a ?_ ?_ 0 (Nat.zero_le _)
    · intro y hy
      rw [s_stanchionlaw06_ConfSums_b2, ite_t (by simp; omega), gd_eq (by omega), gd_eq (by omega), ite_f, wrap64 (by omega) (by omega)]
      · rfl
      · rw [Bool.eq_false_iff]
        intro he
        simp only [Int.toNat_natCast, Bool.and_eq_true, beq_iff_eq] at he
        have : (ids c [1, 2, 3, 4]).getD a yGapiId.dflt = (ids c [1, 2, 3, 4]).getD y yGapiId.dflt := by
          generalize (ids c [1, 2, 3, 4]).getD a yGapiId.dflt = u at he
          generalize (ids c [1, 2, 3, 4]).getD y yGapiId.dflt = v at he
          cases u; cases v
          simp only at he
          rw [he.1, he.2]
        have := nodup_getD hnd ha (by omega) this
        omega
    · rw [s_stanchionlaw06_ConfSums_b2, ite_f (by simp), gd_eq (by omega)]
      simp only [Int.toNat_natCast]
      rw [bd_eq (there_eq c _), ids_mem (getD_mem' ha), ite_f (by rfl), wrap64 (by omega) (by omega)]
      rfl
  · rw [s_stanchionlaw06_ConfSums_b1, ite_f (by simp)]
    rw [wrap64 (n := cnt c 1 + cnt c 2) (by omega) (by omega), wrap64 (n := cnt c 1 + cnt c 2 + cnt c 3) (by omega) (by omega), wrap64 (n := cnt c 1 + cnt c 2 + cnt c 3 + cnt c 4) (by omega) (by omega), hsum]
    rw [ite_t (by simp), bd_eq (check_eq c)]
    have hz : ((cnt c 1 + cnt c 2 + cnt c 3 + cnt c 4 == 0) == ((if cok c then (0 : Int) else 60) != 0)) = true := by
      cases h : cok c with
      | false => simp [cnt, h]
      | true =>
        obtain ⟨q1, q2, q3, q4, q5, _⟩ := cok_spec h
        have : cnt c 1 + cnt c 2 + cnt c 3 + cnt c 4 ≠ 0 := by
          simp only [cnt, h, if_true] at h1 h2 h3 h4 ⊢
          simp only [reduceIte, true_or, Int.reduceEq, or_true, or_self] at h1 h2 h3 h4 ⊢
          omega
        simpa using this
    rw [hz, ite_t (by simp), bd_eq (count_eq c 3), ite_t (by simp), bd_eq (there_eq c _)]
    have : thr c ⟨3, cnt c 3⟩ = false := by simp [thr]
    rw [this]
    simp
/-! ConfTurns -/
theorem ofFn_getD {n : Nat} {f : Fin n → Int} {i : Nat} (h : i < n) : (Vector.ofFn f).toList.getD i 0 = f ⟨i, h⟩ := by simp [List.getD, h]
def turns (n o : Int) (k : Nat) : Vector Int 16 := Vector.ofFn fun j => if (j.val : Int) < n ∧ ((j.val : Int) - o) % n < k then 1 else 0
theorem turns_zero {n o : Int} (h : 0 < n) : turns n o 0 = Vector.replicate 16 0 := by
  apply Vector.ext
  intro j hj
  have := Int.emod_nonneg ((j : Int) - o) (b := n) (by omega)
  simp [turns]
  omega
theorem turns_step {n o : Int} (h : 0 < n) (h16 : n ≤ 8) {k : Nat} (hk : (k : Int) < n) : vset (turns n o k) ((o + k) % n).toNat (IntKind.i64.wrap ((turns n o k).toList.getD ((o + k) % n).toNat 0 + 1)) = turns n o (k + 1) := by
  have h1 := Int.emod_nonneg (o + k) (b := n) (by omega)
  have h2 := Int.emod_lt_of_pos (o + k) h
  have he : ((o + k) % n - o) % n = k := by
    rw [Int.emod_sub_emod, show o + (k : Int) - o = k by omega, Int.emod_eq_of_lt (by omega) hk]
  have hv : (turns n o k).toList.getD ((o + k) % n).toNat 0 = 0 := by
    rw [turns, ofFn_getD (by omega)]
    simp only [Int.toNat_of_nonneg h1, he]
    rw [if_neg (by omega)]
  rw [hv]
  apply Vector.ext
  intro j hj
  simp only [vset, turns, Vector.getElem_setIfInBounds, Vector.getElem_ofFn]
  split
  · rename_i e
    subst e
    simp only [Int.toNat_of_nonneg h1, he]
    rw [if_pos (by omega)]; rfl
  · rename_i e
    by_cases hj2 : (j : Int) < n
    · have hne : ((j : Int) - o) % n ≠ k := by
        intro e2
        apply e
        have : ((j : Int) - o) % n = (k : Int) % n := by rw [e2, Int.emod_eq_of_lt (by omega) hk]
        have e3 : (o + k) % n = j := by
          rw [← Int.add_emod_emod, ← this, Int.add_emod_emod, show o + ((j : Int) - o) = j by omega, Int.emod_eq_of_lt (by omega) hj2]
        rw [e3]; simp
      have : (((j : Int) - o) % n < (k : Int)) ↔ (((j : Int) - o) % n < ((k + 1 : Nat) : Int)) := by omega
      simp only [this]
    · rw [if_neg (by omega), if_neg (by omega)]
theorem turns_all {n o : Int} (h : 0 < n) (h16 : n ≤ 8) {j : Nat} (hj : (j : Int) < n) : (turns n o n.toNat).toList.getD j 0 = 1 := by
  rw [turns, ofFn_getD (by omega)]
  have := Int.emod_lt_of_pos ((j : Int) - o) h
  simp only
  rw [if_pos ⟨hj, by omega⟩]
theorem prim_eq {c : GapiConf} {v : Int} (h : cnt c 2 ≠ 0) (hv : 0 ≤ v) : prim c v = v % cnt c 2 := by
  unfold prim
  rw [if_neg (by omega), Int.tmod_eq_emod_of_nonneg hv]
theorem ConfTurns_true (c : GapiConf) (o : Int) (hc : okGapiConf c) (ho : (Lit.int .i64 o).wf = true) : s_stanchionlaw06_ConfTurns c o = some true := by
  unfold s_stanchionlaw06_ConfTurns
  rw [bd_eq alive_eq, ite_f (by rfl), bd_eq (count_eq c 2)]
  by_cases h : o < 0 ∨ 1099511627776 < o ∨ cnt c 2 = 0
  · rw [ite_t]
    simp only [Bool.or_eq_true, decide_eq_true_eq, beq_iff_eq]
    omega
  · rw [ite_f (by simp only [Bool.or_eq_false_iff, decide_eq_false_iff_not, beq_eq_false_iff_ne]; omega)]
    have hb := cnt_bounds c 2
    have hn : 0 < cnt c 2 := by omega
    generalize hN : cnt c 2 = n at *
    rw [← turns_zero (o := o) hn]
    refine loop_upto (fun k => ((k : Int), turns n o k)) n.toNat ?_ ?_ 0 (Nat.zero_le _)
    · intro k hk
      simp only [s_stanchionlaw06_ConfTurns_b1]
      have h1 := Int.emod_nonneg (o + k) (b := n) (by omega)
      have h2 := Int.emod_lt_of_pos (o + k) hn
      rw [ite_t (by simp; omega), wrap64 (n := o + k) (by omega) (by omega), bd_eq (primary_eq c _), prim_eq (by omega) (by omega), hN, wrap64 (n := o + k + n) (by omega) (by omega)]
      rw [ite_t (by simp; omega), bd_eq (primary_eq c _), prim_eq (by omega) (by omega), hN]
      rw [ite_f (by simp; omega), gd_eq (by omega), gd_eq (by omega), turns_step hn hb.2 (by omega), wrap64 (n := (k : Int) + 1) (by omega) (by omega)]
      rfl
    · simp only [s_stanchionlaw06_ConfTurns_b1]
      rw [ite_f (by simp; omega)]
      have : loop (s_stanchionlaw06_ConfTurns_b2 n (turns n o n.toNat)) 0 = some true := by
        refine loop_upto (fun j => (j : Int)) n.toNat ?_ ?_ 0 (Nat.zero_le _)
        · intro j hj
          rw [s_stanchionlaw06_ConfTurns_b2, ite_t (by simp; omega), gd_eq (by omega)]
          simp only [Int.toNat_natCast]
          rw [ite_f (by rw [turns_all hn hb.2 (by omega)]; rfl), wrap64 (by omega) (by omega)]
          rfl
        · rw [s_stanchionlaw06_ConfTurns_b2, ite_f (by simp; omega)]; rfl
      rw [this]; rfl
end Go.Proofs.Ytejlgalnkblndaa
