/- Reading in plain words: what a text says, and what is so of the value that is read. No program in sight. -/
import Derived.Test.YtlhkfkecoekoeaaGreatDoorPlainV8
set_option linter.unusedVariables false
set_option linter.unusedSimpArgs false
namespace Go.Vc
inductive RO (α : Type) where
  | ok (a : α) (r : Str) (h : Bool)
  | err (e : Int) (r : Str)
def spaceB (c : UInt8) : Bool := c == 32 || c == 9 || c == 10
def skipS (r : Str) : Str := r.dropWhile spaceB
def takeS (sign : Str) (r : Str) : Bool × Str := if (skipS r).take sign.length = sign then (true, (skipS r).drop sign.length) else (false, skipS r)
def isDig (c : UInt8) : Bool := 48 ≤ c && c ≤ 57
def natD : Nat → Str → Nat
  | acc, [] => acc
  | acc, c :: r => natD (acc * 10 + (c.toNat - 48)) r
def textB (c : UInt8) : Bool := 32 ≤ c && c ≤ 126 && c != 92
def quoted : Str → Option (Str × Str)
  | [] => none
  | c :: t => if textB c then (if c = 34 then some ([], t) else match quoted t with | some (s, r) => some (c :: s, r) | none => none) else none
def rdNum (r w rest : Str) (minus : Bool) (h : Bool) : RO Val :=
  if w.all isDig && !(w.take 1 == [48] && (decide (1 < w.length) || minus)) then
    (if natD 0 w ≤ 9223372036854775807 ∨ (minus = true ∧ natD 0 w = 9223372036854775808) then .ok (.num (if minus then -(natD 0 w : Int) else natD 0 w)) rest h else .err 5 r)
  else .err 1 r
def rdWord (r w rest : Str) (minus : Bool) (h : Bool) : RO Val :=
  match w with
  | [] => .err 1 r
  | c :: _ =>
    if isDig c then rdNum r w rest minus h
    else if minus || c == 95 then .err 1 r
    else if w = [110, 105, 108] then .ok .nil rest h
    else if w = [116, 114, 117, 101] then .ok (.truth true) rest h
    else if w = [102, 97, 108, 115, 101] then .ok (.truth false) rest h
    else if w ∈ words then .err 1 r
    else if 16 < w.length then .err 5 r
    else .ok (.atom w) rest h
def rdSingle (r : Str) (h : Bool) : RO Val :=
  if r.take 1 = [34] then (match quoted (r.drop 1) with | some (s, t) => .ok (.text s) t h | none => .err 1 r)
  else if r.take 1 = [45] then rdWord r ((r.drop 1).takeWhile wordB) ((r.drop 1).dropWhile wordB) true h
  else rdWord r (r.takeWhile wordB) (r.dropWhile wordB) false h
section
variable {α : Type}
def rdMore (one : Str → Bool → RO α) (last : Str) : Nat → List α → Str → Bool → RO (List α)
  | 0, _, r, _ => .err 0 r
  | n + 1, l, r, h =>
    match takeS [44] r with
    | (true, r2) => (match one r2 h with | .err e r' => .err e r' | .ok v r3 h3 => rdMore one last n (l ++ [v]) r3 h3)
    | (false, r2) => (match takeS last r2 with | (true, r3) => .ok l r3 h | (false, r3) => .err 1 r3)
def rdFirst (one : Str → Bool → RO α) (last : Str) (r : Str) (h : Bool) : RO (List α) :=
  match one r h with | .err e r' => .err e r' | .ok v r3 h3 => rdMore one last (r3.length + 1) [v] r3 h3
def rdList (one : Str → Bool → RO α) (last : Str) (r : Str) (deep : Int) (h : Bool) : RO (List α) :=
  if 24 < deep + 1 then .err 6 r else
  match takeS last (r.drop last.length) with
  | (true, r2) => .ok [] r2 h
  | (false, r2) => rdFirst one last r2 h
end
def rdPair (val : Str → Bool → RO Val) (r : Str) (h : Bool) : RO VP :=
  match val r h with
  | .err e r' => .err e r'
  | .ok k r1 h1 => (match takeS [58] r1 with
    | (false, r2) => .err 1 r2
    | (true, r2) => (match val r2 h1 with | .err e r' => .err e r' | .ok v r3 h3 => .ok (k, v) r3 h3))
def rdPairs (val : Str → Bool → RO Val) (r : Str) (deep : Int) (h : Bool) : RO (List VP) :=
  if 24 < deep + 1 then .err 6 r else rdFirst (rdPair val) [93] (r.drop 1) h
def weigh (v : Val) (r : Str) (h : Bool) : RO Val := .ok v r (h || v.isNil)
def rdV : Nat → Str → Int → Bool → RO Val
  | 0, r, _, _ => .err 0 r
  | f + 1, r0, deep, h =>
    let r := skipS r0
    if r.take 1 = [123] then (match rdList (fun r h => rdV f r (deep + 1) h) [125] r deep h with | .err e r' => .err e r' | .ok l r' h' => weigh (setV l) r' h')
    else if r.take 2 = [60, 60] then (match rdList (fun r h => rdV f r (deep + 1) h) [62, 62] r deep h with | .err e r' => .err e r' | .ok l r' h' => weigh (seqV l) r' h')
    else if r.take 1 = [91] then (match rdPairs (fun r h => rdV f r (deep + 1) h) r deep h with | .err e r' => .err e r' | .ok l r' h' => weigh (funV (l.map (·.1)) (l.map (·.2))) r' h')
    else rdSingle r h
def readV (t : Str) : Val × Int × Option Int :=
  if 4000 < t.length then (.nil, 0, some 6) else
  match rdV 26 t 0 false with
  | .err e r => (.nil, (t.length : Int) - r.length, some e)
  | .ok v r h =>
    if skipS r ≠ [] then (.nil, (t.length : Int) - (skipS r).length, some 1)
    else if h then (.nil, 0, some 6) else (v, 0, none)
mutual
def dpV : Val → Nat
  | .set l _ => dpL l + 1
  | .fn k v _ => max (dpL k) (dpL v) + 1
  | _ => 0
def dpL : List Val → Nat
  | [] => 0
  | a :: l => max (dpV a) (dpL l)
end
theorem dpL_le {d : Nat} : ∀ {l : List Val}, dpL l ≤ d ↔ ∀ a ∈ l, dpV a ≤ d
  | [] => by simp [dpL]
  | a :: l => by simp [dpL, dpL_le, Nat.max_le]
def shl (v : Val) : Nat := (showV v).length
def TL : List Val → Nat
  | [] => 0
  | a :: l => shl a + 2 + TL l
theorem insU_TL (a : Val) : ∀ l, TL (insU a l) ≤ TL l + shl a + 2
  | [] => by simp [insU, TL]
  | b :: l => by
    have := insU_TL a l
    simp only [insU]; split
    · simp [TL]; omega
    · split <;> simp [TL] <;> omega
theorem canon_TL (l : List Val) : TL (canon l) ≤ TL l := by
  have : ∀ (l s : List Val), TL (l.foldl (fun s a => insU a s) s) ≤ TL s + TL l := by
    intro l; induction l with
    | nil => intro s; simp [TL]
    | cons a l ih => intro s; have := ih (insU a s); have := insU_TL a s; simp only [List.foldl_cons, TL]; omega
  have := this l []; simpa [TL, canon] using this
def TP : List VP → Nat
  | [] => 0
  | p :: l => shl p.1 + shl p.2 + 4 + TP l
theorem TP_eq : ∀ l : List VP, TP l = TL (l.map (·.1)) + TL (l.map (·.2))
  | [] => by simp [TP, TL]
  | p :: l => by simp [TP, TL, TP_eq l]; omega
theorem insP_TP (k v : Val) : ∀ l, TP (insP k v l) ≤ TP l + shl k + shl v + 4
  | [] => by simp [insP, TP]
  | b :: l => by
    have := insP_TP k v l
    simp only [insP]; split
    · simp [TP]; omega
    · split <;> simp [TP] <;> omega
theorem canonP_TP (l : List VP) : TP (canonP l) ≤ TP l := by
  have : ∀ (l s : List VP), TP (l.foldl (fun s p => insP p.1 p.2 s) s) ≤ TP s + TP l := by
    intro l; induction l with
    | nil => intro s; simp [TP]
    | cons a l ih => intro s; have := ih (insP a.1 a.2 s); have := insP_TP a.1 a.2 s; simp only [List.foldl_cons, TP]; omega
  have := this l []; simpa [TP, canonP] using this
theorem restS_TL : ∀ l : List Val, (restS (showLs l)).length ≤ TL l
  | [] => by simp [showLs, restS, TL]
  | a :: l => by have := restS_TL l; simp [showLs, restS, TL, shl]; omega
theorem joinS_TL (l : List Val) : (joinS (showLs l)).length ≤ TL l := by
  cases l with
  | nil => simp [showLs, joinS]
  | cons a l => have := restS_TL l; simp [showLs, joinS, TL, shl]; omega
theorem restS_TP : ∀ k v : List Val, (restS (pairS (showLs k) (showLs v))).length ≤ TL k + TL v
  | [], v => by simp [showLs, pairS, restS]
  | a :: k, [] => by simp [showLs, pairS, restS]
  | a :: k, b :: v => by have := restS_TP k v; simp [showLs, pairS, restS, TL, shl] at this ⊢; omega
theorem joinS_TP (k v : List Val) : (joinS (pairS (showLs k) (showLs v))).length ≤ TL k + TL v := by
  cases k with
  | nil => simp [showLs, pairS, joinS]
  | cons a k =>
    cases v with
    | nil => simp [showLs, pairS, joinS]
    | cons b v => have := restS_TP k v; simp [showLs, pairS, joinS, TL, shl] at this ⊢; omega
theorem shl_setA (l : List Val) : shl (setA l) ≤ TL l + 3 := by
  have := joinS_TL l
  unfold setA shl; split
  · simp [showV]; omega
  · simp [showV]
theorem shl_funA (k v : List Val) : shl (funA k v) ≤ TL k + TL v + 4 := by
  have h1 := joinS_TL v
  have h2 := joinS_TP k v
  unfold funA shl; split
  · simp only [showV]; split
    · simp; omega
    · simp; omega
  · simp [showV]
structure Rd (deep : Int) (r : Str) (v : Val) (r' : Str) : Prop where
  fit : Fit v
  deep : (dpV v : Int) + deep ≤ 24
  took : ∃ p, r = p ++ r' ∧ 1 ≤ p.length ∧ shl v ≤ 25 * p.length
theorem skipS_suf (r : Str) : ∃ p, r = p ++ skipS r := ⟨r.takeWhile spaceB, (List.takeWhile_append_dropWhile ..).symm⟩
theorem takeS_true {sign r r' : Str} (h : takeS sign r = (true, r')) : ∃ p, r = p ++ (sign ++ r') ∧ skipS r = sign ++ r' := by
  obtain ⟨p, hp⟩ := skipS_suf r
  unfold takeS at h; split at h
  · rename_i h1
    have h2 := (Prod.mk.inj h).2
    have : skipS r = sign ++ r' := by rw [← h2]; conv => rhs; lhs; rw [← h1]
                                      exact (List.take_append_drop ..).symm
    exact ⟨p, by rw [← this]; exact hp, this⟩
  · cases h
theorem takeS_false {sign r r' : Str} (h : takeS sign r = (false, r')) : r' = skipS r := by
  unfold takeS at h; split at h
  · cases h
  · exact (Prod.mk.inj h).2.symm
section
variable {α : Type} {one : Str → Bool → RO α} {Pr : α → Prop} {W : α → Nat} {last : Str}
def WS (W : α → Nat) : List α → Nat
  | [] => 0
  | a :: l => W a + 4 + WS W l
theorem rdMore_post (h1 : ∀ r h v r' h', one r h = .ok v r' h' → Pr v ∧ ∃ p, r = p ++ r' ∧ W v ≤ 25 * p.length) :
    ∀ {n : Nat} {l : List α} {r : Str} {h : Bool} {l' : List α} {r' : Str} {h' : Bool}, rdMore one last n l r h = .ok l' r' h' → ∃ m p, l' = l ++ m ∧ r = p ++ r' ∧ (∀ x ∈ m, Pr x) ∧ WS W m + 25 * last.length ≤ 25 * p.length
  | 0, l, r, h, l', r', h', e => by simp [rdMore] at e
  | n + 1, l, r, h, l', r', h', e => by
    unfold rdMore at e
    split at e
    · rename_i r2 e2
      obtain ⟨p2, hp2, _⟩ := takeS_true e2
      split at e
      · cases e
      · rename_i v r3 h3 e3
        obtain ⟨hv, p3, rfl, hw⟩ := h1 _ _ _ _ _ e3
        obtain ⟨m, p, hm, rfl, hall, hlen⟩ := rdMore_post h1 e
        refine ⟨v :: m, p2 ++ ([44] ++ (p3 ++ p)), by rw [hm]; simp, by rw [hp2]; simp, fun x hx => ?_, by simp [WS]; omega⟩
        rcases List.mem_cons.1 hx with rfl | hx
        · exact hv
        · exact hall x hx
    · rename_i r2 e2
      have := takeS_false e2
      subst this
      obtain ⟨p, hp⟩ := skipS_suf r
      split at e
      · rename_i r3 e3
        obtain ⟨p3, hp3, _⟩ := takeS_true e3
        injection e with e4 e5 e6
        subst e4 e5
        exact ⟨[], p ++ (p3 ++ last), by simp, by rw [hp, hp3]; simp, by simp, by simp [WS]; omega⟩
      · cases e
theorem rdFirst_post (h1 : ∀ r h v r' h', one r h = .ok v r' h' → Pr v ∧ ∃ p, r = p ++ r' ∧ W v ≤ 25 * p.length)
    {r : Str} {h : Bool} {l' : List α} {r' : Str} {h' : Bool} (e : rdFirst one last r h = .ok l' r' h') : ∃ p, r = p ++ r' ∧ (∀ x ∈ l', Pr x) ∧ WS W l' + 25 * last.length ≤ 25 * p.length + 4 := by
  unfold rdFirst at e
  split at e
  · cases e
  · rename_i v r3 h3 e3
    obtain ⟨hv, p3, rfl, hw⟩ := h1 _ _ _ _ _ e3
    obtain ⟨m, p, rfl, rfl, hall, hlen⟩ := rdMore_post h1 e
    refine ⟨p3 ++ p, by simp, fun x hx => ?_, by simp [WS]; omega⟩
    rcases List.mem_cons.1 hx with rfl | hx
    · exact hv
    · exact hall x hx
theorem rdList_post (h1 : ∀ r h v r' h', one r h = .ok v r' h' → Pr v ∧ ∃ p, r = p ++ r' ∧ W v ≤ 25 * p.length)
    {r : Str} {deep : Int} {h : Bool} {l' : List α} {r' : Str} {h' : Bool} (hl : 1 ≤ last.length) (e : rdList one last r deep h = .ok l' r' h') (hr : last.length ≤ r.length) : deep + 1 ≤ 24 ∧ ∃ p, r = p ++ r' ∧ (∀ x ∈ l', Pr x) ∧ WS W l' + 46 ≤ 25 * p.length := by
  unfold rdList at e
  split at e
  · cases e
  refine ⟨by omega, ?_⟩
  have er : r = r.take last.length ++ r.drop last.length := (List.take_append_drop ..).symm
  have el : (r.take last.length).length = last.length := by simp; omega
  split at e
  · rename_i r2 e2
    obtain ⟨p, hp, _⟩ := takeS_true e2
    injection e with e4 e5 e6
    subst e4 e5
    have er2 : r = r.take last.length ++ (p ++ (last ++ r2)) := by rw [← hp]; exact er
    exact ⟨r.take last.length ++ (p ++ last), er2.trans (by simp), by simp, by simp only [WS, List.length_append, el]; omega⟩
  · rename_i r2 e2
    have := takeS_false e2
    subst this
    obtain ⟨p, hp⟩ := skipS_suf (r.drop last.length)
    obtain ⟨p3, hp3, hall, hlen⟩ := rdFirst_post h1 e
    have er2 : r = r.take last.length ++ (p ++ (p3 ++ r')) := by rw [← hp3, ← hp]; exact er
    exact ⟨r.take last.length ++ (p ++ p3), er2.trans (by simp), hall, by simp only [List.length_append, el]; omega⟩
end
theorem TL_WS (l : List Val) : TL l ≤ WS shl l := by
  induction l with
  | nil => simp [TL, WS]
  | cons a l ih => simp only [TL, WS]; omega
theorem TP_WS (l : List VP) : TP l ≤ WS (fun p => shl p.1 + shl p.2) l := by
  induction l with
  | nil => simp [TP, WS]
  | cons a l ih => simp only [TP, WS]; omega
theorem setV_fit {l : List Val} (h : ∀ x ∈ l, Fit x) : Fit (setV l) := by
  have hl := FitL_iff.2 h
  unfold setV setA; split
  · refine ⟨rfl, by omega, canon_asc hl.hv, FitL_iff.2 fun a ha => h a ((canon_mem hl.hv a).1 ha)⟩
  · trivial
theorem funA_fit {k v : List Val} (hk : ∀ x ∈ k, Fit x) (hv : ∀ x ∈ v, Fit x) (hl : k.length = v.length) (ha : Asc k) : Fit (funA k v) := by
  unfold funA; split
  · exact ⟨rfl, by omega, hl, ha, FitL_iff.2 hk, FitL_iff.2 hv⟩
  · trivial
theorem canonP_sub {ps : List VP} (h : HvP ps) {p : VP} (hp : p ∈ canonP ps) : p ∈ ps := by
  obtain ⟨A, B, rfl, _⟩ := (canonP_mem h p).1 hp; simp
theorem funV_fit {k v : List Val} (hk : ∀ x ∈ k, Fit x) (hv : ∀ x ∈ v, Fit x) : Fit (funV k v) := by
  have hz : HvP (k.zip v) := fun p hp => (hk _ (List.of_mem_zip hp).1).hv
  refine funA_fit (fun x hx => ?_) (fun x hx => ?_) (by simp) ?_
  · obtain ⟨p, hp, rfl⟩ := List.mem_map.1 hx
    exact hk _ (List.of_mem_zip (canonP_sub hz hp)).1
  · obtain ⟨p, hp, rfl⟩ := List.mem_map.1 hx
    exact hv _ (List.of_mem_zip (canonP_sub hz hp)).2
  · exact List.pairwise_map.2 (canonP_asc hz)
theorem seqV_fit {l : List Val} (h : ∀ x ∈ l, Fit x) : Fit (seqV l) := by
  unfold seqV
  by_cases hw : 1 + wtL (nums l.length) + wtL l ≤ 1024
  · have h1 := HvL.nn (FitL_iff.2 h).hv
    have h2 : 0 ≤ wtL (nums l.length) := by
      have : HvL (nums l.length) := HvL_iff.2 fun a ha => by obtain ⟨k, _, rfl⟩ := List.mem_map.1 ha; trivial
      have := HvL.nn this; omega
    exact funA_fit (FitL_iff.1 (nums_fit (by omega))) h nums_len nums_asc
  · unfold funA; rw [if_neg hw]; trivial
theorem seqV_dp {l : List Val} {d : Nat} (h : ∀ x ∈ l, dpV x ≤ d) : dpV (seqV l) ≤ d + 1 := by
  unfold seqV funA; split
  · simp only [dpV]
    have h1 : dpL (nums l.length) ≤ d := dpL_le.2 fun a ha => by obtain ⟨k, _, rfl⟩ := List.mem_map.1 ha; simp [dpV]
    have h2 := dpL_le.2 h
    omega
  · simp [dpV]
theorem setV_dp {l : List Val} (hv : HvL l) {d : Nat} (h : ∀ x ∈ l, dpV x ≤ d) : dpV (setV l) ≤ d + 1 := by
  unfold setV setA; split
  · simp only [dpV]
    have h2 := (dpL_le (l := canon l)).2 fun a ha => h a ((canon_mem hv a).1 ha)
    omega
  · simp [dpV]
theorem funV_dp {k v : List Val} (hk : ∀ x ∈ k, Hv x) {d : Nat} (h1 : ∀ x ∈ k, dpV x ≤ d) (h2 : ∀ x ∈ v, dpV x ≤ d) : dpV (funV k v) ≤ d + 1 := by
  have hz : HvP (k.zip v) := fun p hp => hk _ (List.of_mem_zip hp).1
  unfold funV funA; split
  · simp only [dpV]
    have h3 := (dpL_le (l := (canonP (k.zip v)).map (·.1)) (d := d)).2 fun a ha => by
      obtain ⟨p, hp, rfl⟩ := List.mem_map.1 ha; exact h1 _ (List.of_mem_zip (canonP_sub hz hp)).1
    have h4 := (dpL_le (l := (canonP (k.zip v)).map (·.2)) (d := d)).2 fun a ha => by
      obtain ⟨p, hp, rfl⟩ := List.mem_map.1 ha; exact h2 _ (List.of_mem_zip (canonP_sub hz hp)).2
    omega
  · simp [dpV]
theorem seqV_shl (l : List Val) : shl (seqV l) ≤ WS shl l + 4 := by
  have h1 := joinS_TL l; have h2 := TL_WS l
  unfold seqV funA; split
  · show (showV (.fn _ _ _)).length ≤ _
    simp only [showV]
    have : seqK 1 (nums l.length) = true := by
      have : ∀ n (j : Nat), seqK ((j : Int) + 1) ((List.range n).map fun k : Nat => Val.num (((k + j : Nat) : Int) + 1)) = true := by
        intro n; induction n with
        | zero => intro j; simp [seqK]
        | succ n ih =>
          intro j
          rw [List.range_succ_eq_map]
          simp only [List.map_cons, List.map_map, seqK]
          have := ih (j + 1)
          simp only [Nat.zero_add, decide_true, Bool.true_and]
          have e : ((fun k : Nat => Val.num (((k + j : Nat) : Int) + 1)) ∘ Nat.succ) = fun k : Nat => Val.num (((k + (j + 1) : Nat) : Int) + 1) := by
            funext k; simp; omega
          rw [e]; simpa using this
      simpa [nums] using this l.length 0
    rw [if_pos this]; simp; omega
  · simp [shl, showV]
theorem setV_shl (l : List Val) : shl (setV l) ≤ WS shl l + 3 := by
  have := shl_setA (canon l); have := canon_TL l; have := TL_WS l
  unfold setV; omega
theorem map_zip (l : List VP) : (l.map (·.1)).zip (l.map (·.2)) = l := by
  induction l with
  | nil => rfl
  | cons a l ih => simp [ih]
theorem funV_shl (l : List VP) : shl (funV (l.map (·.1)) (l.map (·.2))) ≤ WS (fun p => shl p.1 + shl p.2) l + 4 := by
  unfold funV; rw [map_zip]
  have h1 := shl_funA ((canonP l).map (·.1)) ((canonP l).map (·.2))
  have h2 := TP_eq (canonP l); have h3 := canonP_TP l; have h4 := TP_WS l
  omega
theorem quoted_post : ∀ {t s r : Str}, quoted t = some (s, r) → t = s ++ 34 :: r ∧ TextOk s
  | [], s, r, h => by simp [quoted] at h
  | c :: t, s, r, h => by
    simp only [quoted] at h
    split at h
    · rename_i hc
      split at h
      · rename_i h0; subst h0; simp at h; obtain ⟨rfl, rfl⟩ := h; exact ⟨by simp, fun c hc => by cases hc⟩
      · rename_i h0
        split at h
        · rename_i s' r' e
          simp at h; obtain ⟨rfl, rfl⟩ := h
          obtain ⟨e1, e2⟩ := quoted_post e
          refine ⟨by rw [e1]; simp, fun x hx => ?_⟩
          rcases List.mem_cons.1 hx with rfl | hx
          · unfold textB at hc; simp at hc; exact ⟨hc.1.1, hc.1.2, hc.2, h0⟩
          · exact e2 x hx
        · cases h
    · cases h
theorem showInt_len (n : Int) : (showInt n).length ≤ 21 := by
  unfold showInt; have := digs_len 20 n.natAbs; split <;> simp <;> omega
theorem rdWord_post {r w rest : Str} {minus h : Bool} {v : Val} {r' : Str} {h' : Bool} {q : Str} {deep : Int} (hd : deep ≤ 24) (hr : r = q ++ (w ++ rest)) (hw : ∀ c ∈ w, wordB c = true) (e : rdWord r w rest minus h = .ok v r' h') : Rd deep r v r' := by
  unfold rdWord at e
  split at e
  · cases e
  · rename_i c w'
    have tk : ∀ v : Val, shl v ≤ 25 → ∃ p, r = p ++ rest ∧ 1 ≤ p.length ∧ shl v ≤ 25 * p.length := fun v hv => ⟨q ++ (c :: w'), by rw [hr]; simp, by simp; omega, by simp; omega⟩
    split at e
    · unfold rdNum at e
      split at e
      · split at e
        · rename_i hn
          injection e with e1 e2 e3
          subst e1 e2
          refine ⟨?_, by simp [dpV]; omega, tk _ ?_⟩
          · show I64 _
            unfold I64
            split <;> rcases hn with hn | hn <;> simp_all <;> omega
          · unfold shl; simp only [showV]; have := showInt_len (if minus = true then -(natD 0 (c :: w') : Int) else natD 0 (c :: w')); omega
        · cases e
      · cases e
    · rename_i hdg
      split at e
      · cases e
      · rename_i hm
        split at e
        · injection e with e1 e2 e3; subst e1 e2; exact ⟨trivial, by simp [dpV]; omega, tk _ (by simp [shl, showV])⟩
        · split at e
          · injection e with e1 e2 e3; subst e1 e2; exact ⟨trivial, by simp [dpV]; omega, tk _ (by simp [shl, showV])⟩
          · split at e
            · injection e with e1 e2 e3; subst e1 e2; exact ⟨trivial, by simp [dpV]; omega, tk _ (by simp [shl, showV])⟩
            · split at e
              · cases e
              · rename_i hwd
                split at e
                · cases e
                · rename_i hl
                  injection e with e1 e2 e3; subst e1 e2
                  refine ⟨⟨⟨c, w', rfl, fun h2 => hdg (by simp [isDig, h2.1, h2.2]), fun h2 => hm (by simp [h2])⟩, hw, by omega, hwd⟩, by simp [dpV]; omega, tk _ ?_⟩
                  simp only [shl, showV]; omega
theorem rdSingle_post {r : Str} {h : Bool} {v : Val} {r' : Str} {h' : Bool} {deep : Int} (hd : deep ≤ 24) (e : rdSingle r h = .ok v r' h') : Rd deep r v r' := by
  unfold rdSingle at e
  split at e
  · rename_i h1
    split at e
    · rename_i s t e2
      injection e with e3 e4 e5; subst e3 e4
      obtain ⟨e6, e7⟩ := quoted_post e2
      have er : r = [34] ++ (s ++ [34] ++ t) := by
        conv => lhs; rw [← List.take_append_drop 1 r, h1, e6]
        simp
      refine ⟨e7, by simp [dpV]; omega, [34] ++ (s ++ [34]), by rw [er]; simp, by simp, by simp [shl, showV]; omega⟩
    · cases e
  · have hw : ∀ l : Str, ∀ c ∈ l.takeWhile wordB, wordB c = true := fun l c hc => by
      have := List.all_takeWhile (p := wordB) (l := l)
      exact List.all_eq_true.1 this c hc
    split at e
    · rename_i h1
      refine rdWord_post hd (q := [45]) ?_ (hw _) e
      rw [List.takeWhile_append_dropWhile]
      conv => lhs; rw [← List.take_append_drop 1 r, h1]
    · exact rdWord_post hd (q := []) (by rw [List.takeWhile_append_dropWhile, List.nil_append]) (hw _) e
theorem take_pos {r : Str} {n : Nat} {l : Str} (h : r.take n = l) : l.length ≤ r.length := by
  rw [← h]; simp; omega
theorem rdV_post : ∀ {f : Nat} {r : Str} {deep : Int} {h : Bool} {v : Val} {r' : Str} {h' : Bool}, deep ≤ 24 → rdV f r deep h = .ok v r' h' → Rd deep r v r'
  | 0, r, deep, h, v, r', h', hd, e => by simp [rdV] at e
  | f + 1, r0, deep, h, v, r', h', hd, e => by
    obtain ⟨p0, hp0⟩ := skipS_suf r0
    unfold rdV at e
    simp only at e
    revert hp0 e
    generalize skipS r0 = r
    intro hp0 e
    subst hp0
    have one : deep + 1 ≤ 24 → ∀ r h v r' h', rdV f r (deep + 1) h = .ok v r' h' → (Fit v ∧ (dpV v : Int) + (deep + 1) ≤ 24) ∧ ∃ p, r = p ++ r' ∧ shl v ≤ 25 * p.length := fun hd r h v r' h' e => by
      have := rdV_post hd e
      obtain ⟨p, h1, h2, h3⟩ := this.took
      exact ⟨⟨this.fit, this.deep⟩, p, h1, h3⟩
    have dn : ∀ {l : List Val}, deep + 1 ≤ 24 → (∀ x ∈ l, Fit x ∧ (dpV x : Int) + (deep + 1) ≤ 24) → ∀ x ∈ l, dpV x ≤ (24 - (deep + 1)).toNat := fun hd2 hx x hm => by have := (hx x hm).2; omega
    split at e
    · rename_i h1
      split at e
      · cases e
      · rename_i l r1 h1' e1
        have hd2 : deep + 1 ≤ 24 := by unfold rdList at e1; split at e1 <;> first | (cases e1; done) | omega
        obtain ⟨_, p, rfl, hall, hlen⟩ := rdList_post (one hd2) (by simp) e1 (by have := take_pos h1; simpa using this)
        unfold weigh at e; injection e with e3 e4 e5; subst e3 e4
        have hF := fun x hx => (hall x hx).1
        have d1 := setV_dp (FitL_iff.2 hF).hv (dn hd2 hall)
        have s1 := setV_shl l
        exact ⟨setV_fit hF, by omega, p0 ++ p, by simp, by simp; omega, by simp; omega⟩
    · split at e
      · rename_i h1
        split at e
        · cases e
        · rename_i l r1 h1' e1
          have hd2 : deep + 1 ≤ 24 := by unfold rdList at e1; split at e1 <;> first | (cases e1; done) | omega
          obtain ⟨_, p, rfl, hall, hlen⟩ := rdList_post (one hd2) (by simp) e1 (by have := take_pos h1; simpa using this)
          unfold weigh at e; injection e with e3 e4 e5; subst e3 e4
          have hF := fun x hx => (hall x hx).1
          have d1 := seqV_dp (dn hd2 hall)
          have s1 := seqV_shl l
          exact ⟨seqV_fit hF, by omega, p0 ++ p, by simp, by simp; omega, by simp; omega⟩
      · split at e
        · rename_i h1
          split at e
          · cases e
          · rename_i l r1 h1' e1
            unfold rdPairs at e1
            split at e1
            · cases e1
            rename_i hd2
            have pr : ∀ r h v r' h', rdPair (fun r h => rdV f r (deep + 1) h) r h = .ok v r' h' → ((Fit v.1 ∧ (dpV v.1 : Int) + (deep + 1) ≤ 24) ∧ (Fit v.2 ∧ (dpV v.2 : Int) + (deep + 1) ≤ 24)) ∧ ∃ p, r = p ++ r' ∧ shl v.1 + shl v.2 ≤ 25 * p.length := fun r h v r' h' e => by
              unfold rdPair at e
              split at e
              · cases e
              · rename_i k r1 h1 e1
                split at e
                · cases e
                · rename_i r2 e2
                  split at e
                  · cases e
                  · rename_i w r3 h3 e3
                    injection e with e4 e5 e6; subst e4 e5
                    obtain ⟨a1, p1, rfl, b1⟩ := one (by omega) _ _ _ _ _ e1
                    obtain ⟨p2, rfl, _⟩ := takeS_true e2
                    obtain ⟨a3, p3, rfl, b3⟩ := one (by omega) _ _ _ _ _ e3
                    exact ⟨⟨a1, a3⟩, p1 ++ (p2 ++ ([58] ++ p3)), by simp, by simp; omega⟩
            obtain ⟨p, hp, hall, hlen⟩ := rdFirst_post (W := fun p : VP => shl p.1 + shl p.2) pr e1
            unfold weigh at e; injection e with e3 e4 e5; subst e3 e4
            have er : r = [91] ++ (p ++ r1) := by conv => lhs; rw [← List.take_append_drop 1 r, h1, hp]
            have k1 : ∀ x ∈ l.map (·.1), Fit x ∧ (dpV x : Int) + (deep + 1) ≤ 24 := fun x hx => by obtain ⟨q, hq, rfl⟩ := List.mem_map.1 hx; exact (hall q hq).1
            have k2 : ∀ x ∈ l.map (·.2), Fit x ∧ (dpV x : Int) + (deep + 1) ≤ 24 := fun x hx => by obtain ⟨q, hq, rfl⟩ := List.mem_map.1 hx; exact (hall q hq).2
            have d1 := funV_dp (fun x hx => (k1 x hx).1.hv) (dn (by omega) k1) (dn (by omega) k2)
            have s1 := funV_shl l
            simp at hlen
            exact ⟨funV_fit (fun x hx => (k1 x hx).1) (fun x hx => (k2 x hx).1), by omega, p0 ++ ([91] ++ p), by rw [er]; simp, by simp; omega, by simp; omega⟩
        · have := rdSingle_post hd e
          obtain ⟨p, rfl, h2, h3⟩ := this.took
          exact ⟨this.fit, this.deep, p0 ++ p, by simp, by simp; omega, by simp; omega⟩
end Go.Vc
