/- Plain facts on texts as lists of bytes: words, places, letters; no program in sight. -/
namespace Go.Proofs.Ytmcjnhbabmajhaa.Lex

/-! ### texts as lists of bytes -/
def blank (c : UInt8) : Bool := decide (c.toNat ≤ 32)
def solid (c : UInt8) : Bool := decide (32 < c.toNat)
theorem solid_eq (c : UInt8) : solid c = !blank c := by
  unfold solid blank
  by_cases h : c.toNat ≤ 32
  · simp [h]
  · simp [h]; omega

def nb (l : List UInt8) : Nat := (l.takeWhile blank).length
def nw (l : List UInt8) : Nat := (l.takeWhile solid).length
def lst (s : ByteArray) : List UInt8 := s.data.toList
theorem lst_length (s : ByteArray) : (lst s).length = s.size := by simp [lst]
def bl (s : ByteArray) (k : Nat) : Nat := k + nb ((lst s).drop k)
def en (s : ByteArray) (k : Nat) : Nat := k + nw ((lst s).drop k)
def st (s : ByteArray) (i : Int) : Nat := if i < 0 ∨ (s.size : Int) < i then s.size else i.toNat
def wa (s : ByteArray) (k : Nat) : ByteArray := s.extract (bl s k) (en s (bl s k))
def na (s : ByteArray) (k : Nat) : Nat := min (en s (bl s k) + 1) s.size

theorem st_le (s : ByteArray) (i : Int) : st s i ≤ s.size := by unfold st; split <;> omega
theorem nb_le (l : List UInt8) : nb l ≤ l.length := List.Sublist.length_le (List.takeWhile_sublist _)
theorem nw_le (l : List UInt8) : nw l ≤ l.length := List.Sublist.length_le (List.takeWhile_sublist _)
theorem bl_ge (s : ByteArray) (k : Nat) : k ≤ bl s k := by unfold bl; omega
theorem en_ge (s : ByteArray) (k : Nat) : k ≤ en s k := by unfold en; omega
theorem bl_le (s : ByteArray) (k : Nat) (h : k ≤ s.size) : bl s k ≤ s.size := by
  unfold bl; have := nb_le ((lst s).drop k); rw [List.length_drop, lst_length] at this; omega
theorem en_le (s : ByteArray) (k : Nat) (h : k ≤ s.size) : en s k ≤ s.size := by
  unfold en; have := nw_le ((lst s).drop k); rw [List.length_drop, lst_length] at this; omega

theorem drop_cons (s : ByteArray) (k : Nat) (h : k < s.size) : (lst s).drop k = s[k] :: (lst s).drop (k + 1) := by
  have h' : k < (lst s).length := by rw [lst_length]; exact h
  rw [List.drop_eq_getElem_cons h']; rfl
theorem drop_end (s : ByteArray) (k : Nat) (h : s.size ≤ k) : (lst s).drop k = [] := by
  apply List.drop_eq_nil_of_le; rw [lst_length]; exact h

theorem bl_step (s : ByteArray) (k : Nat) (h : k < s.size) (hc : (s[k].toNat : Int) ≤ 32) : bl s (k + 1) = bl s k := by
  have hb : blank s[k] = true := by unfold blank; simp; omega
  unfold bl nb; rw [drop_cons s k h, List.takeWhile_cons, hb]; simp; omega
theorem bl_stop (s : ByteArray) (k : Nat) (h : k < s.size) (hc : 32 < (s[k].toNat : Int)) : bl s k = k := by
  have hb : blank s[k] = false := by unfold blank; simp; omega
  unfold bl nb; rw [drop_cons s k h, List.takeWhile_cons, hb]; simp
theorem bl_end (s : ByteArray) (k : Nat) (h : s.size ≤ k) : bl s k = k := by
  unfold bl nb; rw [drop_end s k h]; simp
theorem en_step (s : ByteArray) (k : Nat) (h : k < s.size) (hc : 32 < (s[k].toNat : Int)) : en s (k + 1) = en s k := by
  have hb : solid s[k] = true := by unfold solid; simp; omega
  unfold en nw; rw [drop_cons s k h, List.takeWhile_cons, hb]; simp; omega
theorem en_stop (s : ByteArray) (k : Nat) (h : k < s.size) (hc : (s[k].toNat : Int) ≤ 32) : en s k = k := by
  have hb : solid s[k] = false := by unfold solid; simp; omega
  unfold en nw; rw [drop_cons s k h, List.takeWhile_cons, hb]; simp
theorem en_end (s : ByteArray) (k : Nat) (h : s.size ≤ k) : en s k = k := by
  unfold en nw; rw [drop_end s k h]; simp

/-! ### words of a list -/
def wl (cur : List UInt8) : List UInt8 → List (List UInt8)
  | [] => if cur.isEmpty then [] else [cur]
  | c :: r => if blank c then (if cur.isEmpty then wl [] r else cur :: wl [] r) else wl (cur ++ [c]) r

theorem wl_app (l t : List UInt8) : ∀ cur, wl cur (l ++ 32 :: t) = wl cur l ++ wl [] t := by
  induction l with
  | nil => intro cur; simp [wl, blank]; split <;> simp
  | cons c r ih => intro cur; simp only [List.cons_append, wl]; split <;> simp [ih]; split <;> simp

theorem wl_solid (w r : List UInt8) (h : ∀ c ∈ w, blank c = false) : ∀ cur, wl cur (w ++ r) = wl (cur ++ w) r := by
  induction w with
  | nil => intro cur; simp
  | cons c w ih =>
    intro cur
    simp only [List.cons_append, wl, h c (by simp)]
    rw [if_neg (by simp), ih (fun x hx => h x (by simp [hx]))]; simp

theorem wl_blanks (w r : List UInt8) (h : ∀ c ∈ w, blank c = true) : wl [] (w ++ r) = wl [] r := by
  induction w with
  | nil => simp
  | cons c w ih =>
    simp only [List.cons_append, wl, h c (by simp)]
    simp; exact ih (fun x hx => h x (by simp [hx]))

theorem wl_good (l : List UInt8) : ∀ cur, (∀ c ∈ cur, blank c = false) → ∀ w ∈ wl cur l, w ≠ [] ∧ ∀ c ∈ w, blank c = false := by
  induction l with
  | nil =>
    intro cur hc w hw
    simp only [wl] at hw
    split at hw
    · simp at hw
    · rename_i he; simp at hw; subst hw; exact ⟨by intro e; subst e; simp at he, hc⟩
  | cons c r ih =>
    intro cur hc w hw
    simp only [wl] at hw
    split at hw
    · split at hw
      · exact ih [] (by simp) w hw
      · rename_i he
        rcases List.mem_cons.1 hw with rfl | hw
        · exact ⟨by intro e; subst e; simp at he, hc⟩
        · exact ih [] (by simp) w hw
    · rename_i hb
      refine ih _ ?_ w hw
      intro x hx
      rcases List.mem_append.1 hx with hx | hx
      · exact hc x hx
      · simp at hx; subst hx; simpa using hb

/-- the words, laid with a blank ahead of each -/
def lay (ws : List (List UInt8)) : List UInt8 := ws.flatMap (fun w => 32 :: w)
theorem lay_snoc (ws : List (List UInt8)) (w : List UInt8) : lay (ws ++ [w]) = lay ws ++ (32 :: w) := by simp [lay]

theorem wl_word (w : List UInt8) (h0 : w ≠ []) (h : ∀ c ∈ w, blank c = false) (ws : List (List UInt8)) : wl [] (w ++ lay ws) = w :: wl [] (lay ws) := by
  rw [wl_solid w _ h]
  cases ws with
  | nil => simp [lay, wl, h0]
  | cons v ws => simp [lay, wl, blank, h0]

theorem wl_lay : ∀ ws : List (List UInt8), (∀ w ∈ ws, w ≠ [] ∧ ∀ c ∈ w, blank c = false) → wl [] (lay ws) = ws
  | [], _ => by simp [lay, wl]
  | w :: ws, h => by
    have e : lay (w :: ws) = [32] ++ (w ++ lay ws) := by simp [lay]
    rw [e, wl_blanks [32] _ (by simp [blank]), wl_word w (h w (by simp)).1 (h w (by simp)).2, wl_lay ws (fun x hx => h x (by simp [hx]))]

theorem wl_count (l : List UInt8) : ∀ cur, ((wl cur l).map List.length).sum = cur.length + l.countP solid := by
  induction l with
  | nil => intro cur; simp only [wl]; split <;> simp_all
  | cons c r ih =>
    intro cur
    simp only [wl, List.countP_cons, solid_eq]
    split
    · rename_i hb
      split
      · rename_i he; simp_all
      · simp_all
    · rename_i hb
      simp_all; omega

theorem lay_length (ws : List (List UInt8)) : (lay ws).length = (ws.map List.length).sum + ws.length := by
  induction ws with
  | nil => simp [lay]
  | cons w ws ih => simp [lay] at ih ⊢; omega

/-! ### words of a text, one by one -/
def wf (s : ByteArray) : Nat → Nat → List ByteArray
  | 0, _ => []
  | f + 1, k => if (wa s k).size = 0 then [] else wa s k :: wf s f (na s k)
def ws (s : ByteArray) : List ByteArray := wf s (s.size + 1) 0

theorem lst_extract (s : ByteArray) (a e : Nat) : lst (s.extract a e) = ((lst s).drop a).take (e - a) := by
  unfold lst; rw [ByteArray.data_extract, Array.toList_extract]

theorem drop_nb (l : List UInt8) : l.drop (nb l) = l.dropWhile blank := by
  unfold nb
  induction l with
  | nil => rfl
  | cons c r ih =>
    by_cases h : blank c = true
    · simp [h, ih]
    · simp [h]
theorem drop_nw (l : List UInt8) : l.drop (nw l) = l.dropWhile solid := by
  unfold nw
  induction l with
  | nil => rfl
  | cons c r ih =>
    by_cases h : solid c = true
    · simp [h, ih]
    · simp [h]
theorem take_nw (l : List UInt8) : l.take (nw l) = l.takeWhile solid := by
  unfold nw
  induction l with
  | nil => rfl
  | cons c r ih =>
    by_cases h : solid c = true
    · simp [h, ih]
    · simp [h]

theorem lst_wa (s : ByteArray) (k : Nat) : lst (wa s k) = (((lst s).drop k).dropWhile blank).takeWhile solid := by
  unfold wa
  rw [lst_extract]
  have e : en s (bl s k) - bl s k = nw ((lst s).drop (bl s k)) := by unfold en; omega
  rw [e, take_nw]
  have e2 : (lst s).drop (bl s k) = ((lst s).drop k).drop (nb ((lst s).drop k)) := by unfold bl; rw [List.drop_drop]
  rw [e2, drop_nb]

theorem drop_na (s : ByteArray) (k : Nat) : (lst s).drop (na s k) = ((((lst s).drop k).dropWhile blank).dropWhile solid).drop 1 := by
  have e2 : (lst s).drop (bl s k) = ((lst s).drop k).dropWhile blank := by rw [← drop_nb]; unfold bl; rw [List.drop_drop]
  have e3 : (lst s).drop (en s (bl s k)) = ((lst s).drop (bl s k)).dropWhile solid := by rw [← drop_nw]; unfold en; rw [List.drop_drop]
  rw [← e2, ← e3, List.drop_drop]
  unfold na
  by_cases h : en s (bl s k) + 1 ≤ s.size
  · rw [Nat.min_eq_left h]
  · rw [Nat.min_eq_right (by omega), drop_end s _ (Nat.le_refl _), drop_end s _ (by omega)]

theorem head_dropWhile (p : UInt8 → Bool) (l : List UInt8) (c : UInt8) (r : List UInt8) (h : l.dropWhile p = c :: r) : p c = false := by
  induction l with
  | nil => simp at h
  | cons a l ih =>
    rw [List.dropWhile_cons] at h
    split at h
    · exact ih h
    · simp only [List.cons.injEq] at h; obtain ⟨rfl, _⟩ := h; simp_all

theorem mem_takeWhile (p : UInt8 → Bool) (l : List UInt8) : ∀ c ∈ l.takeWhile p, p c = true := by
  induction l with
  | nil => simp
  | cons a l ih =>
    intro c hc
    rw [List.takeWhile_cons] at hc
    split at hc
    · rcases List.mem_cons.1 hc with rfl | hc
      · assumption
      · exact ih c hc
    · simp at hc

theorem wl_unfold (l : List UInt8) : wl [] l = if (l.dropWhile blank).takeWhile solid = [] then [] else (l.dropWhile blank).takeWhile solid :: wl [] (((l.dropWhile blank).dropWhile solid).drop 1) := by
  have e1 : l = l.takeWhile blank ++ l.dropWhile blank := (List.takeWhile_append_dropWhile).symm
  have e2 : wl [] l = wl [] (l.dropWhile blank) := by
    conv => lhs; rw [e1]
    exact wl_blanks _ _ (mem_takeWhile _ _)
  rw [e2]
  have hh := head_dropWhile blank l
  generalize l.dropWhile blank = m at *
  have e3 : m = m.takeWhile solid ++ m.dropWhile solid := (List.takeWhile_append_dropWhile).symm
  have hs := mem_takeWhile solid m
  have hs' : ∀ c ∈ m.takeWhile solid, blank c = false := fun c hc => by have := hs c hc; rw [solid_eq] at this; simpa using this
  by_cases hw : m.takeWhile solid = []
  · rw [if_pos hw]
    cases m with
    | nil => simp [wl]
    | cons c r =>
      have hb := hh c r rfl
      rw [List.takeWhile_cons, solid_eq, hb] at hw
      simp at hw
  · rw [if_neg hw]
    conv => lhs; rw [e3]
    rw [wl_solid _ _ hs']
    have hd := head_dropWhile solid m
    cases hr : m.dropWhile solid with
    | nil => simp [wl, hw]
    | cons c r =>
      have hb := hd c r hr
      rw [solid_eq] at hb
      simp at hb
      simp [wl, hw, hb]

theorem size_wa (s : ByteArray) (k : Nat) : (wa s k).size = 0 ↔ lst (wa s k) = [] := by
  rw [← lst_length]; exact List.length_eq_zero_iff

theorem wa_size (s : ByteArray) (k : Nat) (hk : k ≤ s.size) : (wa s k).size = en s (bl s k) - bl s k := by
  unfold wa; rw [ByteArray.size_extract, Nat.min_eq_left (en_le s _ (bl_le s k hk))]

theorem na_le (s : ByteArray) (k : Nat) : na s k ≤ s.size := by unfold na; omega
theorem na_gt (s : ByteArray) (k : Nat) (hk : k ≤ s.size) (h : (wa s k).size ≠ 0) : k < na s k := by
  rw [wa_size s k hk] at h
  have h1 := bl_ge s k
  have h2 := en_le s _ (bl_le s k hk)
  unfold na; omega
theorem na_end (s : ByteArray) (k : Nat) (hk : k ≤ s.size) (h : (wa s k).size = 0) : na s k = s.size := by
  have e := (size_wa s k).1 h
  rw [lst_wa] at e
  have e4 : bl s k = s.size := by
    have h1 := bl_le s k hk
    by_cases hlt : bl s k < s.size
    · exfalso
      have e2 : (lst s).drop (bl s k) = ((lst s).drop k).dropWhile blank := by rw [← drop_nb]; unfold bl; rw [List.drop_drop]
      rw [drop_cons s _ hlt] at e2
      have hb := head_dropWhile blank _ _ _ e2.symm
      rw [← e2, List.takeWhile_cons, solid_eq, hb] at e
      simp at e
    · omega
  unfold na; rw [e4, en_end s _ (Nat.le_refl _)]; omega

theorem wf_list (s : ByteArray) : ∀ (f k : Nat), k ≤ s.size → s.size < f + k → (wf s f k).map lst = wl [] ((lst s).drop k)
  | 0, k, hk, hf => by omega
  | f + 1, k, hk, hf => by
    rw [wl_unfold, ← lst_wa, ← drop_na]
    simp only [wf]
    by_cases h : (wa s k).size = 0
    · rw [if_pos h, if_pos ((size_wa s k).1 h)]; rfl
    · rw [if_neg h, if_neg (fun e => h ((size_wa s k).2 e))]
      have := na_gt s k hk h
      rw [List.map_cons, wf_list s f (na s k) (na_le s k) (by omega)]

theorem ws_list (s : ByteArray) : (ws s).map lst = wl [] (lst s) := by
  have := wf_list s (s.size + 1) 0 (by omega) (by omega)
  simpa [ws] using this

theorem wf_step (s : ByteArray) (f k : Nat) (hk : k ≤ s.size) (hf : s.size < f + k) (h : (wa s k).size ≠ 0) : ∃ g, s.size < g + na s k ∧ wf s f k = wa s k :: wf s g (na s k) := by
  cases f with
  | zero => omega
  | succ f => have := na_gt s k hk h; exact ⟨f, by omega, by simp only [wf]; rw [if_neg h]⟩
theorem wf_stop (s : ByteArray) (f k : Nat) (h : (wa s k).size = 0) : wf s f k = [] := by
  cases f with
  | zero => rfl
  | succ f => simp only [wf]; rw [if_pos h]

theorem lst_inj {a b : ByteArray} (h : lst a = lst b) : a = b := by
  cases a; cases b; unfold lst at h; simp at h; cases h; rfl
theorem map_lst_inj : ∀ {a b : List ByteArray}, a.map lst = b.map lst → a = b
  | [], [], _ => rfl
  | [], _ :: _, h => by simp at h
  | _ :: _, [], h => by simp at h
  | x :: a, y :: b, h => by
    simp only [List.map_cons, List.cons.injEq] at h
    rw [lst_inj h.1, map_lst_inj h.2]

/-! ### a text from a place on -/
theorem lst_tail (s : ByteArray) (a : Nat) : lst (s.extract a s.size) = (lst s).drop a := by
  rw [lst_extract]
  apply List.take_of_length_le
  rw [List.length_drop, lst_length]; exact Nat.le_refl _
theorem size_tail (s : ByteArray) (a : Nat) : (s.extract a s.size).size = s.size - a := by
  rw [← lst_length, lst_tail, List.length_drop, lst_length]
theorem bl_tail (s : ByteArray) (a k : Nat) : bl (s.extract a s.size) k + a = bl s (k + a) := by
  unfold bl; rw [lst_tail, List.drop_drop, Nat.add_comm a k]; omega
theorem en_tail (s : ByteArray) (a k : Nat) : en (s.extract a s.size) k + a = en s (k + a) := by
  unfold en; rw [lst_tail, List.drop_drop, Nat.add_comm a k]; omega
theorem wa_tail (s : ByteArray) (a : Nat) : wa (s.extract a s.size) 0 = wa s a := by
  apply lst_inj; rw [lst_wa, lst_wa, lst_tail]; simp
theorem na_tail (s : ByteArray) (a : Nat) (h : a ≤ s.size) : na (s.extract a s.size) 0 + a = na s a := by
  unfold na
  have h1 := bl_tail s a 0
  have h2 := en_tail s a (bl (s.extract a s.size) 0)
  rw [h1, Nat.zero_add] at h2
  rw [size_tail]; omega

/-! ### all words -/
theorem ws_good (s : ByteArray) : ∀ w ∈ ws s, w.size ≠ 0 ∧ ∀ (k : Nat) (h : k < w.size), 32 < w[k].toNat := by
  intro w hw
  have hm : lst w ∈ wl [] (lst s) := by rw [← ws_list]; exact List.mem_map_of_mem hw
  obtain ⟨h1, h2⟩ := wl_good (lst s) [] (by simp) _ hm
  refine ⟨fun e => h1 (List.length_eq_zero_iff.1 (by rw [lst_length]; exact e)), fun k h => ?_⟩
  have hk : k < (lst w).length := by rw [lst_length]; exact h
  have hb := h2 (lst w)[k] (List.getElem_mem hk)
  have e : (lst w)[k] = w[k] := rfl
  rw [e] at hb
  unfold blank at hb
  simp at hb; exact hb
theorem ws_lay (s a : ByteArray) (h : lst a = lay ((ws s).map lst)) : ws a = ws s := by
  apply map_lst_inj
  rw [ws_list, h, ws_list, wl_lay]
  exact wl_good _ [] (by simp)
theorem lst_append (a b : ByteArray) : lst (a ++ b) = lst a ++ lst b := by
  unfold lst; rw [ByteArray.data_append, Array.toList_append]
theorem ws_app (s b t : ByteArray) (h : lst b = [32]) : ws (s ++ b ++ t) = ws s ++ ws t := by
  apply map_lst_inj
  rw [List.map_append, ws_list, ws_list, ws_list, lst_append, lst_append, h]
  have e : lst s ++ [32] ++ lst t = lst s ++ 32 :: lst t := by simp
  rw [e, wl_app]
theorem ws_count (s : ByteArray) : (lay ((ws s).map lst)).length = (lst s).countP solid + (ws s).length := by
  rw [lay_length, ws_list, wl_count]
  have := congrArg List.length (ws_list s)
  rw [List.length_map] at this
  simp [this]
theorem ws_sum (s : ByteArray) : ((ws s).map ByteArray.size).sum = (lst s).countP solid := by
  have h := wl_count (lst s) []
  rw [← ws_list, List.map_map] at h
  have e : (List.length ∘ lst) = ByteArray.size := by funext x; exact lst_length x
  rw [e] at h; simpa using h
theorem ws_length (s : ByteArray) : (ws s).length ≤ s.size := by
  have h1 := ws_sum s
  have h2 : ∀ l : List ByteArray, (∀ w ∈ l, w.size ≠ 0) → l.length ≤ (l.map ByteArray.size).sum := by
    intro l
    induction l with
    | nil => simp
    | cons a l ih =>
      intro h
      have h3 := ih (fun w hw => h w (by simp [hw]))
      have h4 := h a (by simp)
      simp; omega
  have h3 := h2 (ws s) (fun w hw => (ws_good s w hw).1)
  have h4 : (lst s).countP solid ≤ (lst s).length := List.countP_le_length
  rw [lst_length] at h4; omega

/-! ### up to a sign -/
def fc (l : List UInt8) (c : UInt8) : Nat := (l.takeWhile (fun b => b != c)).length
theorem fc_le (l : List UInt8) (c : UInt8) : fc l c ≤ l.length := List.Sublist.length_le (List.takeWhile_sublist _)
/-- the place of the first sign from a place on, or the end -/
def ua (s : ByteArray) (k : Nat) (c : UInt8) : Nat := k + fc ((lst s).drop k) c
def uw (s : ByteArray) (k : Nat) (c : UInt8) : ByteArray := s.extract k (ua s k c)
def un (s : ByteArray) (k : Nat) (c : UInt8) : Nat := if ua s k c < s.size then ua s k c + 1 else s.size
def ub (s : ByteArray) (k : Nat) (c : UInt8) : Bool := decide (ua s k c < s.size)
theorem ua_ge (s : ByteArray) (k : Nat) (c : UInt8) : k ≤ ua s k c := by unfold ua; omega
theorem ua_le (s : ByteArray) (k : Nat) (c : UInt8) (h : k ≤ s.size) : ua s k c ≤ s.size := by
  unfold ua; have := fc_le ((lst s).drop k) c; rw [List.length_drop, lst_length] at this; omega
theorem ua_step (s : ByteArray) (k : Nat) (c : UInt8) (h : k < s.size) (hc : s[k] ≠ c) : ua s (k + 1) c = ua s k c := by
  unfold ua fc; rw [drop_cons s k h, List.takeWhile_cons]; simp [hc]; omega
theorem ua_stop (s : ByteArray) (k : Nat) (c : UInt8) (h : k < s.size) (hc : s[k] = c) : ua s k c = k := by
  unfold ua fc; rw [drop_cons s k h, List.takeWhile_cons]; simp [hc]
theorem ua_end (s : ByteArray) (k : Nat) (c : UInt8) (h : s.size ≤ k) : ua s k c = k := by
  unfold ua fc; rw [drop_end s k h]; simp
theorem ua_none (s : ByteArray) (k : Nat) (c : UInt8) (n : Nat) (h0 : k ≤ n) (h1 : n < ua s k c) (h2 : n < s.size) : s[n] ≠ c := by
  have hl : n - k < (((lst s).drop k).takeWhile (fun b => b != c)).length := by unfold ua fc at h1; omega
  have hp := mem_takeWhile _ _ _ (List.getElem_mem hl)
  have hs : (((lst s).drop k).takeWhile (fun b => b != c)) <+: (lst s).drop k := List.takeWhile_prefix _
  rw [List.IsPrefix.getElem hs, List.getElem_drop] at hp
  have e : k + (n - k) = n := by omega
  simp only [e] at hp
  have e2 : (lst s)[n]'(by rw [lst_length]; exact h2) = s[n] := rfl
  rw [e2] at hp
  simpa using hp
theorem ua_at (s : ByteArray) (k : Nat) (c : UInt8) (h : ua s k c < s.size) : s[ua s k c] = c := by
  have hd := drop_cons s (ua s k c) h
  have e : (lst s).drop (ua s k c) = ((lst s).drop k).dropWhile (fun b => b != c) := by
    have : ∀ l : List UInt8, l.drop (fc l c) = l.dropWhile (fun b => b != c) := by
      intro l
      unfold fc
      induction l with
      | nil => rfl
      | cons a l ih =>
        by_cases ha : (a != c) = true
        · rw [List.takeWhile_cons, if_pos ha, List.dropWhile_cons, if_pos ha]; simpa using ih
        · rw [List.takeWhile_cons, if_neg ha, List.dropWhile_cons, if_neg ha]; simp
    rw [← this]; unfold ua; rw [List.drop_drop]
  rw [hd] at e
  have := head_dropWhile (fun b => b != c) _ _ _ e.symm
  simpa using this
theorem ua_tail (s : ByteArray) (a : Nat) (c : UInt8) : ua (s.extract a s.size) 0 c + a = ua s a c := by
  unfold ua; rw [lst_tail]; simp; omega

/-! ### great letters -/
def up (c : UInt8) : UInt8 := if 97 ≤ c.toNat ∧ c.toNat ≤ 122 then c - 32 else c
def upper (s : ByteArray) : ByteArray := ⟨((lst s).map up).toArray⟩
theorem lst_upper (s : ByteArray) : lst (upper s) = (lst s).map up := by simp [lst, upper]
theorem size_upper (s : ByteArray) : (upper s).size = s.size := by rw [← lst_length, lst_upper, List.length_map, lst_length]
theorem up_toNat (c : UInt8) : (up c).toNat = if 97 ≤ c.toNat ∧ c.toNat ≤ 122 then c.toNat - 32 else c.toNat := by
  unfold up
  split
  · rename_i h
    rw [UInt8.toNat_sub_of_le _ _ (by rw [UInt8.le_iff_toNat_le]; simp; omega)]; simp
  · rfl
theorem up_up (c : UInt8) : up (up c) = up c := by
  apply UInt8.toNat_inj.1
  have h1 := up_toNat c
  have h2 := up_toNat (up c)
  split at h1 <;> split at h2 <;> omega
theorem upper_upper (s : ByteArray) : upper (upper s) = upper s := by
  apply lst_inj
  rw [lst_upper, lst_upper, List.map_map]
  have : up ∘ up = up := by funext c; exact up_up c
  rw [this]
theorem upper_app (s t : ByteArray) : upper (s ++ t) = upper s ++ upper t := by
  apply lst_inj
  rw [lst_append, lst_upper, lst_upper, lst_upper, lst_append, List.map_append]
theorem upper_small (s : ByteArray) (k : Nat) (h : k < (upper s).size) : ¬ (97 ≤ (upper s)[k].toNat ∧ (upper s)[k].toNat ≤ 122) := by
  have hl : k < (lst (upper s)).length := by rw [lst_length]; exact h
  have hm := List.getElem_mem hl
  have e : (lst (upper s))[k] = (upper s)[k] := rfl
  rw [e] at hm
  generalize (upper s)[k] = c at *
  rw [lst_upper] at hm
  obtain ⟨b, _, rfl⟩ := List.mem_map.1 hm
  rw [up_toNat]
  split <;> omega

end Go.Proofs.Ytmcjnhbabmajhaa.Lex
