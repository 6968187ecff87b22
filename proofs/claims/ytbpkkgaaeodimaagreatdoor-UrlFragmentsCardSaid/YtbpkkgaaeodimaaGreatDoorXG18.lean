import Derived.Test.YtbpkkgaaeodimaaGreatDoorXG17
namespace Go.Proofs.YtbpkkgaaeodimaaGreatDoor
open Go.RowKit

def dotT (u : UrlS) : List UInt8 := if u.hasHost = false ∧ u.opaq = false ∧ 1 < u.path.length ∧ u.path.head? = some [] then [47, 46] else []
def fragT (u : UrlS) : List UInt8 := if u.hasFrag = true then 35 :: u.frag else []
def bodyT (u : UrlS) : List UInt8 := (if u.hasHost = true then 47 :: 47 :: authT u else []) ++ (dotT u ++ (pathT u.opaq u.path ++ queryT u))
theorem bare_body (u : UrlS) : bareS u = u.scheme ++ 58 :: bodyT u := by
  unfold bareS bodyT authT credT portT dotT pathT queryT
  cases u.hasHost <;> simp
theorem text_body (u : UrlS) : textS u = (u.scheme ++ 58 :: bodyT u) ++ fragT u := by
  unfold textS
  rw [bare_body]; rfl
theorem not_opaq {u : UrlS} (g : Good u) (h : u.hasHost = true) : u.opaq = false := by
  cases e : u.opaq
  · rfl
  · rw [(g.opq e).1] at h; cases h
theorem auth_bytes {u : UrlS} (g : Good u) (h : u.hasHost = true) : ∀ x ∈ authT u, 33 ≤ x.toNat ∧ x.toNat ≤ 126 ∧ x ≠ 35 ∧ x ≠ 47 ∧ x ≠ 63 ∧ x ≠ 92 := by
  intro x hx
  have h6 : ∀ y : UInt8, inSet 6 y.toNat = false → 33 ≤ y.toNat ∧ y.toNat ≤ 126 ∧ y ≠ 35 ∧ y ≠ 47 ∧ y ≠ 63 ∧ y ≠ 92 := by
    intro y hy
    obtain ⟨a1, a2, a3, a4, a5, a6, a7⟩ := set6 y hy
    have := in_ctl 6 (by decide) y hy
    refine ⟨?_, this.2, a1, a2, a4, a6⟩
    have : y.toNat ≠ 32 := fun e => a7 (UInt8.toNat_inj.1 (by simpa using e))
    omega
  unfold authT credT at hx
  simp only [List.mem_append] at hx
  rcases hx with ((hx | hx) | hx) | hx | hx
  · exact h6 x (g.usr x hx)
  · split at hx
    · rcases List.mem_cons.1 hx with rfl | hx
      · decide
      · exact h6 x (g.pas x hx)
    · simp at hx
  · split at hx
    · rw [List.mem_singleton] at hx; subst hx; decide
    · simp at hx
  · obtain ⟨a1, a2, a3, a4, a5, _, a7⟩ := (host_bytes (g.hst h).1).1 x hx
    exact ⟨a1, a2, a3, a4, a5, a7⟩
  · have := port_bytes g x hx
    refine ⟨by omega, by omega, u8_ne (by simp; omega), u8_ne (by simp; omega), u8_ne (by simp; omega), u8_ne (by simp; omega)⟩
theorem query_bytes {u : UrlS} (g : Good u) : ∀ x ∈ queryT u, 33 ≤ x.toNat ∧ x.toNat ≤ 126 ∧ x ≠ 35 := by
  intro x hx
  unfold queryT at hx
  split at hx
  · rcases List.mem_cons.1 hx with rfl | hx
    · decide
    · obtain ⟨a1, a2, a3, a4⟩ := setQ_is _ x (g.qry.1 x hx)
      have : x.toNat ≠ 32 := fun e => a2 (UInt8.toNat_inj.1 (by simpa using e))
      exact ⟨by omega, a4, a1⟩
  · simp at hx
theorem fragT_bytes {u : UrlS} (g : Good u) : ∀ x ∈ fragT u, 33 ≤ x.toNat ∧ x.toNat ≤ 126 := by
  intro x hx
  unfold fragT at hx
  split at hx
  · rcases List.mem_cons.1 hx with rfl | hx
    · decide
    · obtain ⟨a1, a2, a3⟩ := set2_is x (g.frg.1 x hx)
      have : x.toNat ≠ 32 := fun e => a1 (UInt8.toNat_inj.1 (by simpa using e))
      exact ⟨by omega, a3⟩
  · simp at hx
theorem path_bytes {u : UrlS} (g : Good u) : ∀ x ∈ pathT u.opaq u.path, 32 ≤ x.toNat ∧ x.toNat ≤ 126 ∧ x ≠ 35 ∧ x ≠ 63 ∧ (u.opaq = false → 33 ≤ x.toNat) := by
  intro x hx
  cases ho : u.opaq
  · rw [ho] at hx
    rcases pathT_mem false _ x hx with ⟨rfl, _⟩ | ⟨p, hp, hx⟩
    · decide
    · have h5 := (((g.pth ho).1 p hp).2 x hx).1
      obtain ⟨a1, a2, a3⟩ := set5 x h5
      have := in_ctl 5 (by decide) x h5
      have h32 : x.toNat ≠ 32 := fun e => a3 (UInt8.toNat_inj.1 (by simpa using e))
      exact ⟨this.1, this.2, a1, a2, fun _ => by omega⟩
  · rw [ho] at hx
    obtain ⟨_, _, p, hp, hb, _⟩ := g.opq ho
    rcases pathT_mem true _ x hx with ⟨_, e⟩ | ⟨q, hq, hx⟩
    · cases e
    · rw [hp, List.mem_singleton] at hq
      subst hq
      obtain ⟨a1, a2, a3⟩ := hb x hx
      have := in_ctl 1 (by decide) x a1
      exact ⟨this.1, this.2, a3, a2, fun e => by cases e⟩
theorem dotT_bytes (u : UrlS) : ∀ x ∈ dotT u, x = 47 ∨ x = 46 := by
  intro x hx
  unfold dotT at hx
  split at hx
  · simpa using hx
  · simp at hx
theorem body_bytes {u : UrlS} (g : Good u) : ∀ x ∈ bodyT u, 32 ≤ x.toNat ∧ x.toNat ≤ 126 ∧ x ≠ 35 ∧ (u.opaq = false → 33 ≤ x.toNat) := by
  intro x hx
  unfold bodyT at hx
  simp only [List.mem_append] at hx
  rcases hx with hx | hx | hx | hx
  · split at hx
    · rename_i hh
      simp only [List.mem_cons] at hx
      rcases hx with rfl | rfl | hx
      · exact ⟨by decide, by decide, by decide, fun _ => by decide⟩
      · exact ⟨by decide, by decide, by decide, fun _ => by decide⟩
      · obtain ⟨a1, a2, a3, _⟩ := auth_bytes g hh x hx
        exact ⟨by omega, a2, a3, fun _ => a1⟩
    · simp at hx
  · rcases dotT_bytes u x hx with rfl | rfl
    · exact ⟨by decide, by decide, by decide, fun _ => by decide⟩
    · exact ⟨by decide, by decide, by decide, fun _ => by decide⟩
  · obtain ⟨a1, a2, a3, _, a5⟩ := path_bytes g x hx
    exact ⟨a1, a2, a3, a5⟩
  · obtain ⟨a1, a2, a3⟩ := query_bytes g x hx
    exact ⟨by omega, a2, a3, fun _ => a1⟩
/-- What is behind a scheme is read back. -/
def base0 (u : UrlS) : UrlS := { noUrl with hasFrag := u.hasFrag, frag := u.frag, scheme := u.scheme }
theorem begins_not {c : UInt8} {r : List UInt8} (hc : c ≠ 47) : begins (47 :: c :: r) [47, 47] = false := by
  unfold begins
  simp
  exact hc
theorem begins_head {r : List UInt8} (h : r.head? ≠ some 47) : begins r [47, 47] = false ∧ begins r [47] = false := by
  cases r with
  | nil => exact ⟨rfl, rfl⟩
  | cons x t =>
    have hx : x ≠ 47 := by simpa using h
    refine ⟨?_, begins_no hx⟩
    unfold begins
    rw [Bool.eq_false_iff]
    intro e
    simp only [Bool.and_eq_true, beq_iff_eq] at e
    have := congrArg List.head? e.2
    simp at this
    exact hx this
theorem allS_special {u0 : UrlS} {l : List UInt8} (h : specialS u0.scheme = true) : allS u0 l = behindS u0 ((slashS l).dropWhile (· == 47)) := by
  unfold allS
  simp only []
  rw [if_pos h, behindS_port]
theorem allS_two {u0 : UrlS} {l : List UInt8} (h : specialS u0.scheme = false) (h2 : begins l [47, 47] = true) : allS u0 l = behindS u0 (l.drop 2) := by
  unfold allS
  simp only []
  rw [if_neg (by rw [h]; decide), if_pos h2, behindS_port]
theorem allS_one {u0 : UrlS} {l : List UInt8} (h : specialS u0.scheme = false) (h2 : begins l [47, 47] = false) (h3 : begins l [47] = true) : allS u0 l = .ok (rootedS { u0 with port := -1 } l) := by
  unfold allS
  simp only []
  rw [if_neg (by rw [h]; decide), if_neg (by rw [h2]; decide), if_pos h3]
theorem allS_opaq {u0 : UrlS} {l : List UInt8} (h : specialS u0.scheme = false) (h2 : begins l [47, 47] = false) (h3 : begins l [47] = false) : allS u0 l = .ok { (queryS { u0 with port := -1 } l).1 with opaq := true, path := [percent 1 (aheadQ l)] } := by
  unfold allS
  simp only []
  rw [if_neg (by rw [h]; decide), if_neg (by rw [h2]; decide), if_neg (by rw [h3]; decide)]
theorem all_host {u : UrlS} (g : Good u) (hh : u.hasHost = true) : allS (base0 u) (bodyT u) = .ok u := by
  have ho := not_opaq g hh
  have hd : dotT u = [] := by unfold dotT; rw [if_neg (by rw [hh]; simp)]
  have hb : bodyT u = [47, 47] ++ (authT u ++ (pathT false u.path ++ queryT u)) := by
    unfold bodyT
    rw [if_pos hh, hd, ho]; simp
  have ha := auth_bytes g hh
  have hrest : ∀ x, (pathT false u.path ++ queryT u).head? = some x → (!stopB x) = false := by
    intro x hx
    rcases pathT_head u.path with ⟨t, ht⟩ | h
    · rw [ht] at hx
      simp at hx
      subst hx; rfl
    · rw [h] at hx
      have := queryT_head u x hx
      rw [this]; rfl
  have hstop : ∀ x ∈ authT u, (!stopB x) = true := by
    intro x hx
    obtain ⟨_, _, _, h4, h5, _⟩ := ha x hx
    simp [stopB, h4, h5]
  obtain ⟨t1, t2⟩ := tw_stop (p := fun x => !stopB x) (authT u) (pathT false u.path ++ queryT u) hstop hrest
  have hbe : ∀ u0 : UrlS, u0.scheme = u.scheme → u0.user = [] → u0.pass = [] → behindS u0 (authT u ++ (pathT false u.path ++ queryT u)) = .ok { u0 with user := u.user, pass := u.pass, port := u.port, host := u.host, hasHost := true, path := u.path, hasQuery := u.hasQuery, query := u.query } := by
    intro u0 h0 h1 h2
    unfold behindS
    rw [t1, t2, auth_text g hh h0 h1 h2]
    simp only []
    exact congrArg Except.ok (rooted_text (u0 := { u0 with user := u.user, pass := u.pass, port := u.port, host := u.host, hasHost := true }) g ho h0 (fun e => by
      cases es : specialS u.scheme
      · rfl
      · exact absurd e (g.spc es).2.1))
  have hfin : ({ base0 u with user := u.user, pass := u.pass, port := u.port, host := u.host, hasHost := true, path := u.path, hasQuery := u.hasQuery, query := u.query } : UrlS) = u := by
    cases u
    simp only [] at hh ho
    simp [base0, noUrl, hh, ho]
  by_cases hs : specialS u.scheme = true
  · rw [allS_special (u0 := base0 u) hs]
    obtain ⟨_, hp, h92⟩ := g.spc hs
    have hne : u.host ≠ [] := by
      have := (g.hst hh).1
      rw [hs] at this
      exact special_host this
    have e : slashS (bodyT u) = bodyT u := by
      have : bodyT u = ([47, 47] ++ (authT u ++ pathT false u.path)) ++ queryT u := by rw [hb]; simp
      rw [this]
      refine slash_id _ _ (fun x hx => ?_) (queryT_head u)
      simp only [List.mem_append, List.mem_cons, List.not_mem_nil, or_false] at hx
      rcases hx with (rfl | rfl) | hx | hx
      · decide
      · decide
      · exact (ha x hx).2.2.2.2.2
      · rcases pathT_mem false _ x hx with ⟨rfl, _⟩ | ⟨p, hp, hx⟩
        · decide
        · exact h92 p hp x hx
    obtain ⟨_, d2⟩ := tw_stop (p := (· == (47 : UInt8))) [47, 47] (authT u ++ (pathT false u.path ++ queryT u)) (by decide) (by
      intro x hx
      have hm : authT u ≠ [] := by unfold authT; simp [hne]
      cases hA : authT u with
      | nil => exact absurd hA hm
      | cons y t =>
        rw [hA] at hx
        simp at hx
        subst hx
        have := (ha y (by rw [hA]; exact List.mem_cons_self)).2.2.2.1
        simpa using this)
    rw [e, hb, d2, hbe (base0 u) rfl rfl rfl]
    exact congrArg Except.ok hfin
  · rw [allS_two (u0 := base0 u) (by exact Bool.eq_false_iff.2 hs) (by rw [hb]; unfold begins; simp), hb, List.drop_left' (by rfl), hbe (base0 u) rfl rfl rfl]
    exact congrArg Except.ok hfin
theorem all_path {u : UrlS} (g : Good u) (hh : u.hasHost = false) (ho : u.opaq = false) : allS (base0 u) (bodyT u) = .ok u := by
  have hs : specialS u.scheme = false := by
    cases e : specialS u.scheme
    · rfl
    · rw [(g.spc e).1] at hh; cases hh
  obtain ⟨n1, n2, n3, n4⟩ := g.noh hh
  have hne := (g.pth ho).2 hh
  have hpt := (g.pth ho).1
  have hfin : ({ ({ base0 u with port := -1 } : UrlS) with path := u.path, hasQuery := u.hasQuery, query := u.query } : UrlS) = u := by
    cases u
    simp only [] at hh ho n1 n2 n3 n4
    simp [base0, noUrl, hh, ho, n1, n2, n3, n4]
  have hb : bodyT u = dotT u ++ (pathT false u.path ++ queryT u) := by
    unfold bodyT
    rw [if_neg (by rw [hh]; decide), ho]; rfl
  obtain ⟨x, r, hp⟩ : ∃ x r, u.path = x :: r := by
    cases h : u.path with
    | nil => exact absurd h hne
    | cons x r => exact ⟨x, r, rfl⟩
  have hx47 : ∀ y ∈ x, y ≠ 47 := fun y hy => ((hpt x (by rw [hp]; exact List.mem_cons_self)).2 y hy).2
  by_cases hd : 1 < u.path.length ∧ u.path.head? = some []
  · have e : dotT u = [47, 46] := by unfold dotT; rw [if_pos ⟨hh, ho, hd⟩]
    rw [hb, e]
    have hq : ∀ y ∈ 47 :: 46 :: pathT false u.path, y ≠ 63 := by
      intro y hy
      simp only [List.mem_cons] at hy
      rcases hy with rfl | rfl | hy
      · decide
      · decide
      · have := path_bytes g y (by rw [ho]; exact hy)
        exact this.2.2.2.1
    have hl : [47, 46] ++ (pathT false u.path ++ queryT u) = (47 :: 46 :: pathT false u.path) ++ queryT u := rfl
    rw [hl, allS_one (u0 := base0 u) hs (by rw [List.cons_append, List.cons_append, begins_not (by decide)]) (by rw [List.cons_append]; exact begins_yes)]
    have hqt := fun v (hv : v.scheme = u.scheme) => query_text (u0 := v) g hv (47 :: 46 :: pathT false u.path) hq
    unfold rootedS
    rw [(hqt (base0 u) rfl).2, if_neg (by simp)]
    have hps : pathS [] (47 :: 46 :: pathT false u.path) = u.path := by
      unfold pathS
      rw [show slashless (47 :: 46 :: pathT false u.path) = [46] ++ pathT false u.path by unfold slashless; simp]
      rw [cut_path u.path [46] (by
        intro p hp y hy
        rcases List.mem_cons.1 hp with rfl | hp
        · rw [List.mem_singleton] at hy; subst hy; decide
        · exact ((hpt p hp).2 y hy).2)]
      rw [pathF, if_neg (by decide), if_neg hne, if_neg (by decide), pathF_id _ _ (fun p hp => ⟨(hpt p hp).1, fun y hy => ((hpt p hp).2 y hy).1⟩)]
      rfl
    rw [hps]
    exact congrArg Except.ok ((hqt { ({ base0 u with port := -1 } : UrlS) with path := u.path } rfl).1.trans hfin)
  · have e : dotT u = [] := by unfold dotT; rw [if_neg (fun h => hd h.2.2)]
    rw [hb, e, List.nil_append]
    have h1 : ∃ t, pathT false u.path ++ queryT u = 47 :: t ∧ t.head? ≠ some 47 := by
      refine ⟨x ++ (pathT false r ++ queryT u), by rw [hp]; unfold pathT; simp, ?_⟩
      cases hx : x with
      | cons y t =>
        simp
        exact hx47 y (by rw [hx]; exact List.mem_cons_self)
      | nil =>
        have hr : r = [] := by
          cases r with
          | nil => rfl
          | cons z t =>
            exact absurd ⟨by rw [hp]; simp, by rw [hp, hx]; rfl⟩ hd
        rw [hr]
        show (queryT u).head? ≠ some 47
        intro h
        have := queryT_head u _ h
        exact absurd this (by decide)
    obtain ⟨t, ht, ht2⟩ := h1
    rw [allS_one (u0 := base0 u) hs (by
      rw [ht]
      cases t with
      | nil => decide
      | cons c t => exact begins_not (by simpa using ht2)) (by rw [ht]; exact begins_yes)]
    exact congrArg Except.ok ((rooted_text (u0 := { base0 u with port := -1 }) g ho rfl (fun h => absurd h hne)).trans hfin)
theorem all_opaq {u : UrlS} (g : Good u) (ho : u.opaq = true) : allS (base0 u) (bodyT u) = .ok u := by
  obtain ⟨hh, hs, p, hp, hpb, hp47, _⟩ := g.opq ho
  obtain ⟨n1, n2, n3, n4⟩ := g.noh hh
  have hb : bodyT u = p ++ queryT u := by
    unfold bodyT dotT pathT
    rw [if_neg (by rw [hh]; decide), if_neg (by rw [ho]; simp), hp, ho]
    simp
  have hhd : (p ++ queryT u).head? ≠ some 47 := by
    cases p with
    | nil =>
      intro h
      have := queryT_head u _ h
      exact absurd this (by decide)
    | cons x t => simpa using hp47
  obtain ⟨b1, b2⟩ := begins_head hhd
  obtain ⟨q1, q2⟩ := query_text (u0 := { base0 u with port := -1 }) g rfl p (fun x hx => (hpb x hx).2.1)
  rw [hb, allS_opaq (u0 := base0 u) hs b1 b2, q1, q2, percent_fix 1 p (fun x hx => (hpb x hx).1), ← hp]
  congr 1
  cases u
  simp only [] at hh ho n1 n2 n3 n4
  simp [base0, noUrl, hh, ho, n1, n2, n3, n4]
theorem all_body {u : UrlS} (g : Good u) : allS (base0 u) (bodyT u) = .ok u := by
  cases hh : u.hasHost
  · cases ho : u.opaq
    · exact all_path g hh ho
    · exact all_opaq g ho
  · exact all_host g hh
/-- An address that is written is read back. -/
theorem parseC_text {u : UrlS} (g : Good u) : parseC (textS u) = .ok u := by
  have hn : ∀ x ∈ u.scheme ++ 58 :: bodyT u, x ≠ 35 := by
    intro x hx
    rw [List.mem_append, List.mem_cons] at hx
    rcases hx with hx | rfl | hx
    · exact (g.schB x hx).2.2
    · decide
    · exact (body_bytes g x hx).2.2.1
  have hs := seg_app 35 (u.scheme ++ 58 :: bodyT u) u.frag u.hasFrag hn g.frg.2
  have hf : fragS noUrl (textS u) = ({ noUrl with hasFrag := u.hasFrag, frag := u.frag }, u.scheme ++ 58 :: bodyT u) := by
    unfold fragS
    rw [text_body]
    unfold fragT
    rw [hs, percent_fix 2 _ g.frg.1]
  unfold parseC
  rw [hf]
  simp only []
  rw [g.sch]
  exact all_body g
theorem clean_id {t : List UInt8} (h : ∀ x ∈ t, 32 ≤ x.toNat) (h1 : ∀ x, t.head? = some x → 33 ≤ x.toNat) (h2 : ∀ x, t.getLast? = some x → 33 ≤ x.toNat) : cleanS t = t := by
  have d1 : t.dropWhile blankB = t := by
    cases t with
    | nil => rfl
    | cons x r =>
      have := h1 x rfl
      rw [List.dropWhile_cons, if_neg]
      unfold blankB
      simp only [decide_eq_true_eq]
      omega
  have d2 : rstrip blankB t = t := by
    unfold rstrip
    cases hr : t.reverse with
    | nil => rw [List.dropWhile_nil]; simpa using hr.symm
    | cons x r =>
      have hl : t.getLast? = some x := by rw [← List.head?_reverse, hr]; rfl
      have := h2 x hl
      rw [List.dropWhile_cons, if_neg (by unfold blankB; simp only [decide_eq_true_eq]; omega), ← hr, List.reverse_reverse]
  unfold cleanS trimS
  rw [d1, d2, List.filter_eq_self]
  intro x hx
  have := h x hx
  unfold lineB
  have a1 : x ≠ 9 := u8_ne (by simp; omega)
  have a2 : x ≠ 10 := u8_ne (by simp; omega)
  have a3 : x ≠ 13 := u8_ne (by simp; omega)
  simp [a1, a2, a3]
theorem text_bytes {u : UrlS} (g : Good u) : ∀ x ∈ textS u, 32 ≤ x.toNat ∧ x.toNat ≤ 126 ∧ (u.opaq = false → 33 ≤ x.toNat) := by
  intro x hx
  rw [text_body, List.mem_append, List.mem_append, List.mem_cons] at hx
  rcases hx with (hx | rfl | hx) | hx
  · have := g.schB x hx
    exact ⟨by omega, by omega, fun _ => by omega⟩
  · exact ⟨by decide, by decide, fun _ => by decide⟩
  · have := body_bytes g x hx
    exact ⟨this.1, this.2.1, this.2.2.2⟩
  · have := fragT_bytes g x hx
    exact ⟨by omega, by omega, fun _ => by omega⟩
theorem last_of {a b : List UInt8} {x : UInt8} (h : (a ++ b).getLast? = some x) : x ∈ b ∨ b = [] ∧ a.getLast? = some x := by
  rw [List.getLast?_append] at h
  cases hb : b.getLast? with
  | some y =>
    rw [hb] at h
    simp at h
    subst h
    exact .inl (List.mem_of_getLast? hb)
  | none =>
    rw [hb] at h
    exact .inr ⟨List.getLast?_eq_none_iff.1 hb, by simpa using h⟩
theorem text_last {u : UrlS} (g : Good u) : ∀ x, (textS u).getLast? = some x → 33 ≤ x.toNat := by
  intro x hx
  cases ho : u.opaq
  · exact (text_bytes g x (List.mem_of_getLast? hx)).2.2 ho
  · obtain ⟨hh, hs, p, hp, hpb, _, hl⟩ := g.opq ho
    have hb : bodyT u = p ++ queryT u := by
      unfold bodyT dotT pathT
      rw [if_neg (by rw [hh]; decide), if_neg (by rw [ho]; simp), hp, ho]
      simp
    rw [text_body] at hx
    rcases last_of hx with h | ⟨hf, hx⟩
    · exact (fragT_bytes g x h).1
    · have e : u.scheme ++ 58 :: bodyT u = ((u.scheme ++ [58]) ++ p) ++ queryT u := by rw [hb]; simp
      rw [e] at hx
      rcases last_of hx with h | ⟨hq, hx⟩
      · exact (query_bytes g x h).1
      · have f1 : u.hasFrag = false := by
          unfold fragT at hf; cases h : u.hasFrag
          · rfl
          · rw [h] at hf; simp at hf
        have f2 : u.hasQuery = false := by
          unfold queryT at hq; cases h : u.hasQuery
          · rfl
          · rw [h] at hq; simp at hq
        rcases last_of hx with h | ⟨_, hx⟩
        · rw [List.getLast?_append] at hx
          cases hpl : p.getLast? with
          | none =>
            rw [List.getLast?_eq_none_iff] at hpl
            rw [hpl] at h; simp at h
          | some y =>
            rw [hpl] at hx
            simp at hx
            subst hx
            exact hl f2 f1 y hpl
        · simp at hx
          subst hx; decide
theorem text_clean {u : UrlS} (g : Good u) : cleanS (textS u) = textS u := by
  refine clean_id (fun x hx => (text_bytes g x hx).1) (fun x hx => ?_) (text_last g)
  rw [text_body] at hx
  cases hs : u.scheme with
  | nil => exact absurd hs g.schN
  | cons y t =>
    rw [hs] at hx
    simp at hx
    subst hx
    exact (g.schB y (by rw [hs]; exact List.mem_cons_self)).1
/-- An address that was parsed, written and parsed again, is itself. -/
theorem url_back {u : UrlS} (g : Good u) (hl : (textS u).length ≤ 4096) : urlS (textS u) = .ok u := by
  unfold urlS
  rw [if_neg (by omega), text_clean g, parseC_text g]
end Go.Proofs.YtbpkkgaaeodimaaGreatDoor
