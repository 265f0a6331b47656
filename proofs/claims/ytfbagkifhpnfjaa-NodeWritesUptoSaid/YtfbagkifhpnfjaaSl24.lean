/- The evaluator of operations that change the world; that it tells the truth. No condition. -/
import Derived.Test.YtfbagkifhpnfjaaSl23
namespace Go.Sl
open Go
set_option linter.unusedVariables false
set_option linter.unusedSimpArgs false
variable {P : Program}

def bytesOf : List (List AV) → Option (List UInt8)
  | [] => some []
  | [.fv (.int .u8 (.ofNat n))] :: r => match bytesOf r with
    | some l => ck (Nat.blt n 256) (some (UInt8.ofNat n :: l))
    | none => none
  | _ => none

theorem bytesOf_ok : ∀ {els : List (List AV)} {l : List UInt8}, bytesOf els = some l → els = l.map byteA := by
  intro els
  induction els with
  | nil => intro l h; cases h; rfl
  | cons x r ih =>
    intro l h
    unfold bytesOf at h
    split at h
    · rename_i he; cases he
    · rename_i n r' he
      cases he
      split at h
      · rename_i l' hl
        obtain ⟨h1, h2⟩ := ck_some h
        cases h2
        have hn : n < 256 := Nat.le_of_ble_eq_true h1
        rw [List.map_cons, ← ih hl]
        have : (UInt8.ofNat n).toNat = n := by rw [UInt8.toNat_ofNat']; exact Nat.mod_eq_of_lt hn
        simp only [byteA, this]
        rfl
      · cases h
    · cases h

section
variable (tab : TypeId → Option TD) (fr : Frame) (H : EH)

def srcE (x : Operand) (sz : Nat) : Option (List (List AV)) :=
  match aev fr x with
  | some (.fv (.sl _ true 0 _)) => some []
  | some (.fv (.sl s false len h)) => ck (Nat.beq s sz) (some ((List.range len).map fun i => (h i).map AV.fv))
  | some (.fv (.sl0 _)) => some []
  | some (.sl n s i len _) =>
    match hget H n with
    | some (.vr cs, _) => ck (Nat.beq s sz && Nat.ble ((i + len) * sz) cs.length) (some ((List.range len).map fun k => (cs.drop ((i + k) * sz)).take sz))
    | some (.row s' false els, _) => ck (Nat.beq s sz && Nat.beq s' sz && Nat.ble (i + len) els.length) (some ((List.range len).map fun k => els.getD (i + k) []))
    | _ => none
  | some (.row n nil len) =>
    match hget H n with
    | some (.row s nil' els, _) => ck (Nat.beq s sz && Nat.beq els.length len && nil == nil') (some els)
    | _ => none
  | _ => none

theorem srcE_ok {x : Operand} {sz : Nat} {els : List (List AV)} (h : srcE fr H x sz = some els) : ASrc fr (eh H) x sz els := by
  unfold srcE at h
  split at h
  · rename_i hx; cases h; exact .nil0 _ _ hx
  · rename_i hx
    obtain ⟨h1, h2⟩ := ck_some h; cases h2
    obtain rfl := Nat.eq_of_beq_eq_true h1
    exact .fv _ _ _ hx
  · rename_i hx; cases h; exact .sl0 _ hx
  · rename_i hx
    split at h
    · rename_i hg
      obtain ⟨h1, h2⟩ := ck_some h; cases h2
      rw [Bool.and_eq_true] at h1
      obtain rfl := Nat.eq_of_beq_eq_true h1.1
      exact .flat _ _ _ _ _ _ hx (hget_has hg) (Nat.le_of_ble_eq_true h1.2)
    · rename_i hg
      obtain ⟨h1, h2⟩ := ck_some h; cases h2
      simp only [Bool.and_eq_true] at h1
      obtain rfl := Nat.eq_of_beq_eq_true h1.1.1
      obtain rfl := Nat.eq_of_beq_eq_true h1.1.2
      exact .rowPart _ _ _ _ _ _ hx (hget_has hg) (Nat.le_of_ble_eq_true h1.2)
    · cases h
  · rename_i hx
    split at h
    · rename_i hg
      obtain ⟨h1, h2⟩ := ck_some h; cases h2
      simp only [Bool.and_eq_true] at h1
      obtain rfl := Nat.eq_of_beq_eq_true h1.1.1
      obtain rfl := Nat.eq_of_beq_eq_true h1.1.2
      obtain rfl := eq_of_beq h1.2
      exact .row _ _ _ _ hx (hget_has hg)
    · cases h
  · cases h

def elemE (t : TypeId) : Option (TypeId × TD × List Z) :=
  match tab t with
  | some td => match td.kind with
    | .slice e => match tab e with
      | some ed => match ed.zero with
        | some (_, zs) => ck (Nat.beq zs.length ed.size && Nat.ble ed.bytes 65536) (some (e, ed, zs))
        | none => none
      | none => none
    | _ => none
  | none => none

theorem elemE_ok {t e : TypeId} {ed : TD} {zs : List Z} (h : elemE tab t = some (e, ed, zs)) : ∃ td ag, tab t = some td ∧ td.kind = .slice e ∧ tab e = some ed ∧ ed.zero = some (ag, zs) ∧ zs.length = ed.size ∧ Nat.ble ed.bytes 65536 = true := by
  unfold elemE at h
  split at h
  · rename_i td ht
    split at h
    · rename_i hk
      split at h
      · rename_i he
        split at h
        · rename_i hz
          obtain ⟨h1, h2⟩ := ck_some h; cases h2
          rw [Bool.and_eq_true] at h1
          exact ⟨td, _, ht, hk, he, hz, Nat.eq_of_beq_eq_true h1.1, h1.2⟩
        · cases h
      · cases h
    · cases h
  · cases h

def oneAll (els : List (List AV)) : Bool := els.all fun l => l.all AV.one

abbrev EOut := Nat × AV × EH

def appE (N : Nat) (s x : Operand) (t u : TypeId) : Option EOut :=
  match elemE tab t with
  | none => none
  | some (_, ed, _) =>
    bif Nat.beq t u then
      match srcE fr H x ed.size with
      | none => none
      | some news =>
        ck (oneAll news) (match aev fr s with
        | some (.fv (.sl _ true 0 _)) => ck (Nat.ble news.length 1073741824) (some (N + 4, .row (N + 2) news.isEmpty news.length, (N + 2, .row ed.size news.isEmpty news) :: H))
        | some (.fv (.sl0 z)) => match news with
          | [] => some (N, .fv (.sl0 z), H)
          | l :: r => ck (Nat.ble (l :: r).length 1073741824) (some (N + 2, .row N false (l :: r).length, (N, .row ed.size false (l :: r)) :: H))
        | some (.row n nil len) => match hget H n with
          | some (.row z nil' els, Hr) => ck (Nat.beq z ed.size && nil == nil' && Nat.beq els.length len && Nat.ble (els.length + news.length) 1073741824)
              (some (N + 2, .row N (nil && news.isEmpty) (els ++ news).length, (N, .row ed.size (nil && news.isEmpty) (els ++ news)) :: Hr))
          | _ => none
        | some (.sl n sz i len (some cap)) =>
          bif Nat.ble (len + news.length) cap then
            match hget H n with
            | some (.vr cs, Hr) => ck (Nat.beq sz ed.size && Nat.blt 0 cap && Nat.ble ((i + len + news.length) * ed.size) cs.length)
                (some (N, .sl n ed.size i (len + news.length) (some cap), (n, .vr (setCells cs ((i + len) * ed.size) news.flatten)) :: Hr))
            | _ => none
          else
            match srcE fr H s ed.size with
            | some olds => ck (Nat.beq sz ed.size && oneAll olds && Nat.beq olds.length len && Nat.ble (len + news.length) 1073741824)
                (some (N + 2, .row N false (olds ++ news).length, (N, .row ed.size false (olds ++ news)) :: H))
            | none => none
        | _ => none)
    else
      match tab u, aev fr x, aev fr s with
      | some ud, some (.fv (.str str)), some (.row n nil len) =>
        match ud.kind, hget H n with
        | .str, some (.row z nil' els, Hr) => ck (Nat.beq ed.size 1 && Nat.beq z 1 && nil == nil' && Nat.beq els.length len && Nat.ble (els.length + str.length) 1073741824)
            (some (N + 2, .row N (nil && str.isEmpty) (els ++ str.map byteA).length, (N, .row 1 (nil && str.isEmpty) (els ++ str.map byteA)) :: Hr))
        | _, _ => none
      | _, _, _ => none

def copyE (N : Nat) (x y : Operand) (t : TypeId) : Option EOut :=
  match elemE tab t, aev fr x with
  | some (_, ed, _), some (.sl n sz i len _) =>
    match srcE fr H y ed.size, hget H n with
    | some els, some (.vr cs, Hr) => ck (Nat.beq sz ed.size && Nat.ble ((i + len) * ed.size) cs.length && oneAll els)
        (some (N, .fv (.int .i64 (els.take len).length), (n, .vr (setCells cs (i * ed.size) (els.take len).flatten)) :: Hr))
    | _, _ => none
  | _, _ => none

/-- Operations that change the world. -/
def fxE (call : FuncId → List AV → Nat → EH → Option EOut) (N : Nat) (op : Op) : Option EOut :=
  match op with
  | .alloc t => match tab t with
    | some td => match td.zero with
      | some (_, zs) => some (N + 1, .ptr N 0 0 0, (N, .vr (zs.map fun z => AV.fv z.fv)) :: H)
      | none => none
    | none => none
  | .box _ x => match aev fr x with
    | some r => ck r.sound (some (N + 1, .ptr N 0 0 0, (N, .vr (acells r)) :: H))
    | none => none
  | .buildSlice t len parts =>
    match elemE tab t, partsE fr parts with
    | some (_, ed, zs), some ps =>
      match afill (fun i => some (i * ed.size, ed.size)) (List.replicate len (zs.map fun z => AV.fv z.fv)).flatten ps with
      | some cs => ck (Nat.beq cs.length (len * ed.size) && Nat.ble (len * ed.size) 16777216 && !Nat.beq (len * ed.size) 0) (some (N + 1, .sl N ed.size 0 len (some len), (N, .vr cs) :: H))
      | none => none
    | _, _ => none
  | .store t x y =>
    match tab t, aev fr x, aev fr y with
    | some td, some (.ptr n sz i j), some r =>
      match hget H n with
      | some (.vr cs, Hr) => ck (Nat.beq (acells r).length td.size && Nat.ble (i * sz + j + td.size) cs.length && (acells r).all AV.one) (some (N, .junk, (n, .vr (setCells cs (i * sz + j) (acells r))) :: Hr))
      | some (.row s false els, Hr) => ck (Nat.beq (acells r).length td.size && Nat.blt ((i * sz + j) / s) els.length && Nat.ble ((i * sz + j) % s + td.size) s && (acells r).all AV.one)
          (some (N, .junk, (n, .row s false (els.set ((i * sz + j) / s) (setCells (els.getD ((i * sz + j) / s) []) ((i * sz + j) % s) (acells r)))) :: Hr))
      | _ => none
    | _, _, _ => none
  | .makeSlice t x y =>
    match elemE tab t, aev fr x, aev fr y with
    | some (_, ed, zs), some (.fv (.int _ m)), some (.fv (.int _ m')) => ck (nn m && nn m' && Nat.ble m.toNat m'.toNat && Nat.ble m'.toNat 1073741824)
        (some (N + 1, .sl N ed.size 0 m.toNat (some m'.toNat), (N, .vr (List.replicate m'.toNat (zs.map fun z => AV.fv z.fv)).flatten) :: H))
    | _, _, _ => none
  | .convert s t x =>
    match tab s, tab t with
    | some sd, some td =>
      match sd.kind, td.kind with
      | .str, .slice e =>
        match tab e, aev fr x with
        | some ed, some (.fv (.str l)) => match ed.kind with
          | .int .u8 => ck (Nat.ble l.length 1073741824) (some (N + 2, .row N false (l.map byteA).length, (N, .row 1 false (l.map byteA)) :: H))
          | _ => none
        | _, _ => none
      | .slice e, .str =>
        match tab e, srcE fr H x 1 with
        | some ed, some els => match ed.kind, bytesOf els with
          | .int .u8, some l => some (N, .fv (.str l), H)
          | _, _ => none
        | _, _ => none
      | _, _ => none
    | _, _ => none
  | .call c =>
    match c.callee with
    | .builtin .append => match c.args.toList, c.argTypes.toList with
      | [s, x], [t, u] => appE tab fr H N s x t u
      | _, _ => none
    | .builtin .copy => match c.args.toList, c.argTypes.toList with
      | [s, x], [t, _] => copyE tab fr H N s x t
      | _, _ => none
    | .value f =>
      match aev fr f, c.args.toList.mapM (aev fr) with
      | some (.fn (.func g) first cap), some xs => call g (first ++ xs ++ cap) N H
      | some (.fv (.fn (.func g))), some xs => call g xs N H
      | _, _ => none
    | _ => none
  | _ => none
end

/-- What a call tells is true. -/
def CallOk (P : Program) (call : FuncId → List AV → Nat → EH → Option EOut) : Prop :=
  ∀ f args N H N' r H', call f args N H = some (N', r, H') → ACall P f args N (eh H) fun N2 r2 H2 => N2 = N' ∧ r2 = r ∧ H2 = eh H'

section
variable {tab : TypeId → Option TD} (T : TabOk P tab) {nt N : Nat} {o : Oper} {fr : Frame} {H : EH} {r : AV}
include T

theorem appE_ok {s x : Operand} {t u : TypeId} {N' : Nat} {r : AV} {H' : EH} (ho : o.op = .call { callee := .builtin .append, args := #[s, x], argTypes := #[t, u] }) (h : appE tab fr H N s x t u = some (N', r, H')) :
    AOp P nt o N fr (eh H) fun N2 r2 H2 => N2 = N' ∧ r2 = r ∧ H2 = eh H' := by
  unfold appE at h
  split at h
  · cases h
  · rename_i e ed zs hel
    obtain ⟨td, ag, ht, hk, he, hz, hzl, hby⟩ := elemE_ok tab hel
    cases hb : Nat.beq t u with
    | true =>
      rw [hb] at h
      obtain rfl := Nat.eq_of_beq_eq_true hb
      simp only [cond_true] at h
      split at h
      · cases h
      · rename_i news hsrc
        have hsrc := srcE_ok _ _ hsrc
        obtain ⟨hone, h⟩ := ck_some h
        split at h
        · rename_i hs
          obtain ⟨h1, h2⟩ := ck_some h; cases h2
          exact AOp.appendNil T ho ht hk he hz hzl hby hs hsrc hone (Nat.le_of_ble_eq_true h1) rfl
        · rename_i hs
          split at h
          · cases h
            exact AOp.appendSl0nil T ho ht hk he hs hsrc
          · obtain ⟨h1, h2⟩ := ck_some h; cases h2
            exact AOp.appendSl0 T ho ht hk he hz hzl hby hs hsrc hone rfl (Nat.le_of_ble_eq_true h1)
        · rename_i hs
          split at h
          · rename_i hg
            obtain ⟨h1, h2⟩ := ck_some h; cases h2
            simp only [Bool.and_eq_true] at h1
            obtain ⟨⟨⟨h1, h2⟩, h3⟩, h4⟩ := h1
            obtain rfl := Nat.eq_of_beq_eq_true h1
            obtain rfl := eq_of_beq h2
            obtain rfl := Nat.eq_of_beq_eq_true h3
            exact AOp.append T ho ht hk he hz hzl hby hs (hget_has hg) hsrc hone (Nat.le_of_ble_eq_true h4) rfl rfl
          · cases h
        · rename_i n sz i len cap hs
          cases hfit : Nat.ble (len + news.length) cap with
          | true =>
            rw [hfit] at h
            simp only [cond_true] at h
            split at h
            · rename_i hg
              obtain ⟨h1, h2⟩ := ck_some h; cases h2
              simp only [Bool.and_eq_true] at h1
              obtain ⟨⟨h1, h2⟩, h3⟩ := h1
              obtain rfl := Nat.eq_of_beq_eq_true h1
              exact AOp.appendFitC T ho ht hk he hs (hget_has hg) hsrc hone (Nat.le_of_ble_eq_true h2) (Nat.le_of_ble_eq_true hfit) (Nat.le_of_ble_eq_true h3)
            · cases h
          | false =>
            rw [hfit] at h
            simp only [cond_false] at h
            split at h
            · rename_i olds hold
              obtain ⟨h1, h2⟩ := ck_some h; cases h2
              simp only [Bool.and_eq_true] at h1
              obtain ⟨⟨⟨h1, h2⟩, h3⟩, h4⟩ := h1
              obtain rfl := Nat.eq_of_beq_eq_true h1
              have hlt : cap < len + news.length := Nat.lt_of_not_le fun hle => by rw [Nat.ble_eq_true_of_le hle] at hfit; cases hfit
              exact AOp.appendGrow (len2 := 0) (g := fun _ => []) (tight := true) T ho ht hk he hz hzl hby hs (srcE_ok _ _ hold) (Nat.eq_of_beq_eq_true h3) h2 hsrc hone hlt (Nat.le_of_ble_eq_true h4)
            · cases h
        · cases h
    | false =>
      rw [hb] at h
      simp only [cond_false] at h
      split at h
      · rename_i ud str n nil len hut hx hs
        split at h
        · rename_i hku hg
          obtain ⟨h1, h2⟩ := ck_some h; cases h2
          simp only [Bool.and_eq_true] at h1
          obtain ⟨⟨⟨⟨h0, h1⟩, h2⟩, h3⟩, h4⟩ := h1
          obtain rfl := Nat.eq_of_beq_eq_true h1
          obtain rfl := eq_of_beq h2
          obtain rfl := Nat.eq_of_beq_eq_true h3
          exact AOp.appendStr T ho ht hk hut hku he hz hzl (Nat.eq_of_beq_eq_true h0) hby hs (hget_has hg) hx (Nat.le_of_ble_eq_true h4) rfl rfl
        · cases h
      · cases h

theorem copyE_ok {x y : Operand} {t t' : TypeId} {N' : Nat} {r : AV} {H' : EH} (ho : o.op = .call { callee := .builtin .copy, args := #[x, y], argTypes := #[t, t'] }) (h : copyE tab fr H N x y t = some (N', r, H')) :
    AOp P nt o N fr (eh H) fun N2 r2 H2 => N2 = N' ∧ r2 = r ∧ H2 = eh H' := by
  unfold copyE at h
  split at h
  · rename_i e ed zs n sz i len cap hel hx
    obtain ⟨td, ag, ht, hk, he, hz, hzl, hby⟩ := elemE_ok tab hel
    split at h
    · rename_i els cs Hr hsrc hg
      obtain ⟨h1, h2⟩ := ck_some h; cases h2
      simp only [Bool.and_eq_true] at h1
      obtain ⟨⟨h1, h2⟩, h3⟩ := h1
      obtain rfl := Nat.eq_of_beq_eq_true h1
      exact AOp.copyC T ho ht hk he hx (hget_has hg) (srcE_ok _ _ hsrc) h3 (Nat.le_of_ble_eq_true h2) rfl
    · cases h
  · cases h

theorem fxE_ok {call : FuncId → List AV → Nat → EH → Option EOut} (hc : CallOk P call) {N' : Nat} {r : AV} {H' : EH} (h : fxE tab fr H call N o.op = some (N', r, H')) :
    AOp P nt o N fr (eh H) fun N2 r2 H2 => N2 = N' ∧ r2 = r ∧ H2 = eh H' := by
  unfold fxE at h
  split at h
  · rename_i ho
    split at h
    · rename_i ht
      split at h
      · rename_i z zs hz
        cases h
        exact (AOp.alloc T ho ht hz).revalue fun w F ρ M v hv => hv.canon (by simp)
      · cases h
    · cases h
  · rename_i ho
    split at h
    · rename_i hx
      obtain ⟨h1, h2⟩ := ck_some h; cases h2
      exact (AOp.box (P := P) ho hx h1).revalue fun w F ρ M v hv => hv.canon (by simp)
    · cases h
  · rename_i ho
    split at h
    · rename_i e ed zs ps hel hp
      obtain ⟨td, ag, ht, hk, he, hz, hzl, hby⟩ := elemE_ok tab hel
      split at h
      · rename_i cs hf
        obtain ⟨h1, h2⟩ := ck_some h; cases h2
        simp only [Bool.and_eq_true, Bool.not_eq_true'] at h1
        obtain ⟨⟨h1, h2⟩, h3⟩ := h1
        exact AOp.buildSliceC T ho ht hk he hz hp hzl hf (Nat.eq_of_beq_eq_true h1) (Nat.le_of_ble_eq_true h2) (by rintro e; rw [e] at h3; cases h3)
      · cases h
    · cases h
  · rename_i ho
    split at h
    · rename_i td n sz i j r' ht hx hy
      split at h
      · rename_i hg
        obtain ⟨h1, h2⟩ := ck_some h; cases h2
        simp only [Bool.and_eq_true] at h1
        exact AOp.storeC T ho ht hx hy (hget_has hg) (Nat.eq_of_beq_eq_true h1.1.1) (Nat.le_of_ble_eq_true h1.1.2) h1.2
      · rename_i hg
        obtain ⟨h1, h2⟩ := ck_some h; cases h2
        simp only [Bool.and_eq_true] at h1
        obtain ⟨⟨⟨h1, h2⟩, h3⟩, h4⟩ := h1
        exact AOp.storeRowC T ho ht hx (Nat.div_add_mod' _ _).symm hy (hget_has hg) (Nat.le_of_ble_eq_true h2) (Nat.eq_of_beq_eq_true h1) (Nat.le_of_ble_eq_true h3) h4
      · cases h
    · cases h
  · rename_i ho
    split at h
    · rename_i e ed zs k m k' m' hel hx hy
      obtain ⟨td, ag, ht, hk, he, hz, hzl, hby⟩ := elemE_ok tab hel
      obtain ⟨h1, h2⟩ := ck_some h; cases h2
      simp only [Bool.and_eq_true] at h1
      obtain ⟨⟨⟨h1, h2⟩, h3⟩, h4⟩ := h1
      have g1 := nn_ok h1
      have g2 := nn_ok h2
      have g3 := Nat.le_of_ble_eq_true h3
      have g4 := Nat.le_of_ble_eq_true h4
      exact AOp.makeSliceC T ho ht hk he hz hzl hby hx hy g1 (by omega) (by omega)
    · cases h
  · rename_i ho
    split at h
    · rename_i sd td hs ht
      split at h
      · rename_i e hks hkd
        split at h
        · rename_i ed l he hx
          split at h
          · rename_i hke
            obtain ⟨h1, h2⟩ := ck_some h; cases h2
            exact AOp.strBytes T ho hs hks ht hkd he hke hx (Nat.le_of_ble_eq_true h1)
          · cases h
        · cases h
      · rename_i e hks hkd
        split at h
        · rename_i ed els he hsrc
          split at h
          · rename_i l hke hby
            cases h
            exact AOp.srcStr T l ho hs hks ht hkd he hke (srcE_ok _ _ hsrc) (bytesOf_ok hby)
          · cases h
        · cases h
      · cases h
    · cases h
  · rename_i c ho
    split at h
    · rename_i hce
      split at h
      · rename_i h1 h2
        refine appE_ok T ?_ h
        rw [ho, ← hce, ← arr2 h1, ← arr2 h2]
      · cases h
    · rename_i hce
      split at h
      · rename_i t' h1 h2
        refine copyE_ok T (t' := t') ?_ h
        rw [ho, ← hce, ← arr2 h1, ← arr2 h2]
      · cases h
    · rename_i f hce
      split at h
      · rename_i g first cap xs hf hx
        exact AOp.call (args := c.args) (ts := c.argTypes) (by rw [ho, ← hce]) (.inl hf) hx (hc _ _ _ _ _ _ _ h)
      · rename_i g xs hf hx
        exact AOp.call (args := c.args) (ts := c.argTypes) (first := []) (cap := []) (by rw [ho, ← hce]) (.inr ⟨hf, rfl, rfl⟩) hx (by simpa using hc _ _ _ _ _ _ _ h)
      · cases h
    · cases h
  · cases h

end
end Go.Sl
