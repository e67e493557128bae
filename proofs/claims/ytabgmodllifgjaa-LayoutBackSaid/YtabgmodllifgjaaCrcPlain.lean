/- Plain laws of CRC-32C on natural numbers: no program in sight. -/
namespace Crc

def poly : Nat := 2197175160
/-- One bit step of the register. -/
def st (x : Nat) : Nat := (x / 2) ^^^ (poly * (x % 2))
def stN : Nat → Nat → Nat
  | 0, x => x
  | k + 1, x => st (stN k x)
def el (x : Nat) : Nat := stN 8 x
def up (c b : Nat) : Nat := el ((c ^^^ b) % 256) ^^^ (c / 256)
def raw (c : Nat) (l : List UInt8) : Nat := l.foldl (fun c b => up c b.toNat) c
def crc (c : Nat) (l : List UInt8) : Nat := 4294967295 - raw (4294967295 - c) l

theorem xor_lt {a b : Nat} (ha : a < 4294967296) (hb : b < 4294967296) : a ^^^ b < 4294967296 := Nat.xor_lt_two_pow (n := 32) ha hb
theorem st_lt {x : Nat} (h : x < 4294967296) : st x < 4294967296 := by
  unfold st poly; exact xor_lt (by omega) (by omega)
theorem stN_lt {x : Nat} (h : x < 4294967296) : ∀ k, stN k x < 4294967296
  | 0 => h
  | k + 1 => st_lt (stN_lt h k)
theorem stN_succ' (k x : Nat) : stN (k + 1) x = stN k (st x) := by
  induction k with
  | zero => rfl
  | succ k ih => show st (stN (k + 1) x) = st (stN k (st x)); rw [ih]
theorem stN_add (j k x : Nat) : stN (j + k) x = stN j (stN k x) := by
  induction j with
  | zero => simp [stN]
  | succ j ih => rw [Nat.add_right_comm]; simp [stN, ih]
theorem el_lt {x : Nat} (h : x < 4294967296) : el x < 4294967296 := stN_lt h 8
theorem up_lt {c b : Nat} (hc : c < 4294967296) : up c b < 4294967296 := xor_lt (el_lt (by omega)) (by omega)
theorem raw_lt (l : List UInt8) : ∀ {c : Nat}, c < 4294967296 → raw c l < 4294967296 := by
  induction l with
  | nil => intro c h; exact h
  | cons b l ih => intro c h; exact ih (up_lt h)
theorem raw_append (c : Nat) (a b : List UInt8) : raw c (a ++ b) = raw (raw c a) b := by simp [raw]
theorem raw_take_succ (c : Nat) (l : List UInt8) (k : Nat) (h : k < l.length) : raw c (l.take (k + 1)) = up (raw c (l.take k)) l[k].toNat := by
  rw [List.take_succ_eq_append_getElem h, raw_append]; rfl
theorem crc_lt (c : Nat) (l : List UInt8) : crc c l < 4294967296 := by unfold crc; omega
theorem crc_append (c : Nat) (hc : c < 4294967296) (a b : List UInt8) : crc (crc c a) b = crc c (a ++ b) := by
  have h := raw_lt a (c := 4294967295 - c) (by omega)
  unfold crc
  rw [raw_append]
  congr 2
  omega

theorem up_alt (c b : Nat) (hb : b < 256) : up c b = el ((c % 256) ^^^ b) ^^^ (c / 256) := by
  have h : (c ^^^ b) % 256 = (c % 256) ^^^ b := by
    have := Nat.xor_mod_two_pow (a := c) (b := b) (n := 8)
    rw [show (2 : Nat) ^ 8 = 256 from rfl] at this
    rw [this, Nat.mod_eq_of_lt hb]
  unfold up; rw [h]
theorem xor_lt256 {a b : Nat} (ha : a < 256) (hb : b < 256) : a ^^^ b < 256 := Nat.xor_lt_two_pow (n := 8) ha hb

theorem xor_mod_two (a b : Nat) : (a ^^^ b) % 2 = (a % 2) ^^^ (b % 2) := Nat.xor_mod_two_pow (n := 1)
theorem xor_div_two (a b : Nat) : (a ^^^ b) / 2 = (a / 2) ^^^ (b / 2) := Nat.xor_div_two_pow (n := 1)
theorem xor_comm4 (a b c d : Nat) : (a ^^^ b) ^^^ (c ^^^ d) = (a ^^^ c) ^^^ (b ^^^ d) := by
  rw [Nat.xor_assoc, Nat.xor_assoc, ← Nat.xor_assoc b c d, Nat.xor_comm b c, Nat.xor_assoc c b d]
theorem st_xor (a b : Nat) : st (a ^^^ b) = st a ^^^ st b := by
  unfold st
  rw [xor_mod_two, xor_div_two, xor_comm4]
  congr 1
  rcases Nat.mod_two_eq_zero_or_one a with ha | ha <;> rcases Nat.mod_two_eq_zero_or_one b with hb | hb <;> rw [ha, hb] <;> simp
theorem stN_xor (k a b : Nat) : stN k (a ^^^ b) = stN k a ^^^ stN k b := by
  induction k with
  | zero => rfl
  | succ k ih => simp [stN, ih, st_xor]
theorem el_xor (a b : Nat) : el (a ^^^ b) = el a ^^^ el b := stN_xor 8 a b

end Crc
